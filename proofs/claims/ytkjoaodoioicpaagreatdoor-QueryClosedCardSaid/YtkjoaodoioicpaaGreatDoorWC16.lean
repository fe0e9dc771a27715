/- Query (package licitlaw54): a part of the proofs of its laws; see the law's own text, which comes last in 'order'. No conditions of its own. -/
import Derived.Test.YtkjoaodoioicpaaGreatDoorWC15
set_option linter.unusedVariables false
set_option linter.unusedSimpArgs false
namespace Go.Proofs.YtkjoaodoioicpaaGreatDoor
open Go.RowKit
def basePl (a : Atm) : Plc := ⟨a.name, a.args.length, -1, 0, 0, []⟩
def argPl (a : Atm) (i : Nat) (x : Arg) : Plc := ⟨a.name, a.args.length, i, x.kind, x.num, x.text⟩
def CandP (a : Atm) (q : Plc) : Prop := q = basePl a ∨ ∃ i x, a.args[i]? = some x ∧ x.kind ≠ 1 ∧ q = argPl a i x
def Kinds (l : List Arg) : Prop := ∀ y ∈ l, y.kind = 1 ∨ y.kind = 2 ∨ y.kind = 3
theorem okP_base {a : Atm} (h : OkT a) (hl : a.args.length ≤ 1000000) : OkP (basePl a) := by
  refine ⟨h.1, by simp [basePl], ⟨?_, ?_⟩, ⟨?_, ?_⟩, ⟨?_, ?_⟩, ⟨?_, ?_⟩⟩ <;> simp only [basePl] <;> omega
theorem okP_arg {a : Atm} (h : OkT a) (hl : a.args.length ≤ 1000000) (hk : Kinds a.args) {i : Nat} {x : Arg} (hi : a.args[i]? = some x) : OkP (argPl a i x) := by
  have hm := List.mem_of_getElem? hi
  obtain ⟨h2, h2b, h2c⟩ := h.2 x hm
  have h3 := hk x hm
  have h4 := (List.getElem?_eq_some_iff.1 hi).1
  refine ⟨h.1, h2, ⟨?_, ?_⟩, ⟨?_, ?_⟩, ⟨?_, ?_⟩, ⟨?_, ?_⟩⟩ <;> simp only [argPl] <;> omega
theorem zeroP (w : World) : (zeroValue 23).run Tryz.prog w = .ok (.slice none 0 0) w := by kernel_rfl
set_option maxRecDepth 100000 in
set_option maxHeartbeats 8000000 in
theorem candQ_any (F I : Nat → Prop) (p : Nat) (L : List Atm) (x : Atm) (A : Option Addr) (n c : Nat) (w : World) (S : Nat → Prop) (hb : BaseR w F I p L) (hs : Sl w S A n c x.args) (ho : OkT x) (hN : x.args.length ≤ 1000000) (hkd : Kinds x.args) :
    Calls Tryz.prog 79 #[.pointer (some ⟨p, 0, none⟩), .agg #[.string ⟨x.name.toArray⟩, .slice A n c]] w fun e w' => ∃ q B c', CandP x q ∧ e = .returned (.slice B (idxL L q).length c') ∧ Sl w' (fun k => F k ∨ I k) B (idxL L q).length c' (idxL L q) ∧ Below w.heap.size w w' := by
  have hn := hs.len
  subst hn
  obtain ⟨fb, ib, fm, im, hbb, -, -, -, -, -, -, hmi, -, -, hidx, -⟩ := hb.ex
  have hidx2 : ∀ q, OkP q → ∃ B c', (getM im q).getD (.slice none 0 0) = .slice B (idxL L q).length c' ∧ Sl w (fun k => F k ∨ I k) B (idxL L q).length c' (idxL L q) := by
    intro q hq
    obtain ⟨B, c', e, ho, hF⟩ := hidx q hq
    exact ⟨B, c', e, (ho.sl (by decide)).wide (fun k _ hk => hk.elim .inr (fun hk => .inl (hF k hk))) (by decide)⟩
  have hlook : ∀ (z : World) (hz : Below w.heap.size w z) q (hq : OkP q) B c', (getM im q).getD (.slice none 0 0) = .slice B (idxL L q).length c' → Sem.run Tryz.prog (Instr.lookup 89 (.map (some ib)) (vPlc q) false) z = .ok (.slice B (idxL L q).length c') z := by
    intro z hz q hq B c' e
    have := (hmi.below hz).look Tryz.underlying89 (zeroP z) (k := q) hq false
    rw [e] at this
    exact this
  have hob := okP_base ho hN
  have hoa := fun i y (h : x.args[i]? = some y) => okP_arg ho hN hkd h
  obtain ⟨nm, args⟩ := x
  simp only at hs hN hoa
  have hle := hs.le
  have HID := Lib.hid hidx2; have HLK := Lib.hid hlook; have HOB := Lib.hid hob; have HOA := Lib.hid hoa; have HS := Lib.hid hs; have HBB := Lib.hid hbb; have HKD := Lib.hid hkd
  clear hidx2 hlook hob hoa hs hbb hkd hidx hmi hb ho
  have hbx : ((w.alloc (.cells #[.string ⟨nm.toArray⟩, .slice A args.length c] 31)).alloc (.cells #[.string ⟨nm.toArray⟩, .int .i64 args.length, .int .i64 (-1), .int .i64 0, .int .i64 0, .string ⟨#[]⟩] 128)).heap[w.heap.size]? = some (.cells #[.string ⟨nm.toArray⟩, .slice A args.length c] 31 (0, 0)) := blkOld (blkAt w _ rfl) _
  have hby : ((w.alloc (.cells #[.string ⟨nm.toArray⟩, .slice A args.length c] 31)).alloc (.cells #[.string ⟨nm.toArray⟩, .int .i64 args.length, .int .i64 (-1), .int .i64 0, .int .i64 0, .string ⟨#[]⟩] 128)).heap[w.heap.size + 1]? = some (.cells #[.string ⟨nm.toArray⟩, .int .i64 args.length, .int .i64 (-1), .int .i64 0, .int .i64 0, .string ⟨#[]⟩] 128 (0, 0)) := blkAt _ _ (by simp)
  have hbl : Below w.heap.size w ((w.alloc (.cells #[.string ⟨nm.toArray⟩, .slice A args.length c] 31)).alloc (.cells #[.string ⟨nm.toArray⟩, .int .i64 args.length, .int .i64 (-1), .int .i64 0, .int .i64 0, .string ⟨#[]⟩] 128)) := boxed.alloc (by simp) _
  have HBX := Lib.hid hbx; have HBY := Lib.hid hby; have HBL := Lib.hid hbl; clear hbx hby hbl
  go_enter Tryz.func79, Tryz.ntmps79
  go_wp2_with fail
  have hbx := HBX.out; have hby := HBY.out; have hbl := HBL.out
  generalize (w.alloc (.cells #[.string ⟨nm.toArray⟩, .slice A args.length c] 31)).alloc (.cells #[.string ⟨nm.toArray⟩, .int .i64 args.length, .int .i64 (-1), .int .i64 0, .int .i64 0, .string ⟨#[]⟩] 128) = W at *
  clear HBX HBY HBL
  have hbb := keptBlk hbl HBB.out
  have HX := Lib.hid (fun (z : World) (hz : Below W.heap.size W z) => And.intro ((cell_blk (keptBlk hz hbb) 1).trans rfl) (And.intro ((cell_blk (keptBlk hz hbx) 0).trans rfl) (And.intro ((cell_blk (keptBlk hz hbx) 1).trans rfl) (And.intro ((cell_blk (keptBlk hz hby) 0).trans rfl) (And.intro ((cell_blk (keptBlk hz hby) 1).trans rfl) (And.intro ((cell_blk (keptBlk hz hby) 2).trans rfl) (And.intro ((cell_blk (keptBlk hz hby) 3).trans rfl) (And.intro ((cell_blk (keptBlk hz hby) 4).trans rfl) ((cell_blk (keptBlk hz hby) 5).trans rfl)))))))))
  have HT := Lib.hid (fun (z : World) (hz : Below W.heap.size W z) => hbl.trans (hz.mono hbl.size))
  clear hbb hbx hby hbl HBB
  obtain ⟨B0, c0, e0, s0⟩ := HID.out _ HOB.out
  have HL0 := Lib.hid (fun (z : World) (hz : Below W.heap.size W z) => HLK.out z (HT.out z hz) _ HOB.out _ _ e0)
  refine wpH_region (fun z => Below W.heap.size W z) (by kernel_rfl) ?_
  have hS : Below W.heap.size W W.drew := (Below.refl _ _).drew
  (refine tkW 0 (v := ?_) hS ?_ ?_; rotate_left; (focus (intro x hx; have fx := HX.out x hx; go_simp; (try with_reducible rfl); done)); (try simp only [Act.put, lsa, lsz, lss]))
  (refine tkW 1 (v := ?_) hS ?_ ?_; rotate_left; (focus (intro x hx; have fx := HX.out x hx; go_simp; (try with_reducible rfl); done)); (try simp only [Act.put, lsa, lsz, lss]))
  (refine tkW 2 (v := ?_) hS ?_ ?_; rotate_left; (focus (intro x hx; have fx := HX.out x hx; go_simp; (try with_reducible rfl); done)); (try simp only [Act.put, lsa, lsz, lss]))
  (refine tkW 3 (v := ?_) hS ?_ ?_; rotate_left; (focus (intro x hx; have fx := HX.out x hx; go_simp; (try with_reducible rfl); done)); (try simp only [Act.put, lsa, lsz, lss]))
  (refine tkW 4 (v := ?_) hS ?_ ?_; rotate_left; (focus (intro x hx; have fx := HX.out x hx; go_simp; (try with_reducible rfl); done)); (try simp only [Act.put, lsa, lsz, lss]))
  refine wpAnyH_takeW 5 rfl rfl (by kernel_rfl) (by kernel_rfl) (by kernel_rfl) (fun _ _ _ h => h) (v := .slice B0 (idxL L (basePl ⟨nm, args⟩)).length c0) (by kernel_rfl) hS (fun x hx => by have fx := HX.out x hx; go_simp; rw [show Sem.run Tryz.prog (Instr.lookup 89 (.map (some ib)) (.agg #[.string ⟨nm.toArray⟩, .int .i64 args.length, .int .i64 (-1), .int .i64 0, .int .i64 0, .string ⟨#[]⟩]) false) x = .ok (.slice B0 (idxL L (basePl ⟨nm, args⟩)).length c0) x from HL0.out x hx]; rfl) ?_
  simp only [Act.put, lsa, lsz, lss]
  (refine tkW 6 (v := ?_) hS ?_ ?_; rotate_left; (focus (intro x hx; have fx := HX.out x hx; go_simp; (try with_reducible rfl); done)); (try simp only [Act.put, lsa, lsz, lss]))
  refine wpAnyH_done (by kernel_rfl) ?_ _
  obtain ⟨q1, q2, q3, -⟩ := HX.out _ hS
  have HS1 := Lib.hid hS
  generalize hWd : W.drew = W1 at *
  clear hS hWd
  go_wp2_with fail
  clear q1 q2 q3
  go_loopw [6, 25] (fun o i wr => ∃ k : Nat, k ≤ args.length ∧ i = .int .i64 k ∧ Below W1.heap.size W1 wr ∧ ∃ q B c', CandP ⟨nm, args⟩ q ∧ o = .slice B (idxL L q).length c' ∧ Sl w (fun k => F k ∨ I k) B (idxL L q).length c' (idxL L q)) (fun _ i _ => args.length - (intOf i).toNat)
  case atStart => exact ⟨0, by omega, rfl, Below.refl _ _, _, B0, c0, .inl rfl, rfl, s0⟩
  case round =>
    obtain ⟨k, hk, rfl, hb, q, B, c', hq, rfl, hsl⟩ := hrel
    have hbW : Below W.heap.size W wr := HS1.out.trans (hb.mono HS1.out.size)
    by_cases hlt : k < args.length
    · obtain ⟨b1, o1, rfl, -, hbs1, g1, g2, g3⟩ := (HS.out.below (HT.out _ hbW)).arg hlt
      have hki := List.getElem?_eq_getElem hlt
      have hoa := HOA.out k _ hki
      have hkk := HKD.out _ (List.getElem_mem hlt)
      generalize args[k] = y at *
      obtain ⟨yk, yt, yn⟩ := y
      simp only at g1 g2 g3 hkk
      have HQ := Lib.hid hq; have HSL := Lib.hid hsl; have HKI := Lib.hid hki; have HOA2 := Lib.hid hoa; have HBb := Lib.hid hb; have HBW := Lib.hid hbW
      clear hq hsl hki hoa hb hbW
      by_cases hy1 : yk = 1
      · subst hy1
        go_wp2_with fail
        go_roundw
        case rel => exact ⟨k + 1, by omega, by go_num, HBb.out.alloc HBb.out.size _, q, B, c', HQ.out, rfl, HSL.out⟩
        case measure => simp [intOf]; omega
      · have hyb : (yk == 1) = false := by simpa using hy1
        have hY := blkAt wr (.cells #[.int .i64 yk, .string ⟨yt.toArray⟩, .int .i64 yn] 46) rfl
        have hbY : Below W.heap.size W (wr.alloc (.cells #[.int .i64 yk, .string ⟨yt.toArray⟩, .int .i64 yn] 46)) := HBW.out.alloc HBW.out.size _
        have hbY1 : Below W1.heap.size W1 (wr.alloc (.cells #[.int .i64 yk, .string ⟨yt.toArray⟩, .int .i64 yn] 46)) := HBb.out.alloc HBb.out.size _
        have HYY := Lib.hid hY; have HBY := Lib.hid hbY; have HBY1 := Lib.hid hbY1
        clear hY hbY hbY1
        go_wp2_with fail
        have hY := HYY.out; have hbY := HBY.out; have hbY1 := HBY1.out
        generalize wr.alloc (.cells #[.int .i64 yk, .string ⟨yt.toArray⟩, .int .i64 yn] 46) = W5 at *
        clear HYY HBY HBY1 g1 g2 g3
        have HX' := Lib.hid (fun (z : World) (hz : Below W5.heap.size W5 z) => And.intro ((cell_blk (keptBlk hz hY) 0).trans rfl) (And.intro ((cell_blk (keptBlk hz hY) 1).trans rfl) (And.intro ((cell_blk (keptBlk hz hY) 2).trans rfl) (HX.out z (hbY.trans (hz.mono hbY.size))))))
        obtain ⟨B2, c2, e2, s2⟩ := HID.out _ HOA2.out
        have HL2 := Lib.hid (fun (z : World) (hz : Below W5.heap.size W5 z) => HLK.out z (HT.out z (hbY.trans (hz.mono hbY.size))) _ HOA2.out _ _ e2)
        have HBY := Lib.hid hbY; have HBY1 := Lib.hid hbY1; have HS2 := Lib.hid s2
        clear hY hbY hbY1 e2 s2
        replace HX := HX'
        refine wpH_region (fun z => Below W5.heap.size W5 z) (by kernel_rfl) ?_
        have hS : Below W5.heap.size W5 W5.drew := (Below.refl _ _).drew
        (refine tkW 0 (v := ?_) hS ?_ ?_; rotate_left; (focus (intro x hx; have fx := HX.out x hx; go_simp; (try with_reducible rfl); done)); (try simp only [Act.put, lsa, lsz, lss]))
        (refine tkW 1 (v := ?_) hS ?_ ?_; rotate_left; (focus (intro x hx; have fx := HX.out x hx; go_simp; (try with_reducible rfl); done)); (try simp only [Act.put, lsa, lsz, lss]))
        (refine tkW 2 (v := ?_) hS ?_ ?_; rotate_left; (focus (intro x hx; have fx := HX.out x hx; go_simp; (try with_reducible rfl); done)); (try simp only [Act.put, lsa, lsz, lss]))
        (refine tkW 3 (v := ?_) hS ?_ ?_; rotate_left; (focus (intro x hx; have fx := HX.out x hx; go_simp; (try with_reducible rfl); done)); (try simp only [Act.put, lsa, lsz, lss]))
        (refine tkW 4 (v := ?_) hS ?_ ?_; rotate_left; (focus (intro x hx; have fx := HX.out x hx; go_simp; (try with_reducible rfl); done)); (try simp only [Act.put, lsa, lsz, lss]))
        (refine tkW 5 (v := ?_) hS ?_ ?_; rotate_left; (focus (intro x hx; have fx := HX.out x hx; go_simp; (try with_reducible rfl); done)); (try simp only [Act.put, lsa, lsz, lss]))
        (refine tkW 6 (v := ?_) hS ?_ ?_; rotate_left; (focus (intro x hx; have fx := HX.out x hx; go_simp; (try with_reducible rfl); done)); (try simp only [Act.put, lsa, lsz, lss]))
        (refine tkW 7 (v := ?_) hS ?_ ?_; rotate_left; (focus (intro x hx; have fx := HX.out x hx; go_simp; (try with_reducible rfl); done)); (try simp only [Act.put, lsa, lsz, lss]))
        (refine tkW 8 (v := ?_) hS ?_ ?_; rotate_left; (focus (intro x hx; have fx := HX.out x hx; go_simp; (try with_reducible rfl); done)); (try simp only [Act.put, lsa, lsz, lss]))
        (refine tkW 9 (v := ?_) hS ?_ ?_; rotate_left; (focus (intro x hx; have fx := HX.out x hx; go_simp; (try with_reducible rfl); done)); (try simp only [Act.put, lsa, lsz, lss]))
        (refine tkW 10 (v := ?_) hS ?_ ?_; rotate_left; (focus (intro x hx; have fx := HX.out x hx; go_simp; (try with_reducible rfl); done)); (try simp only [Act.put, lsa, lsz, lss]))
        (refine tkW 11 (v := ?_) hS ?_ ?_; rotate_left; (focus (intro x hx; have fx := HX.out x hx; go_simp; (try with_reducible rfl); done)); (try simp only [Act.put, lsa, lsz, lss]))
        (refine tkW 12 (v := ?_) hS ?_ ?_; rotate_left; (focus (intro x hx; have fx := HX.out x hx; go_simp; (try with_reducible rfl); done)); (try simp only [Act.put, lsa, lsz, lss]))
        (refine tkW 13 (v := ?_) hS ?_ ?_; rotate_left; (focus (intro x hx; have fx := HX.out x hx; go_simp; (try with_reducible rfl); done)); (try simp only [Act.put, lsa, lsz, lss]))
        (refine tkW 14 (v := ?_) hS ?_ ?_; rotate_left; (focus (intro x hx; have fx := HX.out x hx; go_simp; (try with_reducible rfl); done)); (try simp only [Act.put, lsa, lsz, lss]))
        (refine tkW 15 (v := ?_) hS ?_ ?_; rotate_left; (focus (intro x hx; have fx := HX.out x hx; go_simp; (try with_reducible rfl); done)); (try simp only [Act.put, lsa, lsz, lss]))
        (refine tkW 16 (v := ?_) hS ?_ ?_; rotate_left; (focus (intro x hx; have fx := HX.out x hx; go_simp; (try with_reducible rfl); done)); (try simp only [Act.put, lsa, lsz, lss]))
        refine wpAnyH_takeW 17 rfl rfl (by kernel_rfl) (by kernel_rfl) (by kernel_rfl) (fun _ _ _ h => h) (v := .slice B2 (idxL L (argPl ⟨nm, args⟩ k ⟨yk, yt, yn⟩)).length c2) (by kernel_rfl) hS (fun x hx => by have fx := HX.out x hx; go_simp; rw [show Sem.run Tryz.prog (Instr.lookup 89 (.map (some ib)) (.agg #[.string ⟨nm.toArray⟩, .int .i64 args.length, .int .i64 k, .int .i64 yk, .int .i64 yn, .string ⟨yt.toArray⟩]) false) x = .ok (.slice B2 (idxL L (argPl ⟨nm, args⟩ k ⟨yk, yt, yn⟩)).length c2) x from HL2.out x hx]; rfl) ?_
        simp only [Act.put, lsa, lsz, lss]
        (refine tkW 18 (v := ?_) hS ?_ ?_; rotate_left; (focus (intro x hx; have fx := HX.out x hx; go_simp; (try with_reducible rfl); done)); (try simp only [Act.put, lsa, lsz, lss]))
        refine wpAnyH_done (by kernel_rfl) ?_ _
        have hbz := HBY1.out.trans (hS.mono HBY1.out.size)
        have hcp : CandP ⟨nm, args⟩ (argPl ⟨nm, args⟩ k ⟨yk, yt, yn⟩) := .inr ⟨k, _, HKI.out, hy1, rfl⟩
        have HCP := Lib.hid hcp; have HBZ := Lib.hid hbz
        clear hcp hbz HX HL2
        generalize argPl ⟨nm, args⟩ k ⟨yk, yt, yn⟩ = q2 at *
        by_cases hlq : (idxL L q2).length < (idxL L q).length
        · have hlI : ((idxL L q2).length : Int) < ((idxL L q).length : Int) := by omega
          go_wp2_with fail
          go_roundw
          case rel => exact ⟨k + 1, by omega, by go_num, HBZ.out, q2, B2, c2, HCP.out, rfl, HS2.out⟩
          case measure => simp [intOf]; omega
        · have hlI : ¬ ((idxL L q2).length : Int) < ((idxL L q).length : Int) := by omega
          go_wp2_with fail
          go_roundw
          case rel => exact ⟨k + 1, by omega, by go_num, HBZ.out, q, B, c', HQ.out, rfl, HSL.out⟩
          case measure => simp [intOf]; omega
    · have HQ := Lib.hid hq; have HSL := Lib.hid hsl
      clear hq hsl
      go_wp2_with fail
      refine bodyPost_ret (v := .slice B (idxL L q).length c') (by simp [results, Tryz.results79, go_sem]) rfl ?_
      exact ⟨q, B, c', HQ.out, rfl, HSL.out.below (HT.out _ hbW), HT.out _ hbW⟩
end Go.Proofs.YtkjoaodoioicpaaGreatDoor
namespace Go.Proofs.YtkjoaodoioicpaaGreatDoor
open Go.RowKit
def BodyOk (l : List Ltl) : Prop := ∀ x ∈ l, OkL x ∧ x.atom.args.length ≤ 1000000 ∧ (x.op.isEmpty = false → x.atom.args.length = 2)
theorem atomV_ok {v : Bnd} (h : ∀ p ∈ v, OkA p.2) {a : Atm} (ha : OkT a) : OkT (atomV v a) := by
  refine ⟨ha.1, fun y hy => ?_⟩
  obtain ⟨x, hx, rfl⟩ := List.mem_map.1 hy
  exact under_ok h (ha.2 x hx)
theorem rest_cons (L : List Atm) (v : Bnd) (l : Ltl) (r : List Ltl) : restS L v (l :: r) = if positiveS l then restS L v r else if l.op.isEmpty = false then (if compareS l.op (under v (l.atom.args.headD default)) (under v ((l.atom.args.drop 1).headD default)) then restS L v r else false) else if L.contains (atomV v l.atom) then false else restS L v r := rfl
set_option maxRecDepth 100000 in
set_option maxHeartbeats 8000000 in
theorem restQ_any (F I : Nat → Prop) (p : Nat) (L : List Atm) (v : Bnd) (b : Nat) (A : Option Addr) (n c : Nat) (l : List Ltl) (w : World) (S : Nat → Prop) (hb : BaseR w F I p L) (hm : MapA w b v) (hs : Sl w S A n c l) (ho : BodyOk l) (hL : LD w) :
    Calls Tryz.prog 77 #[.slice A n c, .map (some b), .pointer (some ⟨p, 0, none⟩)] w fun e w' => e = .returned (.bool (restS L v l)) ∧ Below w.heap.size w w' := by
  obtain ⟨V, hV⟩ : ∃ V, V = restS L v l := ⟨_, rfl⟩
  rw [← hV]
  have hn := hs.len
  subst hn
  have hle := hs.le
  have HV : Hid (V = restS L v (l.drop 0)) := hV
  have HB := Lib.hid hb; have HM := Lib.hid hm; have HS := Lib.hid hs; have HO := Lib.hid ho; have HL := Lib.hid hL
  clear hV hb hm hs ho hL
  go_enter Tryz.func77, Tryz.ntmps77
  go_wp2_with fail
  go_loopw [11] (fun i wr => ∃ k : Nat, k ≤ l.length ∧ i = .int .i64 k ∧ Below w.heap.size w wr ∧ Hid (V = restS L v (l.drop k))) (fun i _ => l.length - (intOf i).toNat)
  case atStart => exact ⟨0, by omega, rfl, Below.refl _ _, HV⟩
  case round =>
    obtain ⟨k, hk, rfl, hb, hf⟩ := hrel
    have hwr := hb.size
    by_cases hlt : k < l.length
    · obtain ⟨b1, o1, rfl, -, hbs1, A1, n1, c1, g1, g2, g3, g4, hsx⟩ := (HS.out.below hb).ltl hlt
      have hd := hf.out
      rw [drop_get hlt, rest_cons] at hd
      obtain ⟨hox, hnx, hcx⟩ := HO.out _ (List.getElem_mem hlt)
      generalize l[k] = x at *
      have hpo := fun w' => positiveQ_any x A1 n1 c1 w'
      obtain ⟨xneg, xop, xat⟩ := x
      simp only at g1 g2 g3 g4 hsx hpo hox hnx hcx hd
      have HPO := Lib.hid hpo; have HSX := Lib.hid hsx; have HBw := Lib.hid hb
      clear hpo hsx hb hf
      cases hp : positiveS ⟨xneg, xop, xat⟩
      · rw [hp] at hd HPO
        simp only [Bool.false_eq_true, if_false] at hd
        have HD := Lib.hid hd; clear hd hp
        go_wp2_with fail
        refine (HPO.out _).mono ?_
        rintro e w3 ⟨rfl, hb3⟩
        have hb4 : Below wr.heap.size wr w3 := boxed.trans (hb3.mono (by simp))
        have hx3 := keptBlk hb3 (blkAt wr (.cells #[.bool xneg, .string ⟨xop.toArray⟩, .string ⟨xat.name.toArray⟩, .slice A1 n1 c1] 60) rfl)
        have k0 := (cell_blk hx3 0).trans rfl; have k1 := (cell_blk hx3 1).trans rfl; have k2 := (cell_blk hx3 2).trans rfl; have k3 := (cell_blk hx3 3).trans rfl
        have hbw3 := HBw.out.trans (hb4.mono hwr)
        have HB4 := Lib.hid hbw3; have HX3 := Lib.hid hx3; have HS3 := Lib.hid (HSX.out.below hb4)
        clear hb3 hb4 hx3 hbw3 g1 g2 g3 g4
        cases xop with
        | nil =>
          have hd := HD.out
          simp only [List.isEmpty_nil, Bool.true_eq_false, if_false] at hd
          have hat := atomQ_any v xat b A1 n1 c1 w3 _ (HM.out.below HB4.out) HS3.out hox.2 hnx
          have hoa := atomV_ok HM.out.2 hox.2
          have hha := fun A n c w' S (hb' : Below w.heap.size w w') hs => hasQ_any F I p L (atomV v xat) A n c w' S (HB.out.below hb') hs hoa (HL.out.below hb')
          generalize atomV v xat = ya at *
          generalize L.contains ya = bl at *
          have HD2 := Lib.hid hd; have HAT := Lib.hid hat; have HHA := Lib.hid hha
          clear hd hat hha hoa HD
          go_wp2_with fail
          refine HAT.out.mono ?_
          rintro e w4 ⟨⟨A4, n4, c4, rfl, hs4⟩, hb4⟩
          have hb5 := HB4.out.trans (hb4.mono HB4.out.size)
          have HB5 := Lib.hid hb5; have HS4 := Lib.hid hs4
          clear hb4 hs4 hb5 k0 k1 k2 k3
          go_wp2_with fail
          refine (HHA.out _ _ _ _ _ HB5.out HS4.out).mono ?_
          rintro e w5 ⟨rfl, hb5⟩
          have HB6 := Lib.hid (HB5.out.trans (hb5.mono HB5.out.size)); clear hb5
          cases bl
          · go_wp2_with fail
            go_roundw
            case rel => exact ⟨k + 1, by omega, by go_num, HB6.out, HD2.out⟩
            case measure => simp [intOf]; omega
          · go_wp2_with fail
            go_ret
            exact ⟨ret_bool HD2.out, HB6.out⟩
        | cons o1 orr =>
          have hd := HD.out
          simp only [List.isEmpty_cons, if_true] at hd
          obtain ⟨xnm, xargs⟩ := xat
          have h2 := hcx rfl
          simp only at h2 hd k2
          obtain ⟨a0, a1, rfl⟩ : ∃ a0 a1, xargs = [a0, a1] := by
            match xargs, h2 with
            | [a0, a1], _ => exact ⟨a0, a1, rfl⟩
          simp only [List.headD_cons, List.drop_one, List.tail_cons] at hd
          obtain ⟨b2, o2, rfl, -, hbs2, e1, e2, e3⟩ := HS3.out.arg (k := 0) (by simp)
          obtain ⟨b3, o3, hA3, -, hbs3, f1, f2, f3⟩ := HS3.out.arg (k := 1) (by simp)
          injection hA3 with hA3
          injection hA3 with hA3 hA4
          subst hA3 hA4
          have hn1 : n1 = 2 := HS3.out.len
          subst hn1
          simp only [List.getElem_cons_zero, List.getElem_cons_succ, Nat.zero_mul, Nat.add_zero, Nat.one_mul] at e1 e2 e3 f1 f2 f3
          have HX := Lib.hid (fun (z : World) (hz : Below w3.heap.size w3 z) => And.intro (cell_later hz k1) (And.intro (cell_later hz k3) (And.intro (cell_later hz e1) (And.intro (cell_later hz e2) (And.intro (cell_later hz e3) (And.intro (cell_later hz f1) (And.intro (cell_later hz f2) (cell_later hz f3))))))))
          have u0 := fun z (hz : Below w.heap.size w z) => under_any v a0 b z (HM.out.below hz) (hox.2.2 a0 (by simp))
          have u1 := fun z (hz : Below w.heap.size w z) => under_any v a1 b z (HM.out.below hz) (hox.2.2 a1 (by simp))
          have cp := fun z => compareQ_any (o1 :: orr) (under v a0) (under v a1) z
          generalize under v a0 = y0 at *
          generalize under v a1 = y1 at *
          generalize compareS (o1 :: orr) y0 y1 = cb at *
          unfold vArg at u0 u1 cp
          have HU0 := Lib.hid u0; have HU1 := Lib.hid u1; have HCP := Lib.hid cp; have HD2 := Lib.hid hd
          clear u0 u1 cp hd HD e1 e2 e3 f1 f2 f3
          go_wp2_with fail
          refine wpH_region (fun z => Below w3.heap.size w3 z) (by kernel_rfl) ?_
          have hS : Below w3.heap.size w3 w3.drew := (Below.refl _ _).drew
          clear k0 k1 k2 k3
          (refine tkW 0 (v := ?_) hS ?_ ?_; rotate_left; (focus (intro x hx; have fx := HX.out x hx; go_simp; (try with_reducible rfl); done)); (try simp only [Act.put, lsa, lsz, lss]))
          (refine tkW 1 (v := ?_) hS ?_ ?_; rotate_left; (focus (intro x hx; have fx := HX.out x hx; go_simp; (try with_reducible rfl); done)); (try simp only [Act.put, lsa, lsz, lss]))
          (refine tkW 2 (v := ?_) hS ?_ ?_; rotate_left; (focus (intro x hx; have fx := HX.out x hx; go_simp; (try with_reducible rfl); done)); (try simp only [Act.put, lsa, lsz, lss]))
          (refine tkW 3 (v := ?_) hS ?_ ?_; rotate_left; (focus (intro x hx; have fx := HX.out x hx; go_simp; (try with_reducible rfl); done)); (try simp only [Act.put, lsa, lsz, lss]))
          (refine tkW 4 (v := ?_) hS ?_ ?_; rotate_left; (focus (intro x hx; have fx := HX.out x hx; go_simp; (try with_reducible rfl); done)); (try simp only [Act.put, lsa, lsz, lss]))
          (refine tkW 5 (v := ?_) hS ?_ ?_; rotate_left; (focus (intro x hx; have fx := HX.out x hx; go_simp; (try with_reducible rfl); done)); (try simp only [Act.put, lsa, lsz, lss]))
          (refine tkW 6 (v := ?_) hS ?_ ?_; rotate_left; (focus (intro x hx; have fx := HX.out x hx; go_simp; (try with_reducible rfl); done)); (try simp only [Act.put, lsa, lsz, lss]))
          (refine tkW 7 (v := ?_) hS ?_ ?_; rotate_left; (focus (intro x hx; have fx := HX.out x hx; go_simp; (try with_reducible rfl); done)); (try simp only [Act.put, lsa, lsz, lss]))
          (refine tkW 9 (v := ?_) hS ?_ ?_; rotate_left; (focus (intro x hx; have fx := HX.out x hx; go_simp; (try with_reducible rfl); done)); (try simp only [Act.put, lsa, lsz, lss]))
          (refine tkW 10 (v := ?_) hS ?_ ?_; rotate_left; (focus (intro x hx; have fx := HX.out x hx; go_simp; (try with_reducible rfl); done)); (try simp only [Act.put, lsa, lsz, lss]))
          (refine tkW 11 (v := ?_) hS ?_ ?_; rotate_left; (focus (intro x hx; have fx := HX.out x hx; go_simp; (try with_reducible rfl); done)); (try simp only [Act.put, lsa, lsz, lss]))
          (refine tkW 12 (v := ?_) hS ?_ ?_; rotate_left; (focus (intro x hx; have fx := HX.out x hx; go_simp; (try with_reducible rfl); done)); (try simp only [Act.put, lsa, lsz, lss]))
          (refine tkW 13 (v := ?_) hS ?_ ?_; rotate_left; (focus (intro x hx; have fx := HX.out x hx; go_simp; (try with_reducible rfl); done)); (try simp only [Act.put, lsa, lsz, lss]))
          (refine tkW 14 (v := ?_) hS ?_ ?_; rotate_left; (focus (intro x hx; have fx := HX.out x hx; go_simp; (try with_reducible rfl); done)); (try simp only [Act.put, lsa, lsz, lss]))
          (refine wpAnyH_one 8 (by kernel_rfl) rfl ?_; intro K' hK'; go_simp; refine (HU0.out _ (HB4.out.trans (hS.mono HB4.out.size))).mono ?_; rintro e w5 ⟨rfl, hb5⟩; have hS := hS.trans (hb5.mono hS.size); refine hK'.out _ _ hS ?_; clear hK' K')
          (refine wpAnyH_one 15 (by kernel_rfl) rfl ?_; intro K' hK'; go_simp; refine (HU1.out _ (HB4.out.trans (hS.mono HB4.out.size))).mono ?_; rintro e w6 ⟨rfl, hb6⟩; have hS := hS.trans (hb6.mono hS.size); refine hK'.out _ _ hS ?_; clear hK' K')
          (refine wpAnyH_one 16 (by kernel_rfl) rfl ?_; intro K' hK'; go_simp; refine (HCP.out _).mono ?_; rintro e w7 ⟨rfl, hb7⟩; have hS := hS.trans (hb7.mono hS.size); refine hK'.out _ _ hS ?_; clear hK' K')
          (refine tkW 17 (v := ?_) hS ?_ ?_; rotate_left; (focus (intro x hx; have fx := HX.out x hx; go_simp; (try with_reducible rfl); done)); (try simp only [Act.put, lsa, lsz, lss]))
          refine wpAnyH_done (by kernel_rfl) ?_ _
          have HB6 := Lib.hid (HB4.out.trans (hS.mono HB4.out.size))
          clear HX
          cases cb
          · go_wp2_with fail
            go_ret
            exact ⟨ret_bool HD2.out, HB6.out⟩
          · go_wp2_with fail
            go_roundw
            case rel => exact ⟨k + 1, by omega, by go_num, HB6.out, HD2.out⟩
            case measure => simp [intOf]; omega
      · rw [hp, if_pos rfl] at hd
        rw [hp] at HPO
        have HD := Lib.hid hd; clear hd hp
        go_wp2_with fail
        refine (HPO.out _).mono ?_
        rintro e w3 ⟨rfl, hb3⟩
        have hb4 : Below wr.heap.size wr w3 := boxed.trans (hb3.mono (by simp))
        have HB4 := Lib.hid (HBw.out.trans (hb4.mono hwr))
        clear hb3 hb4
        go_wp2_with fail
        go_roundw
        case rel => exact ⟨k + 1, by omega, by go_num, HB4.out, HD.out⟩
        case measure => simp [intOf]; omega
    · have hd := hf.out
      rw [drop_end hlt] at hd
      have HD := Lib.hid (show V = true from hd)
      clear hd hf
      go_wp2_with fail
      go_ret
      exact ⟨ret_bool HD.out, hb⟩
end Go.Proofs.YtkjoaodoioicpaaGreatDoor
namespace Go.Proofs.YtkjoaodoioicpaaGreatDoor
open Go.RowKit
theorem predS_len {s : Bs} (h : predS s = true) : s.length ≤ 32 := by
  unfold predS eachS at h
  simp only [Bool.and_eq_true, decide_eq_true_eq] at h
  exact h.2.1.1.2
theorem formedS_ok {x : Arg} (h : formedS x = true) : OkA x ∧ (x.kind = 1 ∨ x.kind = 2 ∨ x.kind = 3) := by
  unfold formedS at h
  by_cases h1 : x.kind = 1
  · rw [if_pos h1] at h
    unfold varS eachS at h
    simp only [Bool.and_eq_true, decide_eq_true_eq, beq_iff_eq] at h
    exact ⟨⟨by omega, by omega, by omega⟩, .inl h1⟩
  · rw [if_neg h1] at h
    by_cases h2 : x.kind = 2
    · rw [if_pos h2] at h
      unfold conS at h
      simp only [Bool.and_eq_true, decide_eq_true_eq, beq_iff_eq] at h
      exact ⟨⟨by omega, by omega, by omega⟩, .inr (.inl h2)⟩
    · rw [if_neg h2] at h
      by_cases h3 : x.kind = 3
      · rw [if_pos h3] at h
        simp only [Bool.and_eq_true, decide_eq_true_eq, List.isEmpty_iff] at h
        refine ⟨⟨by rw [h.1.1]; simp, by omega, by omega⟩, .inr (.inr h3)⟩
      · rw [if_neg h3] at h
        cases h
theorem atomS_okT {a : Atm} (h : atomS a = true) : OkT a ∧ a.args.length ≤ 6 ∧ Kinds a.args := by
  unfold atomS argsS at h
  simp only [Bool.and_eq_true, decide_eq_true_eq, List.all_eq_true] at h
  have := predS_len h.1.1
  exact ⟨⟨by omega, fun x hx => (formedS_ok (h.2 x hx)).1⟩, h.1.2, fun x hx => (formedS_ok (h.2 x hx)).2⟩
theorem ground_okT {a : Atm} (h : groundP a = true) : OkT a ∧ a.args.length ≤ 6 ∧ Kinds a.args := atomS_okT (ground_atomS h)
theorem iter_append {α σ : Type} (found : σ → α → σ × Bool) (l t : List α) (s : σ) : iterF found (l ++ t) s = if (iterF found l s).2 then iterF found t (iterF found l s).1 else iterF found l s := by
  induction l generalizing s with
  | nil => rfl
  | cons v r ih =>
    rw [List.cons_append, iterF, iterF]
    cases h : (found s v).2
    · simp
    · simp only [if_true]; exact ih _
theorem flatMap_filter2 {α β : Type} (p q : α → Bool) (h : α → List β) : ∀ l : List α, (∀ f ∈ l, p f ≠ q f → h f = []) → (l.filter p).flatMap h = (l.filter q).flatMap h
  | [], _ => rfl
  | f :: r, hl => by
    have ih := flatMap_filter2 p q h r fun g hg => hl g (List.mem_cons_of_mem _ hg)
    have h0 := hl f List.mem_cons_self
    rw [List.filter_cons, List.filter_cons]
    cases hp : p f <;> cases hq : q f
    · simpa using ih
    · have e := h0 (by rw [hp, hq]; decide)
      simp only [Bool.false_eq_true, if_false, if_true, List.flatMap_cons, e, List.nil_append]; exact ih
    · have e := h0 (by rw [hp, hq]; decide)
      simp only [Bool.false_eq_true, if_false, if_true, List.flatMap_cons, e, List.nil_append]; exact ih
    · simp only [if_true, List.flatMap_cons, ih]
theorem fits_cand {L : List Atm} (hg : Gr L) {v : Bnd} (hv : GrB v) {a : Atm} {q : Plc} (hq : CandP (atomV v a) q) {β : Type} (g : Bnd → List β) :
    (idxL L q).flatMap (fun f => match fitGo v a.args f.args with | some w => g w | none => []) = (candS L a).flatMap (fun f => match fitGo v a.args f.args with | some w => g w | none => []) := by
  unfold idxL candS
  refine flatMap_filter2 _ _ _ L fun f hf hne => ?_
  have hlen : (atomV v a).args.length = a.args.length := by simp [atomV]
  have hnm : (atomV v a).name = a.name := rfl
  rcases hq with rfl | ⟨i, x, hi, hk, rfl⟩
  · exfalso
    apply hne
    rw [Bool.eq_iff_iff]
    simp [matchP, basePl, hlen, hnm]
    intro _
    omega
  · by_cases hc : f.name = a.name ∧ f.args.length = a.args.length
    · have hm : matchP (argPl (atomV v a) i x) f = false := by
        cases hm : matchP (argPl (atomV v a) i x) f
        · rfl
        · exfalso; apply hne; rw [hm]; simp [hc.1, hc.2]
      cases hw : fitGo v a.args f.args with
      | none => rfl
      | some w =>
        exfalso
        obtain ⟨h1, h2, h3, h4⟩ := fit_sound a.args f.args v w hw hv (ground_args (hg f hf)) hc.2.symm
        rw [atomV, List.getElem?_map, Option.map_eq_some_iff] at hi
        obtain ⟨y, hy, rfl⟩ := hi
        have hwy : under w y = under v y := by
          by_cases hy1 : y.kind = 1
          · cases hg : getA v y.text with
            | none => exfalso; apply hk; rw [under_none hg]; exact hy1
            | some z => rw [under_some hy1 hg, under_some hy1 (h2 _ _ hg)]
          · rw [under_ne hy1, under_ne hy1]
        have hfi : f.args[i]? = some (under v y) := by rw [← h4, List.getElem?_map, hy, Option.map_some, hwy]
        rw [matchP] at hm
        simp [argPl, hlen, hnm, hc.1, hc.2, hfi] at hm
    · exfalso
      apply hne
      have e1 : (f.name == a.name && f.args.length == a.args.length) = false := by
        rw [Bool.eq_false_iff]; intro h; simp only [Bool.and_eq_true, beq_iff_eq] at h; exact hc h
      rw [e1]
      cases hm : matchP (argPl (atomV v a) i x) f
      · rfl
      · exfalso
        rw [matchP] at hm
        simp only [argPl, hlen, hnm, Bool.and_eq_true, beq_iff_eq] at hm
        exact hc ⟨hm.1.1, by omega⟩
theorem idxL_mem {L : List Atm} {v : Bnd} {a : Atm} {q : Plc} (hq : CandP (atomV v a) q) {f : Atm} (hf : f ∈ idxL L q) : f ∈ L ∧ f.args.length = a.args.length := by
  unfold idxL at hf
  rw [List.mem_filter] at hf
  refine ⟨hf.1, ?_⟩
  have hlen : (atomV v a).args.length = a.args.length := by simp [atomV]
  have hm := hf.2
  rw [matchP] at hm
  rcases hq with rfl | ⟨i, x, hi, hk, rfl⟩
  · simp only [basePl, hlen, Bool.and_eq_true, beq_iff_eq] at hm; omega
  · simp only [argPl, hlen, Bool.and_eq_true, beq_iff_eq] at hm; omega
end Go.Proofs.YtkjoaodoioicpaaGreatDoor
