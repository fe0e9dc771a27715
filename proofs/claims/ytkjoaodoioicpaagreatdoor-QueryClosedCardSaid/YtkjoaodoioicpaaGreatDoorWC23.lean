/- Query (package licitlaw54): a part of the proofs of its laws; see the law's own text, which comes last in 'order'. No conditions of its own. -/
import Derived.Lib.SliceRun
import Derived.Deep.Upon
import Derived.Test.YtkjoaodoioicpaaGreatDoorWC12
import Derived.Test.YtkjoaodoioicpaaGreatDoorWC22
set_option linter.unusedVariables false
set_option linter.unusedSimpArgs false
namespace Go.Proofs.YtkjoaodoioicpaaGreatDoor
open Go.RowKit
theorem setK_le (m : KMap) (s : Bs) (v : Int) : (setK m s v).length ≤ m.length + 1 := by rw [setK_len]; split <;> omega
set_option maxRecDepth 100000 in
set_option maxHeartbeats 8000000 in
theorem checkQ_any (A : Option Addr) (n c : Nat) (l : List Rul) (B : Option Addr) (m d : Nat) (facts : List Atm) (w : World) (S T : Nat → Prop) (hl : Sl w S A n c l) (hf : Sl w T B m d facts) (ho : ∀ r ∈ l, OkR r) (hof : ∀ a ∈ facts, OkT a) (hL : LD w) :
    Calls Tryz.prog 55 #[.slice A n c, .slice B m d] w fun e w' => e = .returned (.tuple #[.int .i64 (checkQ l facts).1, .int .i64 (checkQ l facts).2]) ∧ Below w.heap.size w w' := by
  have hn := hl.len; have hm := hf.len
  subst hn hm
  have hle := hl.le; have hle2 := hf.le
  have hck := Check_any A l.length c l w S hl ho hL
  obtain ⟨V, hV⟩ : ∃ V, V = checkQ l facts := ⟨_, rfl⟩
  rw [← hV]
  unfold checkQ at hV
  have hcok := fun h => (checkS_ok l).1 h
  have hmm := @run_makeMap Tryz.prog
  generalize checkS53 l = ck at *
  obtain ⟨ci, ce⟩ := ck
  simp only at hV hck hcok
  have HL := Lib.hid (hl.wide (S' := fun k => k < w.heap.size) (fun k hk _ => hk) (by decide)); have HF := Lib.hid (hf.wide (S' := fun k => k < w.heap.size) (fun k hk _ => hk) (by decide)); have HO := Lib.hid ho; have HOF := Lib.hid hof; have HCK := Lib.hid hck
  clear hl hf ho hof hck hL
  by_cases hce : ce = 0
  · subst hce
    obtain ⟨h64, hrs, -⟩ := hcok rfl
    rw [if_neg (by decide)] at hV
    have HRS := Lib.hid hrs; clear hrs hcok
    by_cases hfl : 1024 < facts.length
    · rw [if_pos hfl] at hV
      have hfI : (1024 : Int) < (facts.length : Int) := by omega
      have HV := Lib.hid hV; clear hV hfl
      go_enter Tryz.func55, Tryz.ntmps55
      go_wp2_with fail
      refine HCK.out.mono ?_
      rintro e w1 ⟨rfl, hb1⟩
      go_wp2_with fail
      refine bodyPost_ret (v := .tuple #[.int .i64 (-1), .int .i64 10]) (by simp [results, Tryz.results55, go_sem]) rfl ?_
      rw [HV.out]
      exact ⟨rfl, hb1⟩
    · rw [if_neg hfl] at hV
      have hfI : ¬ (1024 : Int) < (facts.length : Int) := by omega
      have HV : Hid (V = chkF (arR [] (l.drop 0)) facts 0) := Lib.hid hV
      clear hV
      go_enter Tryz.func55, Tryz.ntmps55
      go_wp2_with fail
      refine HCK.out.mono ?_
      rintro e w1 ⟨rfl, hb1⟩
      have hw1 := hb1.size
      go_wp2_with fail
      have hb2 : Below w.heap.size w (w1.alloc (.map #[] 0)) := hb1.alloc hb1.size _
      go_loopw [32] (fun i wr => ∃ k : Nat, k ≤ l.length ∧ i = .int .i64 k ∧ ∃ mm, Hid (MapR wr w1.heap.size mm) ∧ Below w.heap.size w wr ∧ mm.length ≤ k * 6 ∧ Hid (V = chkF (arR mm (l.drop k)) facts 0)) (fun i _ => l.length - (intOf i).toNat)
      case atStart => exact ⟨0, by omega, rfl, [], Lib.hid (MapR.made w1), hb2, Nat.le_refl _, HV⟩
      case round =>
        obtain ⟨k, hk, rfl, mm, hmr, hb, hml, hd⟩ := hrel
        have hwr := hb.size
        by_cases hlt : k < l.length
        · obtain ⟨b1, o1, rfl, -, hbs1, A1, n1, c1, A2, n2, c2, g1, g2, g3, hs1, hs2⟩ := (HL.out.below hb).rul hlt
          have hrr := HRS.out _ (List.getElem_mem hlt)
          have hor := HO.out _ (List.getElem_mem hlt)
          have hd1 := hd.out
          rw [drop_get hlt, arR] at hd1
          generalize l[k] = r at *
          obtain ⟨⟨hnm, hargs⟩, body⟩ := r
          simp only at g1 g2 g3 hs1 hs2 hd1
          obtain rfl : n1 = hargs.length := hs1.len
          obtain rfl : n2 = body.length := hs2.len
          have hle1 := hs1.le
          have hle2' := hs2.le
          have hb4 : body.length ≤ 4 := (rule_body hrr.1).1
          have hnl := hor.1.1
          have hol := hor.2
          simp only at hnl hol
          have HD1 := Lib.hid hd1; have HS2 := Lib.hid hs2; have HB := Lib.hid hb; have HOL := Lib.hid hol
          clear hd1 hd hrr hor hs1 hb hs2 hol
          have hwlt : w1.heap.size < wr.heap.size := hmr.out.lt
          go_wp2_with (at_mapUpdate; refine wpList_updK rfl _ _ _ rfl rfl hnm rfl _ rfl (hmr.out.alloc _) hnl ⟨by omega, by omega⟩ (by omega) ?_; intro w5 hm5 hg5; have HM5 := Lib.hid hm5; have HG5 := Lib.hid hg5; have e1 := (cell_blk (grownBlk hg5 (blkAt wr (.cells #[.string ⟨hnm.toArray⟩, .slice A1 hargs.length c1, .slice A2 body.length c2] 34) rfl) (fun e => by injection e with e; omega)) 2).trans rfl; have hz5 := hg5.size; clear hm5 hg5)
          obtain ⟨wo, rfl⟩ : ∃ wo, wo = wr := ⟨_, rfl⟩
          have hb5 : Below w.heap.size w w5 := (HB.out.alloc hwr _).grown HG5.out (by simp; omega) (fun k hk => by injection hk with hk; omega)
          have hsx : ∀ wx, Below w.heap.size w wx → Sl wx (fun k => k < w.heap.size) A2 body.length c2 body := fun wx hbx => HS2.out.keep fun k _ hk => (hbx.block k hk).trans (HB.out.block k hk).symm
          have HSX := Lib.hid hsx; have HB5 := Lib.hid hb5
          clear hsx hb5 HS2 hmr g1 g2 g3 HG5
          go_loopw [47] (fun j wx => ∃ q : Nat, q ≤ body.length ∧ j = .int .i64 q ∧ ∃ m', Hid (MapR wx w1.heap.size m') ∧ Below w.heap.size w wx ∧ m'.length ≤ k * 6 + 1 + q ∧ Hid (V = chkF (arR (arX m' (body.drop q)) (l.drop (k + 1))) facts 0)) (fun j _ => body.length - (intOf j).toNat)
          case atStart => exact ⟨0, by omega, rfl, _, HM5, HB5.out, by have := setK_le mm hnm hargs.length; omega, HD1⟩
          case round =>
            obtain ⟨q, hq, rfl, m', hmq, hbq, hql, hdq⟩ := hrel
            have hwq := hbq.size
            by_cases hlt2 : q < body.length
            · obtain ⟨b2, o2, rfl, -, hbs2, A3, n3, c3, f1, f2, f3, f4, hs3⟩ := (HSX.out wr hbq).ltl hlt2
              have hoq := HOL.out _ (List.getElem_mem hlt2)
              have hd2 := hdq.out
              rw [drop_get hlt2, arX] at hd2
              generalize body[q] = x at *
              obtain ⟨xneg, xop, ⟨xnm, xargs⟩⟩ := x
              simp only at f1 f2 f3 f4 hs3 hd2 hoq
              obtain rfl : n3 = xargs.length := hs3.len
              have hle3 := hs3.le
              have hxl := hoq.2.1
              simp only at hxl
              have hwl2 : w1.heap.size < wr.heap.size := hmq.out.lt
              cases xop with
              | nil =>
                simp only [List.isEmpty_nil, if_true] at hd2
                have HD2 := Lib.hid hd2; have HBQ := Lib.hid hbq; clear hd2 hdq hoq hs3 hbq
                go_wp2_with (at_mapUpdate; refine wpList_updK rfl _ _ _ rfl rfl xnm rfl _ rfl (hmq.out.alloc _) hxl ⟨by omega, by omega⟩ (by omega) ?_; intro w6 hm6 hg6; have HM6 := Lib.hid hm6; have HG6 := Lib.hid hg6; clear hm6 hg6)
                go_roundw
                case rel => exact ⟨q + 1, by omega, by go_num, _, HM6, (HBQ.out.alloc hwq _).grown HG6.out (by simp; omega) (fun k hk => by injection hk with hk; omega), by have := setK_le m' xnm xargs.length; omega, HD2⟩
                case measure => simp [intOf]; omega
              | cons o1 orr =>
                simp only [List.isEmpty_cons, Bool.false_eq_true, if_false] at hd2
                have HD2 := Lib.hid hd2; have HBQ := Lib.hid hbq; clear hd2 hdq hoq hs3 hbq
                go_wp2_with fail
                go_roundw
                case rel => exact ⟨q + 1, by omega, by go_num, m', Lib.hid (hmq.out.alloc _), HBQ.out.alloc hwq _, by omega, HD2⟩
                case measure => simp [intOf]; omega
            · have hd2 := hdq.out
              rw [drop_end hlt2, arX] at hd2
              have HD2 := Lib.hid hd2; clear hd2 hdq
              go_wp2_with fail
              go_roundw
              case rel => exact ⟨k + 1, by omega, by go_num, m', hmq, hbq, by omega, HD2⟩
              case measure => simp [intOf]; omega
        · have hd1 := hd.out
          rw [drop_end hlt, arR] at hd1
          have HD1 : Hid (V = chkF mm (facts.drop 0) (0 : Nat)) := Lib.hid hd1
          have HB := Lib.hid hb
          clear hd1 hd hb
          go_wp2_with fail
          obtain ⟨wo, rfl⟩ : ∃ wo, wo = wr := ⟨_, rfl⟩
          go_loopw [66] (fun j wx => ∃ q : Nat, q ≤ facts.length ∧ j = .int .i64 q ∧ ∃ m', Hid (MapR wx w1.heap.size m') ∧ Below w.heap.size w wx ∧ m'.length ≤ 400 + q ∧ Hid (V = chkF m' (facts.drop q) q)) (fun j _ => facts.length - (intOf j).toNat)
          case atStart => exact ⟨0, by omega, rfl, mm, hmr, HB.out, by omega, HD1⟩
          case round =>
            obtain ⟨q, hq, rfl, m', hmq, hbq, hql, hdq⟩ := hrel
            have hwq := hbq.size
            by_cases hlt2 : q < facts.length
            · obtain ⟨b2, o2, rfl, -, hbs2, A3, n3, c3, f1, f2, hs3⟩ := (HF.out.below hbq).atm hlt2
              have hoq := HOF.out _ (List.getElem_mem hlt2)
              have hd2 := hdq.out
              rw [drop_get hlt2, chkF] at hd2
              generalize facts[q] = x at *
              have hgr := Ground_any x A3 n3 c3 _ _ (hs3.alloc (.cells #[.string ⟨x.name.toArray⟩, .slice A3 n3 c3] 31)) hoq
              rw [groundS_P] at hgr
              obtain ⟨xnm, xargs⟩ := x
              simp only at f1 f2 hs3 hd2 hoq hgr
              obtain rfl : n3 = xargs.length := hs3.len
              have hle3 := hs3.le
              have hxl := hoq.1
              simp only at hxl
              have hwl2 : w1.heap.size < wr.heap.size := hmq.out.lt
              generalize groundP ⟨xnm, xargs⟩ = g at *
              have HD2 := Lib.hid hd2; have HBQ := Lib.hid hbq; have HGR := Lib.hid hgr; clear hd2 hdq hoq hs3 hbq hgr
              cases g
              · go_wp2_with fail
                refine HGR.out.mono ?_
                rintro e w6 ⟨rfl, hb6⟩
                have HB6 := Lib.hid ((HBQ.out.alloc hwq (.cells #[.string ⟨xnm.toArray⟩, .slice A3 xargs.length c3] 31)).trans (hb6.mono (by simp; omega))); clear hb6
                have hd2 := HD2.out
                simp only [Bool.not_false, if_true] at hd2
                have HD3 := Lib.hid hd2; clear hd2
                go_wp2_with fail
                refine bodyPost_ret (v := .tuple #[.int .i64 q, .int .i64 1]) (by simp [results, Tryz.results55, go_sem]) rfl ?_
                rw [HD3.out]
                exact ⟨rfl, HB6.out⟩
              · go_wp2_with fail
                refine HGR.out.mono ?_
                rintro e w6 ⟨rfl, hb6⟩
                have hb6' := (HBQ.out.alloc hwq (.cells #[.string ⟨xnm.toArray⟩, .slice A3 xargs.length c3] 31)).trans (hb6.mono (by simp; omega))
                have hx6 := keptBlk hb6 (blkAt wr (.cells #[.string ⟨xnm.toArray⟩, .slice A3 xargs.length c3] 31) rfl)
                have hm6 := (hmq.out.alloc (.cells #[.string ⟨xnm.toArray⟩, .slice A3 xargs.length c3] 31)).below hb6
                have k0 := (cell_blk hx6 0).trans rfl; have k1 := (cell_blk hx6 1).trans rfl
                have hw6 : wr.heap.size < w6.heap.size := (Array.getElem?_eq_some_iff.1 hx6).1
                have HM6 := Lib.hid hm6; have HB6 := Lib.hid hb6'
                clear hb6 hb6' hx6 hm6 f1 f2
                have hd2 := HD2.out
                simp only [Bool.not_true, Bool.false_eq_true, if_false] at hd2
                cases hg : getK m' xnm with
                | none =>
                  rw [hg] at hd2
                  simp only at hd2
                  have HD3 := Lib.hid hd2; clear hd2
                  have hgi : (getK m' xnm).isSome = false := by rw [hg]; rfl
                  clear hg
                  go_wp2_with (first | (at_lookup; refine wpList_lookKok rfl _ _ rfl rfl xnm rfl HM6.out hxl ?_) | (at_mapUpdate; refine wpList_updK rfl _ _ _ rfl rfl xnm rfl _ rfl HM6.out hxl ⟨by omega, by omega⟩ (by omega) ?_; intro w7 hm7 hg7; have HM7 := Lib.hid hm7; have HG7 := Lib.hid hg7; clear hm7 hg7))
                  go_roundw
                  case rel => exact ⟨q + 1, by omega, by go_num, _, HM7, HB6.out.grown HG7.out (by omega) (fun k hk => by injection hk with hk; omega), by have := setK_le m' xnm xargs.length; omega, HD3⟩
                  case measure => simp [intOf]; omega
                | some z =>
                  rw [hg] at hd2
                  simp only at hd2
                  have hgi : (getK m' xnm).isSome = true := by rw [hg]; rfl
                  have hgv : getV m' xnm = z := by unfold getV; rw [hg]; rfl
                  clear hg
                  by_cases hz : z = (xargs.length : Int)
                  · rw [if_neg (by simpa using hz)] at hd2
                    have HD3 := Lib.hid hd2; clear hd2
                    subst hz
                    go_wp2_with (first | (at_lookup; refine wpList_lookKok rfl _ _ rfl rfl xnm rfl HM6.out hxl ?_) | (at_mapUpdate; refine wpList_updK rfl _ _ _ rfl rfl xnm rfl _ rfl HM6.out hxl ⟨by omega, by omega⟩ (by omega) ?_; intro w7 hm7 hg7; have HM7 := Lib.hid hm7; have HG7 := Lib.hid hg7; clear hm7 hg7))
                    go_roundw
                    case rel => exact ⟨q + 1, by omega, by go_num, _, HM7, HB6.out.grown HG7.out (by omega) (fun k hk => by injection hk with hk; omega), by have := setK_le m' xnm xargs.length; omega, HD3⟩
                    case measure => simp [intOf]; omega
                  · rw [if_pos (by simpa using hz)] at hd2
                    have HD3 := Lib.hid hd2; clear hd2
                    have hzb : (z != (xargs.length : Int)) = true := by simpa using hz
                    clear hz
                    go_wp2_with (at_lookup; refine wpList_lookKok rfl _ _ rfl rfl xnm rfl HM6.out hxl ?_)
                    refine bodyPost_ret (v := .tuple #[.int .i64 q, .int .i64 9]) (by simp [results, Tryz.results55, go_sem]) rfl ?_
                    rw [HD3.out]
                    exact ⟨rfl, HB6.out⟩
            · have hd2 := hdq.out
              rw [drop_end hlt2, chkF] at hd2
              have HD2 := Lib.hid hd2; clear hd2 hdq
              go_wp2_with fail
              refine bodyPost_ret (v := .tuple #[.int .i64 (-1), .int .i64 0]) (by simp [results, Tryz.results55, go_sem]) rfl ?_
              rw [HD2.out]
              exact ⟨rfl, hbq⟩
  · rw [if_pos hce] at hV
    have hcb : (ce == 0) = false := by simpa using hce
    have HV := Lib.hid hV; clear hV hce hcok
    go_enter Tryz.func55, Tryz.ntmps55
    go_wp2_with fail
    refine HCK.out.mono ?_
    rintro e w1 ⟨rfl, hb1⟩
    go_wp2_with fail
    refine bodyPost_ret (v := .tuple #[.int .i64 ci, .int .i64 ce]) (by simp [results, Tryz.results55, go_sem]) rfl ?_
    rw [HV.out]
    exact ⟨rfl, hb1⟩
end Go.Proofs.YtkjoaodoioicpaaGreatDoor
namespace Go.Proofs.YtkjoaodoioicpaaGreatDoor
open Go.RowKit
structure RowC (w : World) (T : Nat → Prop) (g cap : Nat) (ys : List Rul) : Prop where
  cell : ∀ t, t < cap * 3 → (w.cell? ⟨g, t, none⟩).isSome = true ∧ w.frozen? ⟨g, t, none⟩ = false
  le : ys.length ≤ cap
  at_ : ∀ i (h : i < ys.length), ∃ A1 n1 c1 A2 n2 c2, w.cell? ⟨g, i * 3, none⟩ = some (.string ⟨ys[i].head.name.toArray⟩) ∧ w.cell? ⟨g, i * 3 + 1, none⟩ = some (.slice A1 n1 c1) ∧ w.cell? ⟨g, i * 3 + 2, none⟩ = some (.slice A2 n2 c2) ∧
    Sl w T A1 n1 c1 ys[i].head.args ∧ Sl w T A2 n2 c2 ys[i].body
theorem frz_same {w w' : World} {a : Addr} (h : w'.heap[a.block]? = w.heap[a.block]?) : w'.frozen? a = w.frozen? a := by
  simp only [World.frozen?, h]
theorem RowC.keep {w w' : World} {T : Nat → Prop} {g cap : Nat} {ys : List Rul} (h : RowC w T g cap ys) (hg : w'.heap[g]? = w.heap[g]?) (hT : ∀ k, k < w.heap.size → T k → w'.heap[k]? = w.heap[k]?) : RowC w' T g cap ys := by
  refine ⟨fun t ht => ⟨?_, ?_⟩, h.le, fun i hi => ?_⟩
  · rw [World.cell?_of_block (w := w) (w' := w') (a := ⟨g, t, none⟩) hg]; exact (h.cell t ht).1
  · rw [frz_same (w := w) (a := ⟨g, t, none⟩) hg]; exact (h.cell t ht).2
  · obtain ⟨A1, n1, c1, A2, n2, c2, h1, h2, h3, h4, h5⟩ := h.at_ i hi
    exact ⟨A1, n1, c1, A2, n2, c2, (World.cell?_of_block (w := w) (w' := w') (a := ⟨g, i * 3, none⟩) hg).trans h1, (World.cell?_of_block (w := w) (w' := w') (a := ⟨g, i * 3 + 1, none⟩) hg).trans h2, (World.cell?_of_block (w := w) (w' := w') (a := ⟨g, i * 3 + 2, none⟩) hg).trans h3, h4.keep hT, h5.keep hT⟩
theorem RowC.sl {w : World} {T : Nat → Prop} {g cap : Nat} {ys : List Rul} (h : RowC w T g cap ys) (hc : cap ≤ 9223372036854775807) : Sl w (fun k => T k ∨ k = g) (some ⟨g, 0, none⟩) ys.length cap ys := by
  refine ⟨rfl, h.le, hc, fun i hi => ?_⟩
  obtain ⟨A1, n1, c1, A2, n2, c2, h1, h2, h3, h4, h5⟩ := h.at_ i hi
  refine ⟨_, rfl, .inr rfl, fun j => (#[.string ⟨ys[i].head.name.toArray⟩, .slice A1 n1 c1, .slice A2 n2 c2] : Array Value).getD j undef, fun j hj => ?_, rfl, ⟨A1, n1, c1, rfl, h4.wide (fun _ _ h => .inl h) (by decide)⟩, A2, n2, c2, rfl, h5.wide (fun _ _ h => .inl h) (by decide)⟩
  have hj : j < 3 := hj
  rw [add_plain, Nat.zero_add]
  match j, hj with
  | 0, _ => exact h1
  | 1, _ => exact h2
  | 2, _ => exact h3
theorem RowC.set {w : World} {T : Nat → Prop} {g cap : Nat} {ys : List Rul} (h : RowC w T g cap ys) (hT : ∀ k, T k → k ≠ g) {a : Nat} (ha : a < ys.length) (v : Rul) {A1 : Option Addr} {n1 c1 : Nat} {A2 : Option Addr} {n2 c2 : Nat} (h1 : Sl w T A1 n1 c1 v.head.args) (h2 : Sl w T A2 n2 c2 v.body) :
    RowC (((w.setCell ⟨g, a * 3, none⟩ (.string ⟨v.head.name.toArray⟩)).setCell ⟨g, a * 3 + 1, none⟩ (.slice A1 n1 c1)).setCell ⟨g, a * 3 + 2, none⟩ (.slice A2 n2 c2)) T g cap (ys.set a v) := by
  have hle := h.le
  obtain ⟨u0, e0⟩ := Option.isSome_iff_exists.1 (h.cell (a * 3) (by omega)).1
  obtain ⟨u1, e1⟩ := Option.isSome_iff_exists.1 (h.cell (a * 3 + 1) (by omega)).1
  obtain ⟨u2, e2⟩ := Option.isSome_iff_exists.1 (h.cell (a * 3 + 2) (by omega)).1
  have hoff : ∀ t, t ≠ a * 3 → t ≠ a * 3 + 1 → t ≠ a * 3 + 2 → (((w.setCell ⟨g, a * 3, none⟩ (.string ⟨v.head.name.toArray⟩)).setCell ⟨g, a * 3 + 1, none⟩ (.slice A1 n1 c1)).setCell ⟨g, a * 3 + 2, none⟩ (.slice A2 n2 c2)).cell? ⟨g, t, none⟩ = w.cell? ⟨g, t, none⟩ := fun t t0 t1 t2 => by
    rw [World.cell?_setCell_other _ _ _ _ (by simp <;> omega), World.cell?_setCell_other _ _ _ _ (by simp <;> omega), World.cell?_setCell_other _ _ _ _ (by simp <;> omega)]
  have hc0 : (((w.setCell ⟨g, a * 3, none⟩ (.string ⟨v.head.name.toArray⟩)).setCell ⟨g, a * 3 + 1, none⟩ (.slice A1 n1 c1)).setCell ⟨g, a * 3 + 2, none⟩ (.slice A2 n2 c2)).cell? ⟨g, a * 3, none⟩ = some (.string ⟨v.head.name.toArray⟩) := by
    rw [World.cell?_setCell_other _ _ _ _ (by simp), World.cell?_setCell_other _ _ _ _ (by simp), World.cell?_setCell_same _ _ _ e0]
  have hc1 : (((w.setCell ⟨g, a * 3, none⟩ (.string ⟨v.head.name.toArray⟩)).setCell ⟨g, a * 3 + 1, none⟩ (.slice A1 n1 c1)).setCell ⟨g, a * 3 + 2, none⟩ (.slice A2 n2 c2)).cell? ⟨g, a * 3 + 1, none⟩ = some (.slice A1 n1 c1) := by
    rw [World.cell?_setCell_other _ _ _ _ (by simp), World.cell?_setCell_same _ _ _ (u := u1) (by rw [World.cell?_setCell_other _ _ _ _ (by simp)]; exact e1)]
  have hc2 : (((w.setCell ⟨g, a * 3, none⟩ (.string ⟨v.head.name.toArray⟩)).setCell ⟨g, a * 3 + 1, none⟩ (.slice A1 n1 c1)).setCell ⟨g, a * 3 + 2, none⟩ (.slice A2 n2 c2)).cell? ⟨g, a * 3 + 2, none⟩ = some (.slice A2 n2 c2) := by
    rw [World.cell?_setCell_same _ _ _ (u := u2) (by rw [World.cell?_setCell_other _ _ _ _ (by simp), World.cell?_setCell_other _ _ _ _ (by simp)]; exact e2)]
  have hb : ∀ k, k ≠ g → (((w.setCell ⟨g, a * 3, none⟩ (.string ⟨v.head.name.toArray⟩)).setCell ⟨g, a * 3 + 1, none⟩ (.slice A1 n1 c1)).setCell ⟨g, a * 3 + 2, none⟩ (.slice A2 n2 c2)).heap[k]? = w.heap[k]? := fun k hk =>
    (set_other _ _ _ _ _ hk).trans ((set_other _ _ _ _ _ hk).trans (set_other _ _ _ _ _ hk))
  refine ⟨fun t ht => ⟨?_, ?_⟩, by rw [List.length_set]; exact hle, fun i hi => ?_⟩
  · by_cases t0 : t = a * 3
    · rw [t0, hc0]; rfl
    · by_cases t1 : t = a * 3 + 1
      · rw [t1, hc1]; rfl
      · by_cases t2 : t = a * 3 + 2
        · rw [t2, hc2]; rfl
        · rw [hoff t t0 t1 t2]; exact (h.cell t ht).1
  · rw [World.frozen?_setCell, World.frozen?_setCell, World.frozen?_setCell]; exact (h.cell t ht).2
  · rw [List.length_set] at hi
    by_cases hia : a = i
    · subst hia
      rw [List.getElem_set_self]
      exact ⟨A1, n1, c1, A2, n2, c2, hc0, hc1, hc2, h1.keep fun k _ hk => hb k (hT k hk), h2.keep fun k _ hk => hb k (hT k hk)⟩
    · rw [List.getElem_set_ne hia]
      obtain ⟨B1, m1, d1, B2, m2, d2, r1, r2, r3, r4, r5⟩ := h.at_ i hi
      exact ⟨B1, m1, d1, B2, m2, d2, (hoff _ (by omega) (by omega) (by omega)).trans r1, (hoff _ (by omega) (by omega) (by omega)).trans r2, (hoff _ (by omega) (by omega) (by omega)).trans r3, r4.keep fun k _ hk => hb k (hT k hk), r5.keep fun k _ hk => hb k (hT k hk)⟩
theorem RowC.clear {w : World} {T : Nat → Prop} {g cap : Nat} {ys : List Rul} (h : RowC w T g cap ys) (hT : ∀ k, T k → k ≠ g ∧ k < w.heap.size) {a : Nat} (ha : a < ys.length) :
    ∃ vs : List Value, (∀ ty : TypeId, (Builtin.clear_ #[22] ty #[.slice (some ⟨g, a * 3, none⟩) (ys.length - a) (cap - a)]).run Tryz.prog w = .ok (.tuple #[]) (w.setCells g (a * 3) vs)) ∧ RowC (w.setCells g (a * 3) vs) T g cap (ys.take a) := by
  have hle := h.le
  have hz : ∀ w, (zeroValue 34).run Tryz.prog w = .ok (.agg #[.string ⟨#[]⟩, .slice none 0 0, .slice none 0 0]) w := fun w => by kernel_rfl
  obtain ⟨m, hm⟩ : ∃ m, ys.length - a = m + 1 := ⟨ys.length - a - 1, by omega⟩
  have hvl : (Builtin.zeroCells #[.string ⟨#[]⟩, .slice none 0 0, .slice none 0 0] (ys.length - a)).toList.length = (ys.length - a) * 3 := by simp [Builtin.zeroCells]
  have hv1 : ∀ v ∈ (Builtin.zeroCells #[.string ⟨#[]⟩, .slice none 0 0, .slice none 0 0] (ys.length - a)).toList, v.oneCell' = true := by
    intro v hv
    simp only [Builtin.zeroCells, Array.toList_map, List.mem_map] at hv
    obtain ⟨i, -, rfl⟩ := hv
    have : i % 3 < 3 := Nat.mod_lt _ (by decide)
    show (#[Value.string ⟨#[]⟩, Value.slice none 0 0, Value.slice none 0 0] : Array Value)[i % 3]!.oneCell' = true
    rcases (show i % 3 = 0 ∨ i % 3 = 1 ∨ i % 3 = 2 by omega) with h | h | h <;> rw [h] <;> rfl
  have hst := run_storeCells_cells (P := Tryz.prog) g (a * 3) (Builtin.zeroCells #[.string ⟨#[]⟩, .slice none 0 0, .slice none 0 0] (ys.length - a)).toList 0 w (fun j hj => (h.cell _ (by rw [hvl] at hj; omega)).1) (fun j hj => (h.cell _ (by rw [hvl] at hj; omega)).2) hv1
  simp only [Nat.add_zero] at hst
  have hstart : ∀ t, t < a * 3 → (w.setCells g (a * 3) (Builtin.zeroCells #[.string ⟨#[]⟩, .slice none 0 0, .slice none 0 0] (ys.length - a)).toList).cell? ⟨g, t, none⟩ = w.cell? ⟨g, t, none⟩ := fun t ht => World.cell?_setCells_out g _ _ w _ (fun _ _ => .inl ht)
  have hb : ∀ k, k < w.heap.size → k ≠ g → (w.setCells g (a * 3) (Builtin.zeroCells #[.string ⟨#[]⟩, .slice none 0 0, .slice none 0 0] (ys.length - a)).toList).heap[k]? = w.heap[k]? := fun k hk hne => World.heap_setCells_other w g _ _ hk hne
  refine ⟨(Builtin.zeroCells #[.string ⟨#[]⟩, .slice none 0 0, .slice none 0 0] (ys.length - a)).toList, ?_, fun t ht => ⟨?_, ?_⟩, by rw [List.length_take]; omega, fun i hi => ?_⟩
  · intro ty
    rw [hm] at hst ⊢
    simp [Builtin.clear_, run_underlying Tryz.underlying22, hz, hst, Value.cells]
  · by_cases h1 : t < a * 3
    · rw [hstart t h1]; exact (h.cell t ht).1
    · by_cases h2 : t < a * 3 + (ys.length - a) * 3
      · have := World.cell?_setCells_in g (Builtin.zeroCells #[.string ⟨#[]⟩, .slice none 0 0, .slice none 0 0] (ys.length - a)).toList (a * 3) w (fun j hj => (h.cell _ (by rw [hvl] at hj; omega)).1) (t - a * 3) (by rw [hvl]; omega)
        rw [show a * 3 + (t - a * 3) = t by omega] at this
        rw [this]; rfl
      · rw [World.cell?_setCells_out g _ _ w _ (fun _ _ => .inr (by rw [hvl]; simp only; omega))]; exact (h.cell t ht).1
  · rw [World.frozen?_setCells]; exact (h.cell t ht).2
  · rw [List.length_take] at hi
    rw [List.getElem_take]
    obtain ⟨B1, m1, d1, B2, m2, d2, r1, r2, r3, r4, r5⟩ := h.at_ i (by omega)
    exact ⟨B1, m1, d1, B2, m2, d2, (hstart _ (by omega)).trans r1, (hstart _ (by omega)).trans r2, (hstart _ (by omega)).trans r3, r4.keep fun k hk hk' => hb k hk (hT k hk').1, r5.keep fun k hk hk' => hb k hk (hT k hk').1⟩
theorem idxS_spec {α : Type} (p : α → Bool) : ∀ (xs : List α) (k : Nat), (idxS p xs k = -1 ∧ ∀ x ∈ xs, p x = false) ∨ ∃ i, ∃ h : i < xs.length, idxS p xs k = ((k + i : Nat) : Int) ∧ (∀ x ∈ xs.take i, p x = false) ∧ p xs[i] = true
  | [], _ => .inl ⟨rfl, fun _ h => nomatch h⟩
  | a :: r, k => by
    cases hp : p a
    · have e : idxS p (a :: r) k = idxS p r (k + 1) := by simp [idxS, hp]
      rw [e]
      rcases idxS_spec p r (k + 1) with ⟨h1, h2⟩ | ⟨i, hi, h1, h2, h3⟩
      · refine .inl ⟨h1, fun x hx => ?_⟩
        rcases List.mem_cons.1 hx with rfl | hx
        · exact hp
        · exact h2 x hx
      · refine .inr ⟨i + 1, by simp; omega, by rw [h1]; congr 1; omega, fun x hx => ?_, by simpa using h3⟩
        rw [List.take_succ_cons] at hx
        rcases List.mem_cons.1 hx with rfl | hx
        · exact hp
        · exact h2 x hx
    · exact .inr ⟨0, by simp, by simp [idxS, hp], by simp, by simpa using hp⟩
end Go.Proofs.YtkjoaodoioicpaaGreatDoor
namespace Go.Proofs.YtkjoaodoioicpaaGreatDoor
open Go.RowKit
theorem filter_all {α : Type} (p : α → Bool) (xs : List α) (h : ∀ x ∈ xs, p x = false) : xs.filter (fun x => !p x) = xs := List.filter_eq_self.2 fun x hx => by rw [h x hx]; rfl
theorem setCells_grown (g : Nat) : ∀ (vs : List Value) (o : Nat) (w : World), w.grownBy (w.setCells g o vs) (some g)
  | [], _, w => ⟨rfl, rfl, rfl, Nat.le_refl _, fun _ _ _ => rfl⟩
  | v :: r, o, w => by
    have h := setCells_grown g r (o + 1) (w.setCell ⟨g, o, none⟩ v)
    have h0 : w.grownBy (w.setCell ⟨g, o, none⟩ v) (some g) := ⟨rfl, rfl, rfl, by simp [World.setCell], fun k _ hne => set_other w g o v k (fun e => hne (by rw [e]))⟩
    exact grown_then h0 h
set_option maxRecDepth 100000 in
set_option maxHeartbeats 8000000 in
theorem delR_any (g cap : Nat) (xs : List Rul) (w : World) (T : Nat → Prop) (hT : ∀ k, T k → k ≠ g ∧ k < w.heap.size) (hg : g < w.heap.size) (hrow : RowC w T g cap xs) (hcap : cap ≤ 9223372036854775807)
    (F : Nat) (caps : Array Value) (hF : ∀ (args : Array Value) (w : World), (callFunc F args).run Tryz.prog w = .ok (.enter F args) w) (p : Rul → Bool)
    (hp : ∀ x ∈ xs, ∀ w1, w.grownBy w1 (some g) → ∀ S v, VRul w1 S v x → Calls Tryz.prog F (#[v] ++ caps) w1 fun e w2 => e = .returned (.bool (p x)) ∧ Below w1.heap.size w1 w2) :
    Calls Tryz.prog 57 #[.slice (some ⟨g, 0, none⟩) xs.length cap, .func (.func F) #[] caps] w fun e w' => ∃ m c', e = .returned (.slice (some ⟨g, 0, none⟩) m c') ∧ Sl w' (fun k => T k ∨ k = g) (some ⟨g, 0, none⟩) m c' (xs.filter fun x => !p x) ∧ w.grownBy w' (some g) := by
  have hsl := hrow.sl hcap
  have hle := hrow.le
  have hlI : xs.length ≤ 9223372036854775807 := by omega
  have hix := idxR_any (some ⟨g, 0, none⟩) xs.length cap w (fun k => T k ∨ k = g) xs hsl F caps hF p (fun x hx w1 hb1 v hv => hp x hx w1 ⟨hb1.os, hb1.tape, hb1.output, hb1.size, fun k hk _ => hb1.block k hk⟩ _ v hv)
  rcases idxS_spec p xs 0 with ⟨h1, h2⟩ | ⟨a0, ha0, h1, h2, h3⟩
  · rw [h1] at hix
    rw [filter_all p xs h2]
    have HIX := Lib.hid hix; have HSL := Lib.hid hsl
    clear hix hsl h1 h2 hrow hp hT
    go_enter Tryz.func57, Tryz.ntmps57
    go_wp2_with fail
    refine HIX.out.mono ?_
    rintro e w1 ⟨rfl, hb1⟩
    go_wp2_with fail
    refine bodyPost_ret (v := .slice (some ⟨g, 0, none⟩) xs.length cap) (by simp [results, Tryz.results57, go_sem]) rfl ?_
    exact ⟨_, _, rfl, HSL.out.below hb1, ⟨hb1.os, hb1.tape, hb1.output, hb1.size, fun k hk _ => hb1.block k hk⟩⟩
  · rw [h1, Nat.zero_add] at hix
    have hf0 : xs.take a0 = (xs.take (a0 + 1)).filter (fun x => !p x) := by
      rw [List.take_succ_eq_append_getElem ha0, List.filter_append, filter_all p _ h2]
      simp [h3]
    have HIX := Lib.hid hix; have HROW := Lib.hid hrow; have HP := Lib.hid hp; have HT := Lib.hid hT; have HF0 := Lib.hid hf0
    clear hix hsl h1 h2 h3 hrow hp hT hf0
    go_enter Tryz.func57, Tryz.ntmps57
    go_wp2_with fail
    refine HIX.out.mono ?_
    rintro e w1 ⟨rfl, hb1⟩
    have hg1 : w.grownBy w1 (some g) := ⟨hb1.os, hb1.tape, hb1.output, hb1.size, fun k hk _ => hb1.block k hk⟩
    have hr1 := HROW.out.keep (hb1.block g hg) fun k hk _ => hb1.block k hk
    have hne : ((a0 : Int) == -1) = false := by rw [beq_eq_false_iff_ne]; omega
    have HG1 := Lib.hid hg1; have HR1 := Lib.hid hr1
    clear hb1 hg1 hr1
    go_wp2_with fail
    go_loopw [5, 6] (fun o i wr => ∃ a j : Nat, o = .int .i64 a ∧ i = .int .i64 j ∧ a < j ∧ j ≤ xs.length ∧ ∃ ys : List Rul, ys.length = xs.length ∧ Hid (RowC wr T g cap ys ∧ ys.take a = (xs.take j).filter (fun x => !p x) ∧ ys.drop j = xs.drop j ∧ w.grownBy wr (some g))) (fun _ i _ => xs.length - (intOf i).toNat)
    case atStart => exact ⟨a0, a0 + 1, rfl, by go_num, by omega, by omega, xs, rfl, Lib.hid ⟨HR1.out, HF0.out, rfl, HG1.out⟩⟩
    case round =>
      obtain ⟨a, j, rfl, rfl, haj, hj, ys, hyl, hr⟩ := hrel
      obtain ⟨r1, r2, r3, r4⟩ := hr.out
      clear hr
      by_cases hlt : j < xs.length
      · have hyj : ys[j]'(by omega) = xs[j] := by
          have e1 : ys.drop j = ys[j]'(by omega) :: ys.drop (j + 1) := List.drop_eq_getElem_cons (by omega)
          have e2 : xs.drop j = xs[j] :: xs.drop (j + 1) := List.drop_eq_getElem_cons hlt
          rw [e1, e2] at r3
          injection r3
        have hyd : ys.drop (j + 1) = xs.drop (j + 1) := by
          have := congrArg (List.drop 1) r3
          simpa [List.drop_drop, Nat.add_comm] using this
        obtain ⟨A1, n1, c1, A2, n2, c2, g1, g2, g3, s1, s2⟩ := r1.at_ j (by omega)
        rw [hyj] at g1 s1 s2
        have hpj := HP.out _ (List.getElem_mem hlt)
        have hft : (xs.take (j + 1)).filter (fun x => !p x) = (xs.take j).filter (fun x => !p x) ++ if p xs[j] then [] else [xs[j]] := by
          rw [List.take_succ_eq_append_getElem hlt, List.filter_append]
          cases hq : p xs[j] <;> simp [hq]
        generalize xs[j] = x at *
        have q0 : (0 : Int) ≤ (j : Int) := by omega
        have q1 : (j : Int) < (xs.length : Int) := by omega
        have a0' : (0 : Int) ≤ (a : Int) := by omega
        have a1' : (a : Int) < (xs.length : Int) := by omega
        have hbw5 : w.grownBy (wr.alloc (.cells #[.string ⟨x.head.name.toArray⟩, .slice A1 n1 c1, .slice A2 n2 c2] 34)) (some g) := grown_then r4 (World.grownBy_alloc _ _ _)
        have hcf := hpj _ hbw5 _ (.agg #[.string ⟨x.head.name.toArray⟩, .slice A1 n1 c1, .slice A2 n2 c2]) ⟨A1, n1, c1, A2, n2, c2, rfl, s1.alloc _, s2.alloc _⟩
        generalize p x = px at *
        have hwr := r4.size
        have R1 := Lib.hid r1; have R2 := Lib.hid r2; have R4 := Lib.hid r4; have HYD := Lib.hid hyd; have HCF := Lib.hid hcf; have HFT := Lib.hid hft; have S1 := Lib.hid s1; have S2 := Lib.hid s2
        clear r1 r2 r3 r4 hyd hcf hft s1 s2 hpj hbw5 hyj
        go_wp2_with fail
        refine HCF.out.mono ?_
        rintro e w6 ⟨rfl, hb6⟩
        have hb6' : Below wr.heap.size wr w6 := boxed.trans (hb6.mono (by simp))
        have hx6 := keptBlk hb6 (blkAt wr (.cells #[.string ⟨x.head.name.toArray⟩, .slice A1 n1 c1, .slice A2 n2 c2] 34) rfl)
        have hg6 : w.grownBy w6 (some g) := grown_then R4.out ⟨hb6'.os, hb6'.tape, hb6'.output, hb6'.size, fun k hk _ => hb6'.block k hk⟩
        have hr6 := R1.out.keep (hb6'.block g (by omega)) fun k hk _ => hb6'.block k hk
        have s16 := S1.out.below hb6'
        have s26 := S2.out.below hb6'
        have hlt6 : wr.heap.size < w6.heap.size := (Array.getElem?_eq_some_iff.1 hx6).1
        have G6 := Lib.hid hg6; have R6 := Lib.hid hr6; have X6 := Lib.hid hx6; have S16 := Lib.hid s16; have S26 := Lib.hid s26
        clear hb6 hb6' hx6 hg6 hr6 s16 s26 g1 g2 g3
        cases px
        · have hle6 := R6.out.le
          obtain ⟨u0, e0⟩ := Option.isSome_iff_exists.1 (R6.out.cell (a * 3) (by omega)).1
          obtain ⟨u1, e1⟩ := Option.isSome_iff_exists.1 (R6.out.cell (a * 3 + 1) (by omega)).1
          obtain ⟨u2, e2⟩ := Option.isSome_iff_exists.1 (R6.out.cell (a * 3 + 2) (by omega)).1
          have z0 := (R6.out.cell (a * 3) (by omega)).2; have z1 := (R6.out.cell (a * 3 + 1) (by omega)).2; have z2 := (R6.out.cell (a * 3 + 2) (by omega)).2
          have k0 := (cell_blk X6.out 0).trans rfl; have k1 := (cell_blk X6.out 1).trans rfl; have k2 := (cell_blk X6.out 2).trans rfl
          go_wp2_with fail
          have hrs := R6.out.set (fun k hk => (HT.out k hk).1) (a := a) (by omega) x S16.out S26.out
          have hgs : w.grownBy (((w6.setCell ⟨g, a * 3, none⟩ (.string ⟨x.head.name.toArray⟩)).setCell ⟨g, a * 3 + 1, none⟩ (.slice A1 n1 c1)).setCell ⟨g, a * 3 + 2, none⟩ (.slice A2 n2 c2)) (some g) :=
            grown_then G6.out ⟨rfl, rfl, rfl, by simp [World.setCell], fun k hk hne => (set_other _ _ _ _ _ (fun e => hne (by rw [e]))).trans ((set_other _ _ _ _ _ (fun e => hne (by rw [e]))).trans (set_other _ _ _ _ _ (fun e => hne (by rw [e]))))⟩
          have hy1 : (ys.set a x).take (a + 1) = (xs.take (j + 1)).filter (fun x => !p x) := by
            rw [HFT.out, ← R2.out, List.take_succ_eq_append_getElem (by rw [List.length_set]; omega), List.getElem_set_self, List.take_set, List.set_eq_of_length_le (by rw [List.length_take]; omega)]
            rfl
          have hy2 : (ys.set a x).drop (j + 1) = xs.drop (j + 1) := by rw [List.drop_set_of_lt (by omega), HYD.out]
          have HR := Lib.hid (And.intro hrs (And.intro hy1 (And.intro hy2 hgs)))
          clear hrs hgs hy1 hy2 e0 e1 e2 z0 z1 z2 k0 k1 k2
          go_roundw
          case rel => exact ⟨a + 1, j + 1, by go_num, by go_num, by omega, by omega, ys.set a x, by rw [List.length_set]; exact hyl, HR⟩
          case measure => simp [intOf]; omega
        · have hy1 : ys.take a = (xs.take (j + 1)).filter (fun x => !p x) := by rw [HFT.out, ← R2.out]; simp
          have HR := Lib.hid (And.intro R6.out (And.intro hy1 (And.intro HYD.out G6.out)))
          clear hy1
          go_wp2_with fail
          go_roundw
          case rel => exact ⟨a, j + 1, by go_num, by go_num, by omega, by omega, ys, hyl, HR⟩
          case measure => simp [intOf]; omega
      · have hje : j = xs.length := by omega
        subst hje
        rw [List.take_length] at r2
        have haI : (0 : Int) ≤ (a : Int) := by omega
        have haL : (a : Int) ≤ (xs.length : Int) := by omega
        have hacap : (a : Int) ≤ (cap : Int) := by omega
        have hcapl : (xs.length : Int) ≤ (cap : Int) := by omega
        obtain ⟨vs, hcl, hrc⟩ := r1.clear (fun k hk => ⟨(HT.out k hk).1, Nat.lt_of_lt_of_le (HT.out k hk).2 r4.size⟩) (a := a) (by omega)
        rw [hyl] at hcl
        have R1 := Lib.hid r1; have R2 := Lib.hid r2; have R4 := Lib.hid r4; have HRC := Lib.hid hrc
        clear r1 r2 r3 r4 hrc
        go_wp2_with fail
        refine bodyPost_ret (v := .slice (some ⟨g, 0, none⟩) a cap) (by simp [results, Tryz.results57, go_sem]) rfl ?_
        have hfs := (HRC.out.sl hcap).cast (n' := a) (by rw [List.length_take]; omega)
        rw [R2.out] at hfs
        exact ⟨a, cap, rfl, hfs, grown_then R4.out (setCells_grown g vs (a * 3) wr)⟩
end Go.Proofs.YtkjoaodoioicpaaGreatDoor
