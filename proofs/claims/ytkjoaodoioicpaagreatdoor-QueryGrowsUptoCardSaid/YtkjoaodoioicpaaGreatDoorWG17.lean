/- Query (package licitlaw54): a part of the proofs of its laws; see the law's own text, which comes last in 'order'. No conditions of its own. -/
import Derived.Maps.RangeRun
import Derived.Test.YtkjoaodoioicpaaGreatDoorWG16
set_option linter.unusedVariables false
set_option linter.unusedSimpArgs false
namespace Go.Proofs.YtkjoaodoioicpaaGreatDoor
open Go.RowKit
def BodyOk (l : List Ltl) : Prop := ∀ x ∈ l, OkL x ∧ x.atom.args.length ≤ 1000000 ∧ (x.op.isEmpty = false → x.atom.args.length = 2)
theorem atomV_ok {v : Bnd} (h : ∀ p ∈ v, OkA p.2) {a : Atm} (ha : OkT a) : OkT (atomV v a) := by
  refine ⟨ha.1, fun y hy => ?_⟩
  obtain ⟨x, hx, rfl⟩ := List.mem_map.1 hy
  exact under_ok h (ha.2 x hx)
theorem rest_cons (L : List Atm) (v : Bnd) (l : Ltl) (r : List Ltl) : restS L v (l :: r) = if positiveS l then restS L v r else if l.op.isEmpty = false then (if compareS l.op (under v (l.atom.args.headD default)) (under v ((l.atom.args.drop 1).headD default)) then restS L v r else false) else if L.contains (atomV v l.atom) then false else restS L v r := rfl
set_option maxRecDepth 100000 in
set_option maxHeartbeats 8000000 in
theorem restQ_any (F I : Nat → Prop) (p : Nat) (L : List Atm) (v : Bnd) (b : Nat) (A : Option Addr) (n c : Nat) (l : List Ltl) (w : World) (S : Nat → Prop) (hb : BaseR w F I p L) (hm : MapA w b v) (hs : Sl w S A n c l) (ho : BodyOk l) (hL : LD w) :
    Calls Tryz.prog 77 #[.slice A n c, .map (some b), .pointer (some ⟨p, 0, none⟩)] w fun e w' => e = .returned (.bool (restS L v l)) ∧ Below w.heap.size w w' := by
  obtain ⟨V, hV⟩ : ∃ V, V = restS L v l := ⟨_, rfl⟩
  rw [← hV]
  have hn := hs.len
  subst hn
  have hle := hs.le
  have HV : Hid (V = restS L v (l.drop 0)) := hV
  have HB := Lib.hid hb; have HM := Lib.hid hm; have HS := Lib.hid hs; have HO := Lib.hid ho; have HL := Lib.hid hL
  clear hV hb hm hs ho hL
  go_enter Tryz.func77, Tryz.ntmps77
  go_wp2_with fail
  go_loopw [11] (fun i wr => ∃ k : Nat, k ≤ l.length ∧ i = .int .i64 k ∧ Below w.heap.size w wr ∧ Hid (V = restS L v (l.drop k))) (fun i _ => l.length - (intOf i).toNat)
  case atStart => exact ⟨0, by omega, rfl, Below.refl _ _, HV⟩
  case round =>
    obtain ⟨k, hk, rfl, hb, hf⟩ := hrel
    have hwr := hb.size
    by_cases hlt : k < l.length
    · obtain ⟨b1, o1, rfl, -, hbs1, A1, n1, c1, g1, g2, g3, g4, hsx⟩ := (HS.out.below hb).ltl hlt
      have hd := hf.out
      rw [drop_get hlt, rest_cons] at hd
      obtain ⟨hox, hnx, hcx⟩ := HO.out _ (List.getElem_mem hlt)
      generalize l[k] = x at *
      have hpo := fun w' => positiveQ_any x A1 n1 c1 w'
      obtain ⟨xneg, xop, xat⟩ := x
      simp only at g1 g2 g3 g4 hsx hpo hox hnx hcx hd
      have HPO := Lib.hid hpo; have HSX := Lib.hid hsx; have HBw := Lib.hid hb
      clear hpo hsx hb hf
      cases hp : positiveS ⟨xneg, xop, xat⟩
      · rw [hp] at hd HPO
        simp only [Bool.false_eq_true, if_false] at hd
        have HD := Lib.hid hd; clear hd hp
        go_wp2_with fail
        refine (HPO.out _).mono ?_
        rintro e w3 ⟨rfl, hb3⟩
        have hb4 : Below wr.heap.size wr w3 := boxed.trans (hb3.mono (by simp))
        have hx3 := keptBlk hb3 (blkAt wr (.cells #[.bool xneg, .string ⟨xop.toArray⟩, .string ⟨xat.name.toArray⟩, .slice A1 n1 c1] 60) rfl)
        have k0 := (cell_blk hx3 0).trans rfl; have k1 := (cell_blk hx3 1).trans rfl; have k2 := (cell_blk hx3 2).trans rfl; have k3 := (cell_blk hx3 3).trans rfl
        have hbw3 := HBw.out.trans (hb4.mono hwr)
        have HB4 := Lib.hid hbw3; have HX3 := Lib.hid hx3; have HS3 := Lib.hid (HSX.out.below hb4)
        clear hb3 hb4 hx3 hbw3 g1 g2 g3 g4
        cases xop with
        | nil =>
          have hd := HD.out
          simp only [List.isEmpty_nil, Bool.true_eq_false, if_false] at hd
          have hat := atomQ_any v xat b A1 n1 c1 w3 _ (HM.out.below HB4.out) HS3.out hox.2 hnx
          have hoa := atomV_ok HM.out.2 hox.2
          have hha := fun A n c w' S (hb' : Below w.heap.size w w') hs => hasQ_any F I p L (atomV v xat) A n c w' S (HB.out.below hb') hs hoa (HL.out.below hb')
          generalize atomV v xat = ya at *
          generalize L.contains ya = bl at *
          have HD2 := Lib.hid hd; have HAT := Lib.hid hat; have HHA := Lib.hid hha
          clear hd hat hha hoa HD
          go_wp2_with fail
          refine HAT.out.mono ?_
          rintro e w4 ⟨⟨A4, n4, c4, rfl, hs4⟩, hb4⟩
          have hb5 := HB4.out.trans (hb4.mono HB4.out.size)
          have HB5 := Lib.hid hb5; have HS4 := Lib.hid hs4
          clear hb4 hs4 hb5 k0 k1 k2 k3
          go_wp2_with fail
          refine (HHA.out _ _ _ _ _ HB5.out HS4.out).mono ?_
          rintro e w5 ⟨rfl, hb5⟩
          have HB6 := Lib.hid (HB5.out.trans (hb5.mono HB5.out.size)); clear hb5
          cases bl
          · go_wp2_with fail
            go_roundw
            case rel => exact ⟨k + 1, by omega, by go_num, HB6.out, HD2.out⟩
            case measure => simp [intOf]; omega
          · go_wp2_with fail
            go_ret
            exact ⟨ret_bool HD2.out, HB6.out⟩
        | cons o1 orr =>
          have hd := HD.out
          simp only [List.isEmpty_cons, if_true] at hd
          obtain ⟨xnm, xargs⟩ := xat
          have h2 := hcx rfl
          simp only at h2 hd k2
          obtain ⟨a0, a1, rfl⟩ : ∃ a0 a1, xargs = [a0, a1] := by
            match xargs, h2 with
            | [a0, a1], _ => exact ⟨a0, a1, rfl⟩
          simp only [List.headD_cons, List.drop_one, List.tail_cons] at hd
          obtain ⟨b2, o2, rfl, -, hbs2, e1, e2, e3⟩ := HS3.out.arg (k := 0) (by simp)
          obtain ⟨b3, o3, hA3, -, hbs3, f1, f2, f3⟩ := HS3.out.arg (k := 1) (by simp)
          injection hA3 with hA3
          injection hA3 with hA3 hA4
          subst hA3 hA4
          have hn1 : n1 = 2 := HS3.out.len
          subst hn1
          simp only [List.getElem_cons_zero, List.getElem_cons_succ, Nat.zero_mul, Nat.add_zero, Nat.one_mul] at e1 e2 e3 f1 f2 f3
          have HX := Lib.hid (fun (z : World) (hz : Below w3.heap.size w3 z) => And.intro (cell_later hz k1) (And.intro (cell_later hz k3) (And.intro (cell_later hz e1) (And.intro (cell_later hz e2) (And.intro (cell_later hz e3) (And.intro (cell_later hz f1) (And.intro (cell_later hz f2) (cell_later hz f3))))))))
          have u0 := fun z (hz : Below w.heap.size w z) => under_any v a0 b z (HM.out.below hz) (hox.2.2 a0 (by simp))
          have u1 := fun z (hz : Below w.heap.size w z) => under_any v a1 b z (HM.out.below hz) (hox.2.2 a1 (by simp))
          have cp := fun z => compareQ_any (o1 :: orr) (under v a0) (under v a1) z
          generalize under v a0 = y0 at *
          generalize under v a1 = y1 at *
          generalize compareS (o1 :: orr) y0 y1 = cb at *
          unfold vArg at u0 u1 cp
          have HU0 := Lib.hid u0; have HU1 := Lib.hid u1; have HCP := Lib.hid cp; have HD2 := Lib.hid hd
          clear u0 u1 cp hd HD e1 e2 e3 f1 f2 f3
          go_wp2_with fail
          refine wpH_region (fun z => Below w3.heap.size w3 z) (by kernel_rfl) ?_
          have hS : Below w3.heap.size w3 w3.drew := (Below.refl _ _).drew
          clear k0 k1 k2 k3
          (refine tkW 0 (v := ?_) hS ?_ ?_; rotate_left; (focus (intro x hx; have fx := HX.out x hx; go_simp; (try with_reducible rfl); done)); (try simp only [Act.put, lsa, lsz, lss]))
          (refine tkW 1 (v := ?_) hS ?_ ?_; rotate_left; (focus (intro x hx; have fx := HX.out x hx; go_simp; (try with_reducible rfl); done)); (try simp only [Act.put, lsa, lsz, lss]))
          (refine tkW 2 (v := ?_) hS ?_ ?_; rotate_left; (focus (intro x hx; have fx := HX.out x hx; go_simp; (try with_reducible rfl); done)); (try simp only [Act.put, lsa, lsz, lss]))
          (refine tkW 3 (v := ?_) hS ?_ ?_; rotate_left; (focus (intro x hx; have fx := HX.out x hx; go_simp; (try with_reducible rfl); done)); (try simp only [Act.put, lsa, lsz, lss]))
          (refine tkW 4 (v := ?_) hS ?_ ?_; rotate_left; (focus (intro x hx; have fx := HX.out x hx; go_simp; (try with_reducible rfl); done)); (try simp only [Act.put, lsa, lsz, lss]))
          (refine tkW 5 (v := ?_) hS ?_ ?_; rotate_left; (focus (intro x hx; have fx := HX.out x hx; go_simp; (try with_reducible rfl); done)); (try simp only [Act.put, lsa, lsz, lss]))
          (refine tkW 6 (v := ?_) hS ?_ ?_; rotate_left; (focus (intro x hx; have fx := HX.out x hx; go_simp; (try with_reducible rfl); done)); (try simp only [Act.put, lsa, lsz, lss]))
          (refine tkW 7 (v := ?_) hS ?_ ?_; rotate_left; (focus (intro x hx; have fx := HX.out x hx; go_simp; (try with_reducible rfl); done)); (try simp only [Act.put, lsa, lsz, lss]))
          (refine tkW 9 (v := ?_) hS ?_ ?_; rotate_left; (focus (intro x hx; have fx := HX.out x hx; go_simp; (try with_reducible rfl); done)); (try simp only [Act.put, lsa, lsz, lss]))
          (refine tkW 10 (v := ?_) hS ?_ ?_; rotate_left; (focus (intro x hx; have fx := HX.out x hx; go_simp; (try with_reducible rfl); done)); (try simp only [Act.put, lsa, lsz, lss]))
          (refine tkW 11 (v := ?_) hS ?_ ?_; rotate_left; (focus (intro x hx; have fx := HX.out x hx; go_simp; (try with_reducible rfl); done)); (try simp only [Act.put, lsa, lsz, lss]))
          (refine tkW 12 (v := ?_) hS ?_ ?_; rotate_left; (focus (intro x hx; have fx := HX.out x hx; go_simp; (try with_reducible rfl); done)); (try simp only [Act.put, lsa, lsz, lss]))
          (refine tkW 13 (v := ?_) hS ?_ ?_; rotate_left; (focus (intro x hx; have fx := HX.out x hx; go_simp; (try with_reducible rfl); done)); (try simp only [Act.put, lsa, lsz, lss]))
          (refine tkW 14 (v := ?_) hS ?_ ?_; rotate_left; (focus (intro x hx; have fx := HX.out x hx; go_simp; (try with_reducible rfl); done)); (try simp only [Act.put, lsa, lsz, lss]))
          (refine wpAnyH_one 8 (by kernel_rfl) rfl ?_; intro K' hK'; go_simp; refine (HU0.out _ (HB4.out.trans (hS.mono HB4.out.size))).mono ?_; rintro e w5 ⟨rfl, hb5⟩; have hS := hS.trans (hb5.mono hS.size); refine hK'.out _ _ hS ?_; clear hK' K')
          (refine wpAnyH_one 15 (by kernel_rfl) rfl ?_; intro K' hK'; go_simp; refine (HU1.out _ (HB4.out.trans (hS.mono HB4.out.size))).mono ?_; rintro e w6 ⟨rfl, hb6⟩; have hS := hS.trans (hb6.mono hS.size); refine hK'.out _ _ hS ?_; clear hK' K')
          (refine wpAnyH_one 16 (by kernel_rfl) rfl ?_; intro K' hK'; go_simp; refine (HCP.out _).mono ?_; rintro e w7 ⟨rfl, hb7⟩; have hS := hS.trans (hb7.mono hS.size); refine hK'.out _ _ hS ?_; clear hK' K')
          (refine tkW 17 (v := ?_) hS ?_ ?_; rotate_left; (focus (intro x hx; have fx := HX.out x hx; go_simp; (try with_reducible rfl); done)); (try simp only [Act.put, lsa, lsz, lss]))
          refine wpAnyH_done (by kernel_rfl) ?_ _
          have HB6 := Lib.hid (HB4.out.trans (hS.mono HB4.out.size))
          clear HX
          cases cb
          · go_wp2_with fail
            go_ret
            exact ⟨ret_bool HD2.out, HB6.out⟩
          · go_wp2_with fail
            go_roundw
            case rel => exact ⟨k + 1, by omega, by go_num, HB6.out, HD2.out⟩
            case measure => simp [intOf]; omega
      · rw [hp, if_pos rfl] at hd
        rw [hp] at HPO
        have HD := Lib.hid hd; clear hd hp
        go_wp2_with fail
        refine (HPO.out _).mono ?_
        rintro e w3 ⟨rfl, hb3⟩
        have hb4 : Below wr.heap.size wr w3 := boxed.trans (hb3.mono (by simp))
        have HB4 := Lib.hid (HBw.out.trans (hb4.mono hwr))
        clear hb3 hb4
        go_wp2_with fail
        go_roundw
        case rel => exact ⟨k + 1, by omega, by go_num, HB4.out, HD.out⟩
        case measure => simp [intOf]; omega
    · have hd := hf.out
      rw [drop_end hlt] at hd
      have HD := Lib.hid (show V = true from hd)
      clear hd hf
      go_wp2_with fail
      go_ret
      exact ⟨ret_bool HD.out, hb⟩
end Go.Proofs.YtkjoaodoioicpaaGreatDoor
namespace Go.Proofs.YtkjoaodoioicpaaGreatDoor
open Go.RowKit
theorem predS_len {s : Bs} (h : predS s = true) : s.length ≤ 32 := by
  unfold predS eachS at h
  simp only [Bool.and_eq_true, decide_eq_true_eq] at h
  exact h.2.1.1.2
theorem formedS_ok {x : Arg} (h : formedS x = true) : OkA x ∧ (x.kind = 1 ∨ x.kind = 2 ∨ x.kind = 3) := by
  unfold formedS at h
  by_cases h1 : x.kind = 1
  · rw [if_pos h1] at h
    unfold varS eachS at h
    simp only [Bool.and_eq_true, decide_eq_true_eq, beq_iff_eq] at h
    exact ⟨⟨by omega, by omega, by omega⟩, .inl h1⟩
  · rw [if_neg h1] at h
    by_cases h2 : x.kind = 2
    · rw [if_pos h2] at h
      unfold conS at h
      simp only [Bool.and_eq_true, decide_eq_true_eq, beq_iff_eq] at h
      exact ⟨⟨by omega, by omega, by omega⟩, .inr (.inl h2)⟩
    · rw [if_neg h2] at h
      by_cases h3 : x.kind = 3
      · rw [if_pos h3] at h
        simp only [Bool.and_eq_true, decide_eq_true_eq, List.isEmpty_iff] at h
        refine ⟨⟨by rw [h.1.1]; simp, by omega, by omega⟩, .inr (.inr h3)⟩
      · rw [if_neg h3] at h
        cases h
theorem atomS_okT {a : Atm} (h : atomS a = true) : OkT a ∧ a.args.length ≤ 6 ∧ Kinds a.args := by
  unfold atomS argsS at h
  simp only [Bool.and_eq_true, decide_eq_true_eq, List.all_eq_true] at h
  have := predS_len h.1.1
  exact ⟨⟨by omega, fun x hx => (formedS_ok (h.2 x hx)).1⟩, h.1.2, fun x hx => (formedS_ok (h.2 x hx)).2⟩
theorem ground_okT {a : Atm} (h : groundP a = true) : OkT a ∧ a.args.length ≤ 6 ∧ Kinds a.args := atomS_okT (ground_atomS h)
theorem iter_append {α σ : Type} (found : σ → α → σ × Bool) (l t : List α) (s : σ) : iterF found (l ++ t) s = if (iterF found l s).2 then iterF found t (iterF found l s).1 else iterF found l s := by
  induction l generalizing s with
  | nil => rfl
  | cons v r ih =>
    rw [List.cons_append, iterF, iterF]
    cases h : (found s v).2
    · simp
    · simp only [if_true]; exact ih _
theorem flatMap_filter2 {α β : Type} (p q : α → Bool) (h : α → List β) : ∀ l : List α, (∀ f ∈ l, p f ≠ q f → h f = []) → (l.filter p).flatMap h = (l.filter q).flatMap h
  | [], _ => rfl
  | f :: r, hl => by
    have ih := flatMap_filter2 p q h r fun g hg => hl g (List.mem_cons_of_mem _ hg)
    have h0 := hl f List.mem_cons_self
    rw [List.filter_cons, List.filter_cons]
    cases hp : p f <;> cases hq : q f
    · simpa using ih
    · have e := h0 (by rw [hp, hq]; decide)
      simp only [Bool.false_eq_true, if_false, if_true, List.flatMap_cons, e, List.nil_append]; exact ih
    · have e := h0 (by rw [hp, hq]; decide)
      simp only [Bool.false_eq_true, if_false, if_true, List.flatMap_cons, e, List.nil_append]; exact ih
    · simp only [if_true, List.flatMap_cons, ih]
theorem fits_cand {L : List Atm} (hg : Gr L) {v : Bnd} (hv : GrB v) {a : Atm} {q : Plc} (hq : CandP (atomV v a) q) {β : Type} (g : Bnd → List β) :
    (idxL L q).flatMap (fun f => match fitGo v a.args f.args with | some w => g w | none => []) = (candS L a).flatMap (fun f => match fitGo v a.args f.args with | some w => g w | none => []) := by
  unfold idxL candS
  refine flatMap_filter2 _ _ _ L fun f hf hne => ?_
  have hlen : (atomV v a).args.length = a.args.length := by simp [atomV]
  have hnm : (atomV v a).name = a.name := rfl
  rcases hq with rfl | ⟨i, x, hi, hk, rfl⟩
  · exfalso
    apply hne
    rw [Bool.eq_iff_iff]
    simp [matchP, basePl, hlen, hnm]
    intro _
    omega
  · by_cases hc : f.name = a.name ∧ f.args.length = a.args.length
    · have hm : matchP (argPl (atomV v a) i x) f = false := by
        cases hm : matchP (argPl (atomV v a) i x) f
        · rfl
        · exfalso; apply hne; rw [hm]; simp [hc.1, hc.2]
      cases hw : fitGo v a.args f.args with
      | none => rfl
      | some w =>
        exfalso
        obtain ⟨h1, h2, h3, h4⟩ := fit_sound a.args f.args v w hw hv (ground_args (hg f hf)) hc.2.symm
        rw [atomV, List.getElem?_map, Option.map_eq_some_iff] at hi
        obtain ⟨y, hy, rfl⟩ := hi
        have hwy : under w y = under v y := by
          by_cases hy1 : y.kind = 1
          · cases hg : getA v y.text with
            | none => exfalso; apply hk; rw [under_none hg]; exact hy1
            | some z => rw [under_some hy1 hg, under_some hy1 (h2 _ _ hg)]
          · rw [under_ne hy1, under_ne hy1]
        have hfi : f.args[i]? = some (under v y) := by rw [← h4, List.getElem?_map, hy, Option.map_some, hwy]
        rw [matchP] at hm
        simp [argPl, hlen, hnm, hc.1, hc.2, hfi] at hm
    · exfalso
      apply hne
      have e1 : (f.name == a.name && f.args.length == a.args.length) = false := by
        rw [Bool.eq_false_iff]; intro h; simp only [Bool.and_eq_true, beq_iff_eq] at h; exact hc h
      rw [e1]
      cases hm : matchP (argPl (atomV v a) i x) f
      · rfl
      · exfalso
        rw [matchP] at hm
        simp only [argPl, hlen, hnm, Bool.and_eq_true, beq_iff_eq] at hm
        exact hc ⟨hm.1.1, by omega⟩
theorem idxL_mem {L : List Atm} {v : Bnd} {a : Atm} {q : Plc} (hq : CandP (atomV v a) q) {f : Atm} (hf : f ∈ idxL L q) : f ∈ L ∧ f.args.length = a.args.length := by
  unfold idxL at hf
  rw [List.mem_filter] at hf
  refine ⟨hf.1, ?_⟩
  have hlen : (atomV v a).args.length = a.args.length := by simp [atomV]
  have hm := hf.2
  rw [matchP] at hm
  rcases hq with rfl | ⟨i, x, hi, hk, rfl⟩
  · simp only [basePl, hlen, Bool.and_eq_true, beq_iff_eq] at hm; omega
  · simp only [argPl, hlen, Bool.and_eq_true, beq_iff_eq] at hm; omega
end Go.Proofs.YtkjoaodoioicpaaGreatDoor
namespace Go.Proofs.YtkjoaodoioicpaaGreatDoor
open Go.RowKit Go.ChangeShapes Go.WideShapes Go.MapKept Go.ChangeMaps
section
variable {κ : Type} (T : KeyT κ)
def RangeV (w : World) (b r : Nat) (m left : List (κ × Value)) : Prop :=
  ∃ es clock since seen c0, w.heap[b]? = some (.map es clock) ∧ Stamped es clock ∧ es.toList.map (fun e => (e.key, e.val)) = m.map (fun p => (T.kv p.1, p.2)) ∧ (∀ p ∈ m, T.ok p.1) ∧
    w.heap[r]? = some (.mapIter (some b) since seen c0) ∧ (∀ x ∈ es.toList, x.born < since) ∧ since ≤ c0 ∧ since ≤ clock ∧ (leftOf es seen).toList.map (fun e => (e.key, e.val)) = left.map (fun p => (T.kv p.1, p.2)) ∧ r ≠ b
variable {T}
theorem RangeV.keep {w w' : World} {b r : Nat} {m left : List (κ × Value)} (h : RangeV T w b r m left) (hb : w'.heap[b]? = w.heap[b]?) (hr : w'.heap[r]? = w.heap[r]?) : RangeV T w' b r m left := by
  obtain ⟨es, clock, since, seen, c0, h1, h2, h3, h4, h5, h6⟩ := h
  exact ⟨es, clock, since, seen, c0, hb.trans h1, h2, h3, h4, hr.trans h5, h6⟩
theorem RangeV.lt {w : World} {b r : Nat} {m left : List (κ × Value)} (h : RangeV T w b r m left) : b < w.heap.size ∧ r < w.heap.size ∧ r ≠ b := by
  obtain ⟨es, clock, since, seen, c0, h1, h2, h3, h4, h5, h6, h7, h8, h9, h10⟩ := h
  exact ⟨(Array.getElem?_eq_some_iff.1 h1).1, (Array.getElem?_eq_some_iff.1 h5).1, h10⟩
theorem RangeV.below {w w' : World} {b r : Nat} {m left : List (κ × Value)} (h : RangeV T w b r m left) (hb : Below w.heap.size w w') : RangeV T w' b r m left :=
  h.keep (hb.block _ h.lt.1) (hb.block _ h.lt.2.1)
theorem MapV.range {w : World} {b : Nat} {m : List (κ × Value)} {t e : TypeId} (h : MapV T w b m) (ht : Tryz.prog.underlying t = some (.map T.K e)) :
    ∃ w', (Instr.range t (.map (some b))).run Tryz.prog w = .ok (.pointer (some ⟨w.heap.size, 0, none⟩)) w' ∧ RangeV T w' b w.heap.size m m ∧ Below w.heap.size w w' ∧ w'.heap.size = w.heap.size + 1 := by
  have hlt := h.lt
  obtain ⟨es, clock, hb, hs, hm, hok⟩ := h
  refine ⟨_, run_range_map w t T.K e b es clock ht hb, ⟨es, clock, clock, #[], clock, blkOld hb _, hs, hm, hok, blkAt _ _ rfl, hs.1, Nat.le_refl _, Nat.le_refl _, ?_, by omega⟩, (Below.refl _ _).alloc (Nat.le_refl _) _, by simp⟩
  have : (leftOf es #[]).toList = es.toList := by
    unfold leftOf
    rw [Array.toList_filter]
    exact List.filter_eq_self.2 (fun _ _ => by simp)
  rw [this]
  exact hm
theorem RangeV.next {w : World} {b r : Nat} {m left : List (κ × Value)} (h : RangeV T w b r m left) (ty : TypeId) :
    (left = [] ∧ (Instr.next (.pointer (some ⟨r, 0, none⟩)) false ty).run Tryz.prog w = .ok (.tuple #[.bool false]) w) ∨
    ∃ l1 p l2 w', left = l1 ++ p :: l2 ∧ (Instr.next (.pointer (some ⟨r, 0, none⟩)) false ty).run Tryz.prog w = .ok (.tuple #[.bool true, T.kv p.1, p.2]) w' ∧ RangeV T w' b r m (l1 ++ l2) ∧ w.grownBy w' (some r) ∧ w'.heap.size = w.heap.size ∧
      (Instr.entry (.pointer (some ⟨r, 0, none⟩))).run Tryz.prog w' = .ok (.tuple #[T.kv p.1, p.2]) w' := by
  obtain ⟨es, clock, since, seen, c0, hb, hs, hm, hok, hr, hold, hsc, hsk, hl, hne⟩ := h
  rcases run_next_at (P := Tryz.prog) w ty r b since c0 seen es clock hr hb hold hsc with ⟨h0, hrun⟩ | ⟨e, he, w1, hal, hrun⟩
  · left
    refine ⟨?_, hrun⟩
    have : (leftOf es seen).toList = [] := by
      have : (leftOf es seen) = #[] := Array.eq_empty_of_size_eq_zero h0
      rw [this]
    rw [this] at hl
    cases left with
    | nil => rfl
    | cons a r => cases hl
  · right
    have hr1 : w1.heap[r]? = some (.mapIter (some b) since seen c0) := by rcases hal with rfl | rfl <;> exact hr
    have hb1 : w1.heap[b]? = some (.map es clock) := by rcases hal with rfl | rfl <;> exact hb
    have hset : (setBlock w1 r (.mapIter (some b) since (seen.push e.born) clock)).heap[r]? = some (.mapIter (some b) since (seen.push e.born) clock) ∧ ∀ i, i ≠ r → (setBlock w1 r (.mapIter (some b) since (seen.push e.born) clock)).heap[i]? = w1.heap[i]? := by
      have hlt := (Array.getElem?_eq_some_iff.1 hr1).1
      refine ⟨?_, fun i hi => ?_⟩
      · simp [setBlock, Array.getElem?_setIfInBounds, hlt]
      · simp [setBlock, Array.getElem?_setIfInBounds, Ne.symm hi]
    have hb' := (hset.2 b (fun e1 => hne e1.symm)).trans hb1
    obtain ⟨l1', l2', hsp⟩ := List.append_of_mem he
    have hnd : ((leftOf es seen).toList.map (·.born)).Nodup := by
      have h1 : (leftOf es seen).toList.Sublist es.toList := by
        unfold leftOf
        rw [Array.toList_filter]
        exact List.filter_sublist
      exact (h1.map (fun e : MapEntry => e.born)).nodup hs.2.1
    have hnew : (leftOf es (seen.push e.born)).toList = l1' ++ l2' := by
      have h1 : (leftOf es (seen.push e.born)).toList = (leftOf es seen).toList.filter (fun x => !(x.born == e.born)) := by
        unfold leftOf
        rw [Array.toList_filter, Array.toList_filter, List.filter_filter]
        refine List.filter_congr fun x _ => ?_
        rw [Bool.eq_iff_iff]
        simp only [Bool.not_eq_true', Bool.and_eq_true, Bool.eq_false_iff, ne_eq, beq_iff_eq]
        rw [Array.contains_iff_mem, Array.contains_iff_mem, Array.mem_push]
        constructor
        · intro h; exact ⟨fun e => h (.inr e), fun e => h (.inl e)⟩
        · rintro ⟨h1, h2⟩ (h | h)
          · exact h2 h
          · exact h1 h
      rw [h1, hsp]
      rw [hsp, List.map_append, List.map_cons, List.nodup_append] at hnd
      obtain ⟨n1, n2, n3⟩ := hnd
      rw [List.nodup_cons] at n2
      rw [List.filter_append, List.filter_cons]
      simp only [BEq.rfl, Bool.not_true, Bool.false_eq_true, if_false]
      rw [List.filter_eq_self.2, List.filter_eq_self.2]
      · intro x hx
        have : x.born ≠ e.born := fun h => n2.1 (List.mem_map.2 ⟨x, hx, h⟩)
        simpa using this
      · intro x hx
        have : x.born ≠ e.born := fun h => n3 _ (List.mem_map.2 ⟨x, hx, rfl⟩) _ List.mem_cons_self h
        simpa using this
    rw [hsp, List.map_append, List.map_cons] at hl
    obtain ⟨l1, lr, hle, e1, e2⟩ := List.map_eq_append_iff.1 hl.symm
    obtain ⟨p, l2, rfl, e3, e4⟩ := List.map_eq_cons_iff.1 e2
    injection e3 with e3 e5
    refine ⟨l1, p, l2, _, hle, ?_, ⟨es, clock, since, seen.push e.born, clock, hb', hs, hm, hok, hset.1, hold, hsk, hsk, ?_, hne⟩, ?_, ?_, ?_⟩
    · rw [e3, e5]; exact hrun
    · rw [hnew, List.map_append, List.map_append, e1, e4]
    · rcases hal with rfl | rfl <;> exact ⟨rfl, rfl, rfl, by simp [setBlock], fun i _ hi => hset.2 i (fun e1 => hi (by rw [e1]))⟩
    · rcases hal with rfl | rfl <;> simp [setBlock]
    · have hem : e ∈ es.toList := by
        have := he
        unfold leftOf at this
        rw [Array.toList_filter, List.mem_filter] at this
        exact this.1
      rw [e3, e5]
      exact run_entry_at _ r b since seen es clock e hset.1 hb' hem hs.2.1
end
section
variable {κ : Type} {T : KeyT κ} {ops : Array Oper} {rest : List Oper} {o : Oper} {a : Act} {Q : Exit → Act → World → Prop} {w : World} {b r : Nat} {m left : List (κ × Value)} {t e : TypeId}
theorem wpList_rangeV (hg : o.guard = none) (x : Operand) (hop : o.op = Op.range t x) (ht : Tryz.prog.underlying t = some (.map T.K e)) (hx : a.eval x = .map (some b)) (hm : MapV T w b m)
    (h : ∀ w', RangeV T w' b w.heap.size m m → Below w.heap.size w w' → w'.heap.size = w.heap.size + 1 → wpList Tryz.prog ops Q rest (a.put o.dst (.pointer (some ⟨w.heap.size, 0, none⟩))) w') : wpList Tryz.prog ops Q (o :: rest) a w := by
  refine wpList_plain hg fun K' hK' => ?_
  obtain ⟨w', hrun, r1, r2, r3⟩ := hm.range ht
  unfold Oper.wp
  simp [execOp, hop, hx, hrun, Result.andThen]
  exact hK' _ _ (h w' r1 r2 r3)
theorem wpList_nextV (hg : o.guard = none) (it : Operand) (hop : o.op = Op.next it false) (hit : a.eval it = .pointer (some ⟨r, 0, none⟩)) (hr : RangeV T w b r m left)
    (hDone : left = [] → wpList Tryz.prog ops Q rest (a.put o.dst (.tuple #[.bool false])) w)
    (hMore : ∀ l1 p l2 w', left = l1 ++ p :: l2 → RangeV T w' b r m (l1 ++ l2) → w.grownBy w' (some r) → w'.heap.size = w.heap.size →
      (Instr.entry (.pointer (some ⟨r, 0, none⟩))).run Tryz.prog w' = .ok (.tuple #[T.kv p.1, p.2]) w' → wpList Tryz.prog ops Q rest (a.put o.dst (.tuple #[.bool true, T.kv p.1, p.2])) w') : wpList Tryz.prog ops Q (o :: rest) a w := by
  refine wpList_plain hg fun K' hK' => ?_
  unfold Oper.wp
  rcases hr.next o.type with ⟨h0, hrun⟩ | ⟨l1, p, l2, w', h1, hrun, h2, h3, h4, h5⟩
  · simp [execOp, hop, hit, hrun, Result.andThen]
    exact hK' _ _ (hDone h0)
  · simp [execOp, hop, hit, hrun, Result.andThen]
    exact hK' _ _ (hMore l1 p l2 w' h1 h2 h3 h4 h5)
end
end Go.Proofs.YtkjoaodoioicpaaGreatDoor
