/- Rules, reference: comparison, Literal, Rule. -/
import Derived.Test.YtjopmgoacncmgaaGreatDoorKW5
import Derived.Test.YtjopmgoacncmgaaGreatDoorKF2
set_option linter.unusedVariables false
set_option linter.unusedSimpArgs false
namespace Go.Proofs.YtjopmgoacncmgaaGreatDoor
open Go.RowKit

theorem comparison_any (s : Bs) (w : World) : Calls Tryz.prog 141 #[.string ⟨s.toArray⟩] w fun e w' => e = .returned (.bool (opsL.contains s)) ∧ w' = w := by
  go_enter Tryz.func141, Tryz.ntmps141
  go_wp2
  all_goals go_ret
  all_goals (refine ⟨ret_bool ?_, rfl⟩; rw [Bool.eq_iff_iff]; simp_all [opsL])

set_option maxRecDepth 100000 in
set_option maxHeartbeats 2000000 in
theorem rliteral_any (l : Ltl) (A : Option Addr) (n c : Nat) (w : World) (S : Nat → Prop) (hl : Sl w S A n c l.atom.args) (ho : OkL l) :
    Calls Tryz.prog 104 #[.agg #[.bool l.neg, .string ⟨l.op.toArray⟩, .string ⟨l.atom.name.toArray⟩, .slice A n c]] w fun e w' => e = .returned (.bool (ltlS l)) ∧ Below w.heap.size w w' := by
  obtain ⟨v, hv⟩ : ∃ v, v = ltlS l := ⟨_, rfl⟩
  rw [← hv]
  unfold ltlS compsS at hv
  have hn := hl.len
  obtain ⟨neg, op, ⟨nm, args⟩⟩ := l
  simp only at hl hv hn ⊢
  cases op with
  | nil =>
    simp only [List.isEmpty_nil, Bool.not_true, Bool.not_false, if_true] at hv
    have hat := fun w S (h : Sl w S A n c args) => ratomF_any ⟨nm, args⟩ A n c w S h ho.2
    rw [← hv] at hat
    have HAT := Lib.hid hat; have HLL := Lib.hid hl
    clear hat hl ho hv hn
    go_enter Tryz.func104, Tryz.ntmps104
    go_wp2_with fail
    refine (HAT.out _ _ (HLL.out.alloc _)).mono ?_
    rintro e w2 ⟨rfl, hb2⟩
    go_wp2_with fail
    go_ret
    exact ⟨rfl, boxed.trans (hb2.mono (by simp))⟩
  | cons o1 orr =>
    simp only [List.isEmpty_cons, Bool.not_false, Bool.not_true, Bool.false_eq_true, if_false] at hv
    have hfa := fun w S (h : Sl w S A n c args) => rarguments_any A n c args w S h ho.2.2
    have hcm := fun w => comparison_any (o1 :: orr) w
    have hop : ((o1 :: orr : Bs) == []) = false := rfl
    rw [← hn] at hv hfa
    generalize opsL.contains (o1 :: orr) = b1 at *
    generalize argsS args = b5 at *
    have hq2 : ((n : Int) == 2) = (n == 2) := by rw [Bool.eq_iff_iff]; simp; omega
    have HFA := Lib.hid hfa; have HCM := Lib.hid hcm; have HLL := Lib.hid hl; have Hv := Lib.hid hv
    clear hfa hcm hl ho hv hn
    by_cases hop1 : b1 = true ∧ neg = false ∧ nm = [] ∧ n = 2
    · obtain ⟨rfl, rfl, rfl, rfl⟩ := hop1
      have HV := Lib.hid (show v = b5 by rw [Hv.out]; simp)
      have HF2 := Lib.hid (fun w S h => (HFA.out w S h))
      clear Hv HFA
      go_enter Tryz.func104, Tryz.ntmps104
      go_wp2_with fail
      refine (HCM.out _).mono ?_
      rintro e w1 ⟨rfl, rfl⟩
      go_wp2_with fail
      refine (HF2.out _ _ (HLL.out.alloc _)).mono ?_
      rintro e w2 ⟨rfl, hb2⟩
      go_wp2_with fail
      go_ret
      exact ⟨ret_bool (by rw [HV.out]), boxed.trans (hb2.mono (by simp))⟩
    · have HV := Lib.hid (show v = false by
        rw [Hv.out]
        cases b1 <;> cases neg <;> simp_all)
      clear Hv HFA
      cases b1
      · clear hop1
        go_enter Tryz.func104, Tryz.ntmps104
        go_wp2_with fail
        refine (HCM.out _).mono ?_
        rintro e w1 ⟨rfl, rfl⟩
        go_wp2_with fail
        go_ret
        exact ⟨ret_bool HV.out, boxed⟩
      · cases neg
        · by_cases hnm : nm = []
          · subst hnm
            have h2 : (n == 2) = false := by simpa using hop1
            have h2I : ((n : Int) == 2) = false := by rw [hq2, h2]
            clear hop1 hq2 h2
            go_enter Tryz.func104, Tryz.ntmps104
            go_wp2_with fail
            refine (HCM.out _).mono ?_
            rintro e w1 ⟨rfl, rfl⟩
            go_wp2_with fail
            go_ret
            exact ⟨ret_bool HV.out, boxed⟩
          · have hnb : (nm == []) = false := by simpa using hnm
            have hni : nm.isEmpty = false := by simpa using hnm
            clear hop1 hnm
            go_enter Tryz.func104, Tryz.ntmps104
            go_wp2_with fail
            refine (HCM.out _).mono ?_
            rintro e w1 ⟨rfl, rfl⟩
            go_wp2_with fail
            go_ret
            exact ⟨ret_bool HV.out, boxed⟩
        · clear hop1
          go_enter Tryz.func104, Tryz.ntmps104
          go_wp2_with fail
          refine (HCM.out _).mono ?_
          rintro e w1 ⟨rfl, rfl⟩
          go_wp2_with fail
          go_ret
          exact ⟨ret_bool HV.out, boxed⟩

theorem ruleV_any (r : Rul) (A1 : Option Addr) (n1 c1 : Nat) (A2 : Option Addr) (n2 c2 : Nat) (w : World) (S : Nat → Prop) (h1 : Sl w S A1 n1 c1 r.head.args) (h2 : Sl w S A2 n2 c2 r.body) (g1 : atomS r.head = true) (g2 : r.body.length ≤ 4) (g3 : r.body.all ltlS = true) :
    Calls Tryz.prog 26 #[.agg #[.string ⟨r.head.name.toArray⟩, .slice A1 n1 c1, .slice A2 n2 c2]] w fun e w' => ∃ A c, e = .returned (.slice A (varsS r).length c) ∧ Below w.heap.size w w' := by
  have := form_atom g1
  have := form_cnt r.body g3
  refine (rvariables_any r A1 n1 c1 A2 n2 c2 w S h1 h2 (by omega)).mono ?_
  rintro e w' ⟨A, c, rfl, -, hb⟩
  exact ⟨A, c, rfl, hb⟩

set_option maxRecDepth 100000 in
set_option maxHeartbeats 4000000 in
theorem rrule_any (r : Rul) (A1 : Option Addr) (n1 c1 : Nat) (A2 : Option Addr) (n2 c2 : Nat) (w : World) (S : Nat → Prop) (h1 : Sl w S A1 n1 c1 r.head.args) (h2 : Sl w S A2 n2 c2 r.body) (ho : OkR r) :
    Calls Tryz.prog 55 #[.agg #[.string ⟨r.head.name.toArray⟩, .slice A1 n1 c1, .slice A2 n2 c2]] w fun e w' => e = .returned (.bool (ruleS r)) ∧ Below w.heap.size w w' := by
  obtain ⟨v, hv⟩ : ∃ v, v = ruleS r := ⟨_, rfl⟩
  rw [← hv]
  unfold ruleS at hv
  have hn2 := h2.len
  subst hn2
  have hle2 := h2.le
  have hfa := fun w S (h : Sl w S A1 n1 c1 r.head.args) => ratomF_any r.head A1 n1 c1 w S h ho.1
  have hva := fun w S (h1 : Sl w S A1 n1 c1 r.head.args) (h2 : Sl w S A2 r.body.length c2 r.body) g1 g2 g3 => ruleV_any r A1 n1 c1 A2 r.body.length c2 w S h1 h2 g1 g2 g3
  have hOK := ho.2
  generalize hat : atomS r.head = b1 at *
  generalize (varsS r).length = vl at *
  obtain ⟨⟨nm, args⟩, body⟩ := r
  simp only at *
  have HFA := Lib.hid hfa; have HVA := Lib.hid hva; have H1 := Lib.hid h1; have H2 := Lib.hid h2; have HOK := Lib.hid hOK
  have hfm : ∀ x ∈ body, ∀ (A : Option Addr) (n c : Nat) (w : World) (S : Nat → Prop), Sl w S A n c x.atom.args → Calls Tryz.prog 104 #[.agg #[.bool x.neg, .string ⟨x.op.toArray⟩, .string ⟨x.atom.name.toArray⟩, .slice A n c]] w fun e w' => e = .returned (.bool (ltlS x)) ∧ Below w.heap.size w w' := fun x hx A n c w S hs => rliteral_any x A n c w S hs (hOK x hx)
  have HFM := Lib.hid hfm
  clear hfa hva h1 h2 ho hOK hfm
  cases b1
  · have HV := Lib.hid (show v = false by rw [hv]; rfl)
    clear hv
    go_enter Tryz.func55, Tryz.ntmps55
    go_wp2_with fail
    refine (HFA.out _ _ (H1.out.alloc _)).mono ?_
    rintro e w1 ⟨rfl, b1⟩
    go_wp2_with fail
    go_ret
    exact ⟨ret_bool HV.out, boxed.trans (b1.mono (by simp))⟩
  · by_cases h4 : body.length ≤ 4
    · have h4I : ¬ (4 : Int) < (body.length : Int) := by omega
      have hv2 : v = (((body.drop 0).all ltlS) && decide (vl ≤ 6)) := by rw [hv]; simp [h4]
      have HV := Lib.hid hv2
      clear hv hv2
      go_enter Tryz.func55, Tryz.ntmps55
      go_wp2_with fail
      refine (HFA.out _ _ (H1.out.alloc _)).mono ?_
      rintro e w1 ⟨rfl, b1⟩
      have hB := keptBlk b1 (blkAt w (.cells #[.string ⟨nm.toArray⟩, .slice A1 n1 c1, .slice A2 body.length c2] 48) rfl)
      have hb1 : Below w.heap.size w w1 := boxed.trans (b1.mono (by simp))
      have C2 := (cell_blk hB 2).trans rfl
      have HB0 := Lib.hid hB
      clear b1 hB
      go_wp2_with fail
      have HB1 := Lib.hid hb1
      have HXX := Lib.hid (fun (x : World) (hx : Below w1.heap.size w1 x) => And.intro ((cell_blk (keptBlk hx HB0.out) 0).trans rfl) (And.intro ((cell_blk (keptBlk hx HB0.out) 1).trans rfl) ((cell_blk (keptBlk hx HB0.out) 2).trans rfl)))
      clear C2 hb1 hat
      go_loopw [3] (fun i wr => ∃ k : Nat, k ≤ body.length ∧ i = .int .i64 k ∧ Below w1.heap.size w1 wr ∧ Hid ((body.take k).all ltlS = true) ∧ Hid (v = (((body.drop k).all ltlS) && decide (vl ≤ 6)))) (fun i _ => body.length - (intOf i).toNat)
      case atStart => exact ⟨0, by omega, rfl, Below.refl _ _, Lib.hid rfl, HV⟩
      case round =>
        obtain ⟨k, hk, rfl, hb, ht, hf⟩ := hrel
        have hwr := hb.size
        obtain ⟨C0, C1, C2⟩ := HXX.out _ hb
        by_cases hlt : k < body.length
        · obtain ⟨b2, o2, rfl, -, hbs2, A5, n5, c5, k0, k1, k2, k3, hs5⟩ := ((H2.out.below HB1.out).below hb).ltl hlt
          have hd := hf.out
          rw [drop_get hlt, List.all_cons] at hd
          have htk : (body.take (k + 1)).all ltlS = ((body.take k).all ltlS && ltlS body[k]) := by rw [List.take_succ_eq_append_getElem hlt, List.all_append]; simp
          have hfx := HFM.out _ (List.getElem_mem hlt)
          generalize body[k] = x at *
          obtain ⟨neg, op, ⟨ynm, yargs⟩⟩ := x
          simp only at k0 k1 k2 k3 hs5 hfx
          have hfx := hfx A5 n5 c5 wr _ hs5
          cases hx : ltlS ⟨neg, op, ⟨ynm, yargs⟩⟩
          · rw [hx] at hd hfx
            have HD := Lib.hid (show v = false by rw [hd]; rfl); have HFX := Lib.hid hfx; have HB := Lib.hid hb
            clear hd hfx hs5 hb hx htk hf
            go_wp2_with fail
            refine HFX.out.mono ?_
            rintro e w5 ⟨rfl, b5⟩
            go_wp2_with fail
            go_ret
            exact ⟨ret_bool HD.out, HB1.out.trans ((HB.out.trans (b5.mono HB.out.size)).mono HB1.out.size)⟩
          · rw [hx] at hd hfx htk
            have HD := Lib.hid (show v = (((body.drop (k + 1)).all ltlS) && decide (vl ≤ 6)) by rw [hd]; rfl); have HFX := Lib.hid hfx; have HB := Lib.hid hb
            have HT := Lib.hid (show (body.take (k + 1)).all ltlS = true by rw [htk, ht.out]; rfl)
            clear hd hfx hs5 hb hx htk hf ht
            go_wp2_with fail
            refine HFX.out.mono ?_
            rintro e w5 ⟨rfl, b5⟩
            go_wp2_with fail
            go_roundw
            case rel => exact ⟨k + 1, by omega, by go_num, HB.out.trans (b5.mono HB.out.size), HT, HD⟩
            case measure => simp [intOf]; omega
        · have hd := hf.out
          rw [drop_end hlt] at hd
          have ht1 := ht.out
          rw [List.take_of_length_le (by omega)] at ht1
          have HD := Lib.hid (show v = decide (vl ≤ 6) by rw [hd]; simp); have HB := Lib.hid hb
          have HVV := Lib.hid (HVA.out _ _ ((H1.out.below HB1.out).below hb) ((H2.out.below HB1.out).below hb) trivial h4 ht1)
          clear hd hb hf ht ht1
          go_wp2_with fail
          refine HVV.out.mono ?_
          rintro e w5 ⟨A5, c5, rfl, b5⟩
          go_wp2_with fail
          go_ret
          exact ⟨ret_bool (by rw [HD.out, decide_eq_decide]; omega), HB1.out.trans ((HB.out.trans (b5.mono HB.out.size)).mono HB1.out.size)⟩
    · have h4I : (4 : Int) < (body.length : Int) := by omega
      have HV := Lib.hid (show v = false by rw [hv]; simp [h4])
      clear hv
      go_enter Tryz.func55, Tryz.ntmps55
      go_wp2_with fail
      refine (HFA.out _ _ (H1.out.alloc _)).mono ?_
      rintro e w1 ⟨rfl, b1⟩
      have hB := keptBlk b1 (blkAt w (.cells #[.string ⟨nm.toArray⟩, .slice A1 n1 c1, .slice A2 body.length c2] 48) rfl)
      have C2 := (cell_blk hB 2).trans rfl
      go_wp2_with fail
      go_ret
      exact ⟨ret_bool HV.out, boxed.trans (b1.mono (by simp))⟩
end Go.Proofs.YtjopmgoacncmgaaGreatDoor
