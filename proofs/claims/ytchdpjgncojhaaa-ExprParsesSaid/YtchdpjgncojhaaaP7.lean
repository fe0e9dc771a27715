/- licitref08: the parser, whole; Parse; ExprParses: the walk. -/
import Derived.Test.YtchdpjgncojhaaaP6
import Derived.Test.YtchdpjgncojhaaaL2
import Derived.Test.YtchdpjgncojhaaaR3
set_option linter.unusedVariables false
set_option linter.unusedSimpArgs false
namespace Go.Proofs.Ytchdpjgncojhaaa
open Go.RowKit

theorem prim8_step (n0 g : Nat) (L : List Tok) (hV : ∀ t ∈ L, validT t = true) (f : Nat) (ihL : ∀ f', f' ≤ f → WLevel n0 g L f') (ihP : ∀ f', f' ≤ f → WPrim n0 g L f') (ihA : WArg8 n0 g L f) : WPrim n0 g L (f + 1) := by
  intro st w x hx hps he hd hd25 hm
  cases hr : st.rest with
  | nil =>
    rw [pr, hr] at hx
    injection hx with hx
    subst hx
    exact prim8_nil n0 g L st w hr hps he
  | cons t rr =>
    have hvt : validT t = true := hV t (by
      obtain ⟨k, h1, -⟩ := hps
      refine List.mem_of_mem_drop (i := k) ?_
      rw [← h1, hr]; simp)
    rw [valid_eq] at hvt
    by_cases hk : t.kind = 2 ∨ t.kind = 3
    · exact prim8_sym n0 g L hV f ihL ihP ihA st w x t rr hr hk hx hps he hd hd25 hm
    · have hk1 : t.kind = 1 := by
        simp only [not_or] at hk
        unfold valid5 at hvt
        refine Classical.byContradiction fun h => ?_
        simp [h, hk.1, hk.2] at hvt
      by_cases h1 : t.text = [108, 111, 97, 100]
      · exact prim8_load n0 g L hV f ihL ihP ihA st w x t rr hr hk1 h1 hx hps he hd hd25 hm
      · by_cases h2 : t.text = [105, 110]
        · exact prim8_in n0 g L hV f ihL ihP ihA st w x t rr hr hk1 h1 h2 hx hps he hd hd25 hm
        · exact prim8_name n0 g L hV f ihL ihP ihA st w x t rr hr hk1 h1 h2 hx hps he hd hd25 hm
theorem parser8_all (n0 g : Nat) (L : List Tok) (hV : ∀ t ∈ L, validT t = true) : ∀ f, WLevel n0 g L f ∧ WPrim n0 g L f ∧ WArg8 n0 g L f := by
  intro f
  induction f using Nat.strongRecOn with
  | _ f ih =>
    cases f with
    | zero => exact ⟨fun l li st w x _ _ _ h => (by cases h), fun st w x h => (by cases h), fun st w x h => (by cases h)⟩
    | succ f =>
      have hL : ∀ f', f' ≤ f → WLevel n0 g L f' := fun f' h => (ih f' (by omega)).1
      exact ⟨level8_step n0 g L f hL (ih f (by omega)).2.1, prim8_step n0 g L hV f hL (fun f' h => (ih f' (by omega)).2.1) (ih f (by omega)).2.2, args8_step n0 g L f hL⟩

theorem printT_cases (l : List Tok) : printT l = if 256 < l.length then 10 else if l.all validT then 0 else 1 := by
  unfold printT
  rw [printE_all]
set_option maxRecDepth 100000 in
set_option maxHeartbeats 4000000 in
theorem parse8_any (A : Option Addr) (n c : Nat) (w : World) (S : Nat → Prop) (l : List Tok) (hl : Sl w S A n c l) (hs : ∀ t ∈ l, t.text.length ≤ 9223372036854775807) :
    Calls Try.prog 13 #[.slice A n c] w fun e w' => ∃ A' n' c', e = .returned (.tuple #[.slice A' n' c', .int .i64 (parseE l).2]) ∧ Sl w' (fun b => w.heap.size ≤ b) A' n' c' (parseE l).1 ∧ Below w.heap.size w w' := by
  obtain ⟨v, hv⟩ : ∃ v, v = parseE l := ⟨_, rfl⟩
  rw [← hv]
  have hlen := hl.len
  subst hlen
  have hle := hl.le
  unfold parseE at hv
  have hpt := printT_cases l
  have hav := fun W (h : Sl W S A l.length c l) => allValid5_any A l.length c W S l h hs
  have HL := Lib.hid hl; clear hl
  by_cases hbig : 256 < l.length
  · have hbig' : (256 : Int) < (l.length : Int) := by omega
    rw [if_pos hbig] at hpt
    rw [hpt, if_pos (by decide)] at hv
    have Hv := Lib.hid hv
    clear hv hpt hav hs hbig
    go_enter Try.func13, Try.ntmps13
    go_wp2
    go_ret2
    rw [Hv.out]
    exact ⟨none, 0, 0, rfl, Sl.nil _ _ _ _ (by decide), Below.refl _ _⟩
  · have hbig' : ¬ ((256 : Int) < (l.length : Int)) := by omega
    rw [if_neg hbig] at hpt
    have hdec : decide (l.length ≤ 256) = true := by simpa using Nat.le_of_not_lt hbig
    have hall : l.all valid5 = l.all validT := by congr 1; funext t; exact (valid_eq t).symm
    rw [hdec, Bool.and_true, hall] at hav
    cases hva : l.all validT
    · rw [hva] at hpt hav
      simp only [Bool.false_eq_true, if_false] at hpt
      rw [hpt, if_pos (by decide)] at hv
      have Hv := Lib.hid hv
      have HAV := Lib.hid hav
      clear hv hpt hav hs hbig hdec hall hva
      go_enter Try.func13, Try.ntmps13
      go_wp2_with fail
      refine (HAV.out _ HL.out).mono ?_
      rintro e w1 ⟨rfl, hb1⟩
      go_wp2
      go_ret2
      rw [Hv.out]
      exact ⟨none, 0, 0, rfl, Sl.nil _ _ _ _ (by decide), hb1⟩
    · rw [hva] at hpt hav
      simp only [if_true] at hpt
      rw [if_neg (fun h => h hpt)] at hv
      have hVl : ∀ t ∈ l, validT t = true := by simpa using hva
      obtain ⟨x, hx⟩ := pr_some (16 * l.length + 20) (.bin 1) ⟨l, 0, [], 0⟩ (by simp [okTag]) (by simp only [rank]; omega)
      rw [hx] at hv
      have HAV := Lib.hid hav; have HS := Lib.hid hs; have HX := Lib.hid hx; have HVL := Lib.hid hVl
      obtain ⟨xb, s, xn⟩ := x
      simp only at hv
      have HV := Lib.hid hv
      clear hav hs hx hVl hv hpt hdec hall hva
      go_enter Try.func13, Try.ntmps13
      go_wp2_with fail
      refine (HAV.out _ HL.out).mono ?_
      rintro e w1 ⟨rfl, hb1⟩
      go_wp2_with fail
      have hpw : PW8 (w1.alloc (.cells #[.slice A l.length c, .int .i64 0, .slice none 0 0, .int .i64 0, .int .i64 0] 62)) w1.heap.size w1.heap.size l ⟨0, 0, [], 0⟩ :=
        ⟨Nat.le_refl _, by simp, by simp, HS.out, by omega, A, c, none, 0, heap_alloc_new w1 _, ((HL.out.below hb1).wide (fun k hk _ => hk) (by decide)).alloc _, Own.nil _ _ _ _⟩
      refine ((parser8_all w1.heap.size w1.heap.size l HVL.out _).1 1 1 ⟨l, 0, [], 0⟩ _ (xb, s, xn) rfl (by omega) (by omega) HX.out ⟨0, rfl, hpw⟩ rfl (by simp) (by simp) (by simp only [PSt.m, List.length_nil]; omega)).mono ?_
      rintro e w2 ⟨rfl, hr2, hf2⟩
      simp only at hr2
      cases xb
      · obtain ⟨hen, q, hq, hqe, -, -, -⟩ := hr2.2 rfl
        have hv2 : v = ([], s.err) := by
          have := HV.out
          simp only [Bool.false_and, Bool.false_eq_true, if_false] at this
          rw [this, if_pos hen]
        have HV2 := Lib.hid hv2
        obtain ⟨-, -, -, -, -, A3, c3, Ao3, co3, hb3, -, -⟩ := hq
        have d4 := (cell_blk hb3 4).trans rfl
        rw [hqe] at d4
        have e1 : (s.err == 0) = false := by rw [beq_eq_false_iff_ne]; exact hen
        have e2 : (s.err != 0) = true := by rw [bne_iff_ne]; exact hen
        clear hb3 hqe hen hv2 hr2 HX
        go_wp2_with fail
        go_quiet (fail)
        go_wp2_with fail
        (try go_quiet (fail))
        go_wp2
        go_ret2
        rw [HV2.out]
        refine ⟨none, 0, 0, rfl, Sl.nil _ _ _ _ (by decide), ?_⟩
        first | exact fin_below hb1 hf2 | exact dN (fin_below hb1 hf2) _ | exact dN (dN (fin_below hb1 hf2) _) _
      · obtain ⟨⟨k, hk, hq⟩, hes⟩ := hr2.1 rfl
        have HQ := Lib.hid hq
        have hkl : k ≤ l.length := hq.2.2.1
        obtain ⟨-, -, -, -, -, A3, c3, Ao3, co3, hb3, hsl3, hown3⟩ := hq
        have d0 := (cell_blk hb3 0).trans rfl
        have d1 := (cell_blk hb3 1).trans rfl
        have d2 := (cell_blk hb3 2).trans rfl
        have d4 := (cell_blk hb3 4).trans rfl
        have e1 : (s.err == 0) = true := by rw [hes]; rfl
        have HO3 := Lib.hid hown3
        by_cases hlt : k < l.length
        · have hlt' : (k : Int) < (l.length : Int) := by omega
          have hv2 : v = ([], 4) := by
            have := HV.out
            have h1 : s.rest.isEmpty = false := by
              rw [hk, drop_get hlt]; rfl
            rw [h1] at this
            simp only [Bool.not_false, Bool.and_true, if_true, pfail_err hes] at this
            rw [this, if_pos (by decide)]
          have HV2 := Lib.hid hv2; have HES := Lib.hid hes
          clear hb3 hv2 hr2 HX hsl3 hown3 hes hk
          go_wp2_with fail
          refine (fail8_any _ _ l _ 4 _ HQ.out).mono ?_
          rintro e w5 ⟨rfl, hw5, hf5⟩
          rw [qfail0 HES.out] at hw5
          obtain ⟨-, -, -, -, -, A5, c5, Ao5, co5, hb5, -, -⟩ := hw5
          have HF5 := Lib.hid (PM.trans hf2 hf5)
          have d5 := (cell_blk hb5 4).trans rfl
          clear hb5 hf5
          go_wp2_with fail
          (try go_quiet (fail))
          go_wp2
          go_ret2
          rw [HV2.out]
          refine ⟨none, 0, 0, rfl, Sl.nil _ _ _ _ (by decide), ?_⟩
          first | exact fin_below hb1 HF5.out | exact dN (fin_below hb1 HF5.out) _
        · have hv2 : v = (s.out, 0) := by
            have := HV.out
            have h1 : s.rest.isEmpty = true := by
              rw [hk, List.drop_eq_nil_of_le (by omega)]; rfl
            rw [h1] at this
            simp only [Bool.not_true, Bool.and_false, Bool.false_eq_true, if_false, hes, ne_eq, not_true] at this
            exact this
          have HV2 := Lib.hid hv2; have HES := Lib.hid hes
          have e2 : (s.err != 0) = false := by rw [hes]; rfl
          have HLT := Lib.hid hlt
          clear hb3 hv2 hr2 HX hsl3 hown3 hes hk hlt hkl
          have hlt' : ¬ ((k : Int) < (l.length : Int)) := by have := HLT.out; omega
          go_wp2
          go_ret2
          rw [HV2.out]
          refine ⟨Ao3, _, co3, rfl, ?_, ?_⟩
          · exact (HO3.out.sl (by decide)).wide (fun k _ hk => by rcases hk with hk | hk; exact hk.elim; have := (HO3.out.lt k hk).1; have := hb1.size; omega) (by decide)
          · first | exact fin_below hb1 hf2 | exact dN (fin_below hb1 hf2) _ | exact dN (dN (fin_below hb1 hf2) _) _
end Go.Proofs.Ytchdpjgncojhaaa
