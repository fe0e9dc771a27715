/- licitref08.Value; ExprFolds: the walk. -/
import Derived.Test.YtchdpjgncojhaaaR4
import Derived.Test.YtchdpjgncojhaaaL2
set_option linter.unusedVariables false
set_option linter.unusedSimpArgs false
namespace Go.Proofs.Ytchdpjgncojhaaa
open Go.RowKit

set_option maxRecDepth 100000 in
set_option maxHeartbeats 2000000 in
theorem value8_any (A : Option Addr) (n c : Nat) (w : World) (S : Nat → Prop) (f : List Opn) (hl : Sl w S A n c f) (hf : OkF f) :
    Calls Try.prog 24 #[.slice A n c] w fun e w' => e = .returned (.tuple #[.int .u32 (valueS f).1, .bool (valueS f).2]) ∧ Below w.heap.size w w' := by
  have hfo := fold8_any A n c w S f hl hf
  obtain ⟨v, hv⟩ : ∃ v, v = valueS f := ⟨_, rfl⟩
  rw [← hv]
  unfold valueS at hv
  have HF := Lib.hid hfo; clear hfo hl hf
  generalize foldS f = F at *
  obtain ⟨F1, F2⟩ := F
  simp only at hv HF
  have Hv := Lib.hid hv; clear hv
  go_enter Try.func24, Try.ntmps24
  go_wp2_with fail
  refine HF.out.mono ?_
  rintro e w1 ⟨A1, n1, c1, rfl, hs1, hb1⟩
  have hn1 := hs1.len
  by_cases h0 : F2 = 0
  · have q0 : (F2 != 0) = false := by rw [h0]; rfl
    by_cases h1 : F1.length = 1
    · have q1 : ((n1 : Int) != 1) = false := by rw [hn1, h1]; rfl
      have q1' : n1 = 1 := by omega
      obtain ⟨b, o, rfl, -, -, k0, k1, k2⟩ := hs1.opn (k := 0) (by omega)
      have hg : F1.getD 0 default = F1[0] := by simp [h1]
      simp only [Nat.zero_mul, Nat.add_zero] at k0 k1 k2
      rw [← hg] at k0 k1 k2
      have hv2 := Hv.out
      rw [hg] at k0 k1 k2 hv2
      generalize F1[0] = X at *
      subst q1'
      have HV := Lib.hid hv2; have HH0 := Lib.hid h0; have HH1 := Lib.hid h1
      clear hs1 hg hn1 hv2 h0 h1 Hv HF
      by_cases h2 : X.kind = 1
      · have q2 : (X.kind != 1) = false := by rw [h2]; rfl
        have hv3 : v = (X.n, true) := by rw [HV.out, if_neg]; simp [HH0.out, HH1.out, h2]
        have HV3 := Lib.hid hv3; clear hv3 h2
        go_wp2
        go_ret2
        exact ⟨by rw [HV3.out]; rfl, hb1⟩
      · have q2 : (X.kind != 1) = true := by rw [bne_iff_ne]; exact h2
        have hv3 : v = (0, false) := by rw [HV.out, if_pos]; simp [h2]
        have HV3 := Lib.hid hv3; clear hv3 h2
        go_wp2
        go_ret2
        exact ⟨by rw [HV3.out]; rfl, hb1⟩
    · have q1 : ((n1 : Int) != 1) = true := by rw [bne_iff_ne]; omega
      have hv3 : v = (0, false) := by rw [Hv.out, if_pos]; simp [h1]
      have HV3 := Lib.hid hv3; have H0 := Lib.hid h0; clear hv3 h1 h0 hn1 hs1
      go_wp2
      go_ret2
      exact ⟨by rw [HV3.out]; rfl, hb1⟩
  · have q0 : (F2 != 0) = true := by rw [bne_iff_ne]; exact h0
    have hv3 : v = (0, false) := by rw [Hv.out, if_pos]; simp [h0]
    have HV3 := Lib.hid hv3; clear hv3 h0 hn1 hs1
    go_wp2
    go_ret2
    exact ⟨by rw [HV3.out]; rfl, hb1⟩


/-- What a law is told of a formula that came in. -/
theorem few_ok {f : List Opn} (h : (f.all (fun t => decide (t.text.length ≤ 50)) && decide (f.length ≤ 300)) = true) : (∀ o ∈ f, o.text.length ≤ 50) ∧ f.length ≤ 300 := by
  simp only [Bool.and_eq_true, decide_eq_true_eq, List.all_eq_true] at h
  exact h
theorem sameL_self {α : Type} [DecidableEq α] (l : List α) : sameL l l = true := by rw [sameL_eq]; simp

set_option maxRecDepth 100000 in
set_option maxHeartbeats 4000000 in
theorem exprFolds_walk (w : World) (A : Option Addr) (n c : Nat) (f : List Opn) (hl : Sl w (fun _ => True) A n c f) (hf : OkF f) :
    Calls Try.prog 5 #[.slice A n c] w fun e w' => e = .returned (.bool true) ∧ Below w.heap.size w w' := by
  have hlen := hl.len
  subst hlen
  have HL := Lib.hid hl; have HF := Lib.hid hf; clear hl hf
  go_enter Try.func5, Try.ntmps5
  go_wp2_with fail
  refine (awake_any _).mono ?_
  rintro e w1 ⟨rfl, hb1⟩
  go_wp2_with fail
  refine (few8_any _ _ _ _ _ f (HL.out.below hb1)).mono ?_
  cases hfew : (f.all (fun t => decide (t.text.length ≤ 50)) && decide (f.length ≤ 300))
  · rintro e w2 ⟨rfl, hb2⟩
    clear hfew
    go_wp2
    go_ret
    exact ⟨rfl, by ((repeat (first | (with_reducible exact Below.refl _ _) | (with_reducible refine belowA ?_ _) | (with_reducible refine belowD ?_) | (with_reducible refine belowS ?_ (Nat.le_refl _) _ _) | (with_reducible refine next ?_ (by assumption) (Nat.le_refl _)))); done)⟩
  · rintro e w2 ⟨rfl, hb2⟩
    clear hfew
    go_wp2_with fail
    refine (fold_any _ _ _ _ _ f (HL.out.below (by ((repeat (first | (with_reducible exact Below.refl _ _) | (with_reducible refine belowA ?_ _) | (with_reducible refine belowD ?_) | (with_reducible refine belowS ?_ (Nat.le_refl _) _ _) | (with_reducible refine next ?_ (by assumption) (Nat.le_refl _)))); done))) HF.out).mono ?_
    rintro e w3 ⟨A3, n3, c3, rfl, hs3, hb3⟩
    have HS3 := Lib.hid hs3; clear hs3
    go_wp2_with fail
    refine (fold8_any _ _ _ _ _ f (HL.out.below (by ((repeat (first | (with_reducible exact Below.refl _ _) | (with_reducible refine belowA ?_ _) | (with_reducible refine belowD ?_) | (with_reducible refine belowS ?_ (Nat.le_refl _) _ _) | (with_reducible refine next ?_ (by assumption) (Nat.le_refl _)))); done))) HF.out).mono ?_
    rintro e w4 ⟨A4, n4, c4, rfl, hs4, hb4⟩
    have HS4 := Lib.hid hs4; clear hs4
    go_wp2_with fail
    refine (value_any _ _ _ _ _ f (HL.out.below (by ((repeat (first | (with_reducible exact Below.refl _ _) | (with_reducible refine belowA ?_ _) | (with_reducible refine belowD ?_) | (with_reducible refine belowS ?_ (Nat.le_refl _) _ _) | (with_reducible refine next ?_ (by assumption) (Nat.le_refl _)))); done))) HF.out).mono ?_
    rintro e w5 ⟨rfl, hb5⟩
    go_wp2_with fail
    refine (value8_any _ _ _ _ _ f (HL.out.below (by ((repeat (first | (with_reducible exact Below.refl _ _) | (with_reducible refine belowA ?_ _) | (with_reducible refine belowD ?_) | (with_reducible refine belowS ?_ (Nat.le_refl _) _ _) | (with_reducible refine next ?_ (by assumption) (Nat.le_refl _)))); done))) HF.out).mono ?_
    rintro e w6 ⟨rfl, hb6⟩
    go_wp2_with fail
    refine (same8_any _ _ _ _ _ _ _ _ _ (foldS f).1 (foldS f).1 (HS3.out.below (by ((repeat (first | (with_reducible exact Below.refl _ _) | (with_reducible refine belowA ?_ _) | (with_reducible refine belowD ?_) | (with_reducible refine belowS ?_ (Nat.le_refl _) _ _) | (with_reducible refine next ?_ (by assumption) (Nat.le_refl _)))); done))) (HS4.out.below (by ((repeat (first | (with_reducible exact Below.refl _ _) | (with_reducible refine belowA ?_ _) | (with_reducible refine belowD ?_) | (with_reducible refine belowS ?_ (Nat.le_refl _) _ _) | (with_reducible refine next ?_ (by assumption) (Nat.le_refl _)))); done)))).mono ?_
    rw [sameL_self]
    rintro e w7 ⟨rfl, hb7⟩
    go_wp2
    go_ret
    exact ⟨rfl, by ((repeat (first | (with_reducible exact Below.refl _ _) | (with_reducible refine belowA ?_ _) | (with_reducible refine belowD ?_) | (with_reducible refine belowS ?_ (Nat.le_refl _) _ _) | (with_reducible refine next ?_ (by assumption) (Nat.le_refl _)))); done)⟩
end Go.Proofs.Ytchdpjgncojhaaa
