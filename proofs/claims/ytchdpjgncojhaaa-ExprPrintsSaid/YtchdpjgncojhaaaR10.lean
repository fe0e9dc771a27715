/- ExprPrints: the walk. -/
import Derived.Test.YtchdpjgncojhaaaR9
import Derived.Test.YtchdpjgncojhaaaL2
set_option linter.unusedVariables false
set_option linter.unusedSimpArgs false
namespace Go.Proofs.Ytchdpjgncojhaaa
open Go.RowKit

theorem sameL_refl8 {α : Type} [DecidableEq α] (l : List α) : sameL l l = true := by rw [sameL_eq]; simp

set_option maxRecDepth 100000 in
set_option maxHeartbeats 4000000 in
theorem exprPrints_walk (w : World) (A : Option Addr) (n c : Nat) (f : List Opn) (hl : Sl w (fun _ => True) A n c f) (hf : OkF f) :
    Calls Try.prog 4 #[.slice A n c] w fun e w' => e = .returned (.bool true) ∧ Below w.heap.size w w' := by
  have hlen := hl.len
  subst hlen
  have HL := Lib.hid hl; have HF := Lib.hid hf; clear hl hf
  go_enter Try.func4, Try.ntmps4
  go_wp2_with fail
  refine (awake_any _).mono ?_
  rintro e w1 ⟨rfl, hb1⟩
  go_wp2_with fail
  refine (few8_any _ _ _ _ _ f (HL.out.below hb1)).mono ?_
  cases hfew : (f.all (fun t => decide (t.text.length ≤ 50)) && decide (f.length ≤ 300))
  · rintro e w2 ⟨rfl, hb2⟩
    clear hfew
    go_wp2
    go_ret
    exact ⟨rfl, by ((repeat (first | (with_reducible exact Below.refl _ _) | (with_reducible refine belowA ?_ _) | (with_reducible refine belowD ?_) | (with_reducible refine belowS ?_ (Nat.le_refl _) _ _) | (with_reducible refine next ?_ (by assumption) (Nat.le_refl _)))); done)⟩
  · rintro e w2 ⟨rfl, hb2⟩
    clear hfew
    go_wp2_with fail
    refine (exprPrint_any _ _ _ _ _ f (HL.out.below (by ((repeat (first | (with_reducible exact Below.refl _ _) | (with_reducible refine belowA ?_ _) | (with_reducible refine belowD ?_) | (with_reducible refine belowS ?_ (Nat.le_refl _) _ _) | (with_reducible refine next ?_ (by assumption) (Nat.le_refl _)))); done))) HF.out).mono ?_
    rintro e w3 ⟨A3, n3, c3, rfl, hs3, hb3⟩
    have HS3 := Lib.hid hs3; clear hs3
    have hp8 := fun w S h => print8_any A f.length c w S f h HF.out
    rw [print8_eq] at hp8
    have HP8 := Lib.hid hp8; clear hp8
    go_wp2_with fail
    refine (HP8.out _ _ (HL.out.below (by ((repeat (first | (with_reducible exact Below.refl _ _) | (with_reducible refine belowA ?_ _) | (with_reducible refine belowD ?_) | (with_reducible refine belowS ?_ (Nat.le_refl _) _ _) | (with_reducible refine next ?_ (by assumption) (Nat.le_refl _)))); done)))).mono ?_
    rintro e w4 ⟨A4, n4, c4, rfl, hs4, hb4⟩
    have HS4 := Lib.hid hs4; clear hs4
    go_wp2_with fail
    refine (same5_any _ _ _ _ _ _ _ _ _ (exprPrintS f).1 (exprPrintS f).1 (HS3.out.below (by ((repeat (first | (with_reducible exact Below.refl _ _) | (with_reducible refine belowA ?_ _) | (with_reducible refine belowD ?_) | (with_reducible refine belowS ?_ (Nat.le_refl _) _ _) | (with_reducible refine next ?_ (by assumption) (Nat.le_refl _)))); done))) (HS4.out.below (by ((repeat (first | (with_reducible exact Below.refl _ _) | (with_reducible refine belowA ?_ _) | (with_reducible refine belowD ?_) | (with_reducible refine belowS ?_ (Nat.le_refl _) _ _) | (with_reducible refine next ?_ (by assumption) (Nat.le_refl _)))); done)))).mono ?_
    rw [sameL_refl8]
    rintro e w5 ⟨rfl, hb5⟩
    go_wp2_with fail
    refine (check_any _ _ _ _ _ f (HL.out.below (by ((repeat (first | (with_reducible exact Below.refl _ _) | (with_reducible refine belowA ?_ _) | (with_reducible refine belowD ?_) | (with_reducible refine belowS ?_ (Nat.le_refl _) _ _) | (with_reducible refine next ?_ (by assumption) (Nat.le_refl _)))); done))) HF.out).mono ?_
    rintro e w6 ⟨rfl, hb6⟩
    go_wp2_with fail
    refine (check8_any _ _ _ _ _ f (HL.out.below (by ((repeat (first | (with_reducible exact Below.refl _ _) | (with_reducible refine belowA ?_ _) | (with_reducible refine belowD ?_) | (with_reducible refine belowS ?_ (Nat.le_refl _) _ _) | (with_reducible refine next ?_ (by assumption) (Nat.le_refl _)))); done))) HF.out).mono ?_
    rintro e w7 ⟨rfl, hb7⟩
    go_wp2
    go_ret
    exact ⟨rfl, by ((repeat (first | (with_reducible exact Below.refl _ _) | (with_reducible refine belowA ?_ _) | (with_reducible refine belowD ?_) | (with_reducible refine belowS ?_ (Nat.le_refl _) _ _) | (with_reducible refine next ?_ (by assumption) (Nat.le_refl _)))); done)⟩
end Go.Proofs.Ytchdpjgncojhaaa
