/- ExprParses: the walk. -/
import Derived.Test.YtchdpjgncojhaaaP7
import Derived.Test.YtchdpjgncojhaaaL2
set_option linter.unusedVariables false
set_option linter.unusedSimpArgs false
namespace Go.Proofs.Ytchdpjgncojhaaa
open Go.RowKit

theorem sameL_refl9 {α : Type} [DecidableEq α] (l : List α) : sameL l l = true := by rw [sameL_eq]; simp

set_option maxRecDepth 100000 in
set_option maxHeartbeats 4000000 in
theorem exprParses_walk (w : World) (A : Option Addr) (n c : Nat) (l : List Tok) (hl : Sl w (fun _ => True) A n c l) (hs : ∀ t ∈ l, t.text.length ≤ 9223372036854775807) :
    Calls Try.prog 3 #[.slice A n c] w fun e w' => e = .returned (.bool true) ∧ Below w.heap.size w w' := by
  have hlen := hl.len
  subst hlen
  have HL := Lib.hid hl; have HS := Lib.hid hs; clear hl hs
  go_enter Try.func3, Try.ntmps3
  go_wp2_with fail
  refine (awake_any _).mono ?_
  rintro e w1 ⟨rfl, hb1⟩
  go_wp2_with fail
  refine (few5_any _ _ _ _ _ l (HL.out.below hb1)).mono ?_
  cases hfew : (l.all (fun t => decide (t.text.length ≤ 50)) && decide (l.length ≤ 300))
  · rintro e w2 ⟨rfl, hb2⟩
    clear hfew
    go_wp2
    go_ret
    exact ⟨rfl, by ((repeat (first | (with_reducible exact Below.refl _ _) | (with_reducible refine belowA ?_ _) | (with_reducible refine belowD ?_) | (with_reducible refine belowS ?_ (Nat.le_refl _) _ _) | (with_reducible refine next ?_ (by assumption) (Nat.le_refl _)))); done)⟩
  · rintro e w2 ⟨rfl, hb2⟩
    clear hfew
    go_wp2_with fail
    refine (parse_any _ _ _ _ _ l (HL.out.below (by ((repeat (first | (with_reducible exact Below.refl _ _) | (with_reducible refine belowA ?_ _) | (with_reducible refine belowD ?_) | (with_reducible refine belowS ?_ (Nat.le_refl _) _ _) | (with_reducible refine next ?_ (by assumption) (Nat.le_refl _)))); done))) HS.out).mono ?_
    rintro e w3 ⟨A3, n3, c3, rfl, hs3, hb3⟩
    have HS3 := Lib.hid hs3; clear hs3
    go_wp2_with fail
    refine (parse8_any _ _ _ _ _ l (HL.out.below (by ((repeat (first | (with_reducible exact Below.refl _ _) | (with_reducible refine belowA ?_ _) | (with_reducible refine belowD ?_) | (with_reducible refine belowS ?_ (Nat.le_refl _) _ _) | (with_reducible refine next ?_ (by assumption) (Nat.le_refl _)))); done))) HS.out).mono ?_
    rintro e w4 ⟨A4, n4, c4, rfl, hs4, hb4⟩
    have HS4 := Lib.hid hs4; clear hs4
    go_wp2_with fail
    refine (same8_any _ _ _ _ _ _ _ _ _ (parseE l).1 (parseE l).1 (HS3.out.below (by ((repeat (first | (with_reducible exact Below.refl _ _) | (with_reducible refine belowA ?_ _) | (with_reducible refine belowD ?_) | (with_reducible refine belowS ?_ (Nat.le_refl _) _ _) | (with_reducible refine next ?_ (by assumption) (Nat.le_refl _)))); done))) (HS4.out.below (by ((repeat (first | (with_reducible exact Below.refl _ _) | (with_reducible refine belowA ?_ _) | (with_reducible refine belowD ?_) | (with_reducible refine belowS ?_ (Nat.le_refl _) _ _) | (with_reducible refine next ?_ (by assumption) (Nat.le_refl _)))); done)))).mono ?_
    rw [sameL_refl9]
    rintro e w7 ⟨rfl, hb7⟩
    go_wp2
    go_ret
    exact ⟨rfl, by ((repeat (first | (with_reducible exact Below.refl _ _) | (with_reducible refine belowA ?_ _) | (with_reducible refine belowD ?_) | (with_reducible refine belowS ?_ (Nat.le_refl _) _ _) | (with_reducible refine next ?_ (by assumption) (Nat.le_refl _)))); done)⟩
end Go.Proofs.Ytchdpjgncojhaaa
