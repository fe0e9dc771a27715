/- ExprReturns: the walk. -/
import Derived.Test.YtchdpjgncojhaaaRet2
import Derived.Test.YtchdpjgncojhaaaG9
import Derived.Test.YtchdpjgncojhaaaL2
import Derived.Test.YtchdpjgncojhaaaR3
set_option linter.unusedVariables false
set_option linter.unusedSimpArgs false
namespace Go.Proofs.Ytchdpjgncojhaaa
open Go.RowKit

theorem sameL_refl {α : Type} [DecidableEq α] (l : List α) : sameL l l = true := by rw [sameL_eq]; simp

set_option maxRecDepth 100000 in
set_option maxHeartbeats 4000000 in
theorem exprReturns_walk (w : World) (A : Option Addr) (n c : Nat) (f : List Opn) (hl : Sl w (fun _ => True) A n c f) (hf : OkF f) :
    Calls Try.prog 7 #[.slice A n c] w fun e w' => e = .returned (.bool true) ∧ Below w.heap.size w w' := by
  have hlen := hl.len
  subst hlen
  have hpp := parse_print f (fun o ho => (hf o ho).2)
  have hpv := print_valid f (fun o ho => (hf o ho).2)
  have hpe := print_err f
  have HL := Lib.hid hl; have HF := Lib.hid hf; have HPP := Lib.hid hpp; have HPV := Lib.hid hpv; have HPE := Lib.hid hpe; clear hl hf hpp hpv hpe
  go_enter Try.func7, Try.ntmps7
  go_wp2_with fail
  refine (awake_any _).mono ?_
  rintro e w1 ⟨rfl, hb1⟩
  go_wp2_with fail
  refine (few8_any _ _ _ _ _ f (HL.out.below hb1)).mono ?_
  cases hfew : (f.all (fun t => decide (t.text.length ≤ 50)) && decide (f.length ≤ 300))
  · rintro e w2 ⟨rfl, hb2⟩
    clear hfew
    go_wp2
    go_ret
    exact ⟨rfl, by ((repeat (first | (with_reducible exact Below.refl _ _) | (with_reducible refine belowA ?_ _) | (with_reducible refine belowD ?_) | (with_reducible refine belowS ?_ (Nat.le_refl _) _ _) | (with_reducible refine next ?_ (by assumption) (Nat.le_refl _)))); done)⟩
  · rintro e w2 ⟨rfl, hb2⟩
    clear hfew
    go_wp2_with fail
    refine (exprPrint_any _ _ _ _ _ f (HL.out.below (by ((repeat (first | (with_reducible exact Below.refl _ _) | (with_reducible refine belowA ?_ _) | (with_reducible refine belowD ?_) | (with_reducible refine belowS ?_ (Nat.le_refl _) _ _) | (with_reducible refine next ?_ (by assumption) (Nat.le_refl _)))); done))) HF.out).mono ?_
    rintro e w3 ⟨A3, n3, c3, rfl, hs3, hb3⟩
    have hn3 := hs3.len
    by_cases he : (exprPrintS f).2 = 0
    · have hvv := HPV.out he
      have hps := parse_any A3 n3 c3 w3 _ (exprPrintS f).1 hs3 (fun t ht => by have := validT_len (hvv t ht); omega)
      have hpp := HPP.out he
      have q0 : ((exprPrintS f).2 != 0) = false := by rw [he]; rfl
      have HPS := Lib.hid hps
      have HPQ := Lib.hid hpp
      clear hps hpp hvv hs3 hn3 HPP HPV HPE he
      go_wp2_with fail
      refine HPS.out.mono ?_
      rintro e w4 ⟨A4, n4, c4, rfl, hs4, hb4⟩
      rcases HPQ.out with hq | hq
      · rw [hq] at hs4 ⊢
        have HS4 := Lib.hid hs4; clear hs4
        go_wp2_with fail
        refine (same8_any _ _ _ _ _ _ _ _ _ f f (HL.out.below (by ((repeat (first | (with_reducible exact Below.refl _ _) | (with_reducible refine belowA ?_ _) | (with_reducible refine belowD ?_) | (with_reducible refine belowS ?_ (Nat.le_refl _) _ _) | (with_reducible refine next ?_ (by assumption) (Nat.le_refl _)))); done))) (HS4.out.below (by ((repeat (first | (with_reducible exact Below.refl _ _) | (with_reducible refine belowA ?_ _) | (with_reducible refine belowD ?_) | (with_reducible refine belowS ?_ (Nat.le_refl _) _ _) | (with_reducible refine next ?_ (by assumption) (Nat.le_refl _)))); done)))).mono ?_
        rw [sameL_refl]
        rintro e w7 ⟨rfl, hb7⟩
        go_wp2
        go_ret
        exact ⟨rfl, by ((repeat (first | (with_reducible exact Below.refl _ _) | (with_reducible refine belowA ?_ _) | (with_reducible refine belowD ?_) | (with_reducible refine belowS ?_ (Nat.le_refl _) _ _) | (with_reducible refine next ?_ (by assumption) (Nat.le_refl _)))); done)⟩
      · rw [hq] at hs4 ⊢
        have hn4 : n4 = 0 := hs4.len
        subst hn4
        clear hs4
        go_wp2
        go_ret
        exact ⟨rfl, by ((repeat (first | (with_reducible exact Below.refl _ _) | (with_reducible refine belowA ?_ _) | (with_reducible refine belowD ?_) | (with_reducible refine belowS ?_ (Nat.le_refl _) _ _) | (with_reducible refine next ?_ (by assumption) (Nat.le_refl _)))); done)⟩
    · have q0 : ((exprPrintS f).2 != 0) = true := by rw [bne_iff_ne]; exact he
      rw [HPE.out he] at hn3
      have hn3' : n3 = 0 := hn3
      subst hn3'
      clear hs3 hn3 HPP HPV HPE he
      go_wp2
      go_ret
      exact ⟨rfl, by ((repeat (first | (with_reducible exact Below.refl _ _) | (with_reducible refine belowA ?_ _) | (with_reducible refine belowD ?_) | (with_reducible refine belowS ?_ (Nat.le_refl _) _ _) | (with_reducible refine next ?_ (by assumption) (Nat.le_refl _)))); done)⟩
end Go.Proofs.Ytchdpjgncojhaaa
