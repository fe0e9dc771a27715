/- ExprMeans: the walk. -/
import Derived.Test.YtchdpjgncojhaaaMean3
import Derived.Test.YtchdpjgncojhaaaL2
import Derived.Test.YtchdpjgncojhaaaR3
set_option linter.unusedVariables false
set_option linter.unusedSimpArgs false
namespace Go.Proofs.Ytchdpjgncojhaaa
open Go.RowKit

theorem check_all {f : List Opn} (h : checkS f = 0) : (∀ o ∈ f, 0 ≤ needsS o) ∧ f.length ≤ 256 := by
  unfold checkS at h
  split at h
  · cases h
  · exact ⟨runC_all ((checkGo_run f 0).1 h), by omega⟩
theorem sameL_reflM {α : Type} [DecidableEq α] (l : List α) : sameL l l = true := by rw [sameL_eq]; simp

set_option maxRecDepth 100000 in
set_option maxHeartbeats 4000000 in
theorem exprMeans_walk (w : World) (A : Option Addr) (n c : Nat) (f : List Opn) (hl : Sl w (fun _ => True) A n c f) (hf : OkF f) :
    Calls Try.prog 9 #[.slice A n c] w fun e w' => e = .returned (.bool true) ∧ Below w.heap.size w w' := by
  have hlen := hl.len
  subst hlen
  have hM := means f hf
  have hE := fold_err f
  have HL := Lib.hid hl; have HF := Lib.hid hf; have HM := Lib.hid hM; have HE := Lib.hid hE; clear hl hf hM hE
  go_enter Try.func9, Try.ntmps9
  go_wp2_with fail
  refine (awake_any _).mono ?_
  rintro e w1 ⟨rfl, hb1⟩
  go_wp2_with fail
  refine (few8_any _ _ _ _ _ f (HL.out.below hb1)).mono ?_
  cases hfew : (f.all (fun t => decide (t.text.length ≤ 50)) && decide (f.length ≤ 300))
  · rintro e w2 ⟨rfl, hb2⟩
    clear hfew
    go_wp2
    go_ret
    exact ⟨rfl, by ((repeat (first | (with_reducible exact Below.refl _ _) | (with_reducible refine belowA ?_ _) | (with_reducible refine belowD ?_) | (with_reducible refine belowS ?_ (Nat.le_refl _) _ _) | (with_reducible refine next ?_ (by assumption) (Nat.le_refl _)))); done)⟩
  · rintro e w2 ⟨rfl, hb2⟩
    clear hfew
    go_wp2_with fail
    refine (fold_any _ _ _ _ _ f (HL.out.below (by ((repeat (first | (with_reducible exact Below.refl _ _) | (with_reducible refine belowA ?_ _) | (with_reducible refine belowD ?_) | (with_reducible refine belowS ?_ (Nat.le_refl _) _ _) | (with_reducible refine next ?_ (by assumption) (Nat.le_refl _)))); done))) HF.out).mono ?_
    rintro e w3 ⟨A3, n3, c3, rfl, hs3, hb3⟩
    have hn3 := hs3.len
    by_cases he : (foldS f).2 = 0
    · obtain ⟨m1, m2, m3, m4, m5, x, ev, r1, r2⟩ := HM.out he
      obtain ⟨v1, l1⟩ := check_all m5
      obtain ⟨v2, l2⟩ := check_all m1
      have q0 : ((foldS f).2 != 0) = false := by rw [he]; rfl
      have hle : (n3 : Int) ≤ (f.length : Int) := by omega
      generalize hG : (foldS f).1 = G at *
      have hfo := fun w' S (h : Sl w' S A3 n3 c3 G) => fold_any A3 n3 c3 w' S G h m3
      rw [m2] at hfo
      have hck := fun w' S (h : Sl w' S A3 n3 c3 G) => check_any A3 n3 c3 w' S G h m3
      rw [m1] at hck
      have hvf := fun w' S (h : Sl w' S A f.length c f) => valueL_any A f.length c w' S f h HF.out v1 l1 r1
      have hvg := fun w' S (h : Sl w' S A3 n3 c3 G) => valueL_any A3 n3 c3 w' S G h m3 v2 l2 r2
      have HFO := Lib.hid hfo; have HCK := Lib.hid hck; have HVF := Lib.hid hvf; have HVG := Lib.hid hvg; have HS3 := Lib.hid hs3; have HE0 := Lib.hid he
      clear hfo hck hvf hvg hs3 he m1 m2 m3 m4 m5 r1 r2 v1 l1 v2 l2 hn3 hG HM HE
      go_wp2_with fail
      refine (HFO.out _ _ (HS3.out.below (by ((repeat (first | (with_reducible exact Below.refl _ _) | (with_reducible refine belowA ?_ _) | (with_reducible refine belowD ?_) | (with_reducible refine belowS ?_ (Nat.le_refl _) _ _) | (with_reducible refine next ?_ (by assumption) (Nat.le_refl _)))); done)))).mono ?_
      rintro e w4 ⟨A4, n4, c4, rfl, hs4, hb4⟩
      have HS4 := Lib.hid hs4; clear hs4
      go_wp2_with fail
      refine (HVF.out _ _ (HL.out.below (by ((repeat (first | (with_reducible exact Below.refl _ _) | (with_reducible refine belowA ?_ _) | (with_reducible refine belowD ?_) | (with_reducible refine belowS ?_ (Nat.le_refl _) _ _) | (with_reducible refine next ?_ (by assumption) (Nat.le_refl _)))); done)))).mono ?_
      rintro e w5 ⟨A5, c5, rfl, hs5, hb5⟩
      have HS5 := Lib.hid hs5; clear hs5
      go_wp2_with fail
      refine (HVG.out _ _ (HS3.out.below (by ((repeat (first | (with_reducible exact Below.refl _ _) | (with_reducible refine belowA ?_ _) | (with_reducible refine belowD ?_) | (with_reducible refine belowS ?_ (Nat.le_refl _) _ _) | (with_reducible refine next ?_ (by assumption) (Nat.le_refl _)))); done)))).mono ?_
      rintro e w6 ⟨A6, c6, rfl, hs6, hb6⟩
      have HS6 := Lib.hid hs6; clear hs6
      go_wp2_with fail
      refine (HCK.out _ _ (HS3.out.below (by ((repeat (first | (with_reducible exact Below.refl _ _) | (with_reducible refine belowA ?_ _) | (with_reducible refine belowD ?_) | (with_reducible refine belowS ?_ (Nat.le_refl _) _ _) | (with_reducible refine next ?_ (by assumption) (Nat.le_refl _)))); done)))).mono ?_
      rintro e w7 ⟨rfl, hb7⟩
      go_wp2_with fail
      refine (same8_any _ _ _ _ _ _ _ _ _ G G (HS4.out.below (by ((repeat (first | (with_reducible exact Below.refl _ _) | (with_reducible refine belowA ?_ _) | (with_reducible refine belowD ?_) | (with_reducible refine belowS ?_ (Nat.le_refl _) _ _) | (with_reducible refine next ?_ (by assumption) (Nat.le_refl _)))); done))) (HS3.out.below (by ((repeat (first | (with_reducible exact Below.refl _ _) | (with_reducible refine belowA ?_ _) | (with_reducible refine belowD ?_) | (with_reducible refine belowS ?_ (Nat.le_refl _) _ _) | (with_reducible refine next ?_ (by assumption) (Nat.le_refl _)))); done)))).mono ?_
      rw [sameL_reflM]
      rintro e w8 ⟨rfl, hb8⟩
      go_wp2_with fail
      refine (equalO_any _ _ _ _ _ _ _ _ _ ev ev (HS5.out.below (by ((repeat (first | (with_reducible exact Below.refl _ _) | (with_reducible refine belowA ?_ _) | (with_reducible refine belowD ?_) | (with_reducible refine belowS ?_ (Nat.le_refl _) _ _) | (with_reducible refine next ?_ (by assumption) (Nat.le_refl _)))); done))) (HS6.out.below (by ((repeat (first | (with_reducible exact Below.refl _ _) | (with_reducible refine belowA ?_ _) | (with_reducible refine belowD ?_) | (with_reducible refine belowS ?_ (Nat.le_refl _) _ _) | (with_reducible refine next ?_ (by assumption) (Nat.le_refl _)))); done)))).mono ?_
      rw [sameL_reflM]
      rintro e w9 ⟨rfl, hb9⟩
      go_wp2
      go_ret
      exact ⟨rfl, by ((repeat (first | (with_reducible exact Below.refl _ _) | (with_reducible refine belowA ?_ _) | (with_reducible refine belowD ?_) | (with_reducible refine belowS ?_ (Nat.le_refl _) _ _) | (with_reducible refine next ?_ (by assumption) (Nat.le_refl _)))); done)⟩
    · have q0 : ((foldS f).2 != 0) = true := by rw [bne_iff_ne]; exact he
      rw [HE.out he] at hn3
      have hn3' : n3 = 0 := hn3
      subst hn3'
      clear hs3 hn3 HM HE he
      go_wp2
      go_ret
      exact ⟨rfl, by ((repeat (first | (with_reducible exact Below.refl _ _) | (with_reducible refine belowA ?_ _) | (with_reducible refine belowD ?_) | (with_reducible refine belowS ?_ (Nat.le_refl _) _ _) | (with_reducible refine next ?_ (by assumption) (Nat.le_refl _)))); done)⟩
end Go.Proofs.Ytchdpjgncojhaaa
