/- ExprArithmetic: the plain laws of words. -/
import Derived.Test.YtchdpjgncojhaaaR1
import Derived.Laws.BitsAllLaws
set_option linter.unusedVariables false
set_option linter.unusedSimpArgs false
namespace Go.Proofs.Ytchdpjgncojhaaa
open Go.RowKit

theorem or_and_sum (x y : Nat) : (x ||| y) + (x &&& y) = x + y := by
  induction x using Nat.strongRecOn generalizing y with
  | _ x ih =>
    rcases Nat.eq_zero_or_pos x with rfl | hx
    · simp
    · have h := ih (x / 2) (by omega) (y / 2)
      have h1 := Nat.or_div_two (a := x) (b := y)
      have h2 := Nat.and_div_two (a := x) (b := y)
      have h3 : (x ||| y) % 2 + (x &&& y) % 2 = x % 2 + y % 2 := by
        have e1 : (x ||| y) % 2 = (x % 2 ||| y % 2) := by
          have := Nat.or_mod_two_pow (a := x) (b := y) (n := 1)
          simpa using this
        have e2 : (x &&& y) % 2 = (x % 2 &&& y % 2) := by
          have := Nat.and_mod_two_pow (a := x) (b := y) (n := 1)
          simpa using this
        rw [e1, e2]
        rcases Nat.mod_two_eq_zero_or_one x with hx2 | hx2 <;> rcases Nat.mod_two_eq_zero_or_one y with hy2 | hy2 <;> rw [hx2, hy2] <;> rfl
      omega
theorem xor_and_or (x y : Nat) : (x ^^^ y) + (x &&& y) = (x ||| y) := by
  induction x using Nat.strongRecOn generalizing y with
  | _ x ih =>
    rcases Nat.eq_zero_or_pos x with rfl | hx
    · simp
    · have h := ih (x / 2) (by omega) (y / 2)
      have h1 := Nat.or_div_two (a := x) (b := y)
      have h2 := Nat.and_div_two (a := x) (b := y)
      have h0 := Nat.xor_div_two (a := x) (b := y)
      have h3 : (x ^^^ y) % 2 + (x &&& y) % 2 = (x ||| y) % 2 := by
        have e1 : (x ||| y) % 2 = (x % 2 ||| y % 2) := by
          have := Nat.or_mod_two_pow (a := x) (b := y) (n := 1)
          simpa using this
        have e2 : (x &&& y) % 2 = (x % 2 &&& y % 2) := by
          have := Nat.and_mod_two_pow (a := x) (b := y) (n := 1)
          simpa using this
        have e3 : (x ^^^ y) % 2 = (x % 2 ^^^ y % 2) := by
          have := Nat.xor_mod_two_pow (a := x) (b := y) (n := 1)
          simpa using this
        rw [e1, e2, e3]
        rcases Nat.mod_two_eq_zero_or_one x with hx2 | hx2 <;> rcases Nat.mod_two_eq_zero_or_one y with hy2 | hy2 <;> rw [hx2, hy2] <;> rfl
      omega

theorem b_div (x y : Int) : (binS [47] x y).1 = divS x y := by rw [div_eq]; simp [binS]
theorem b_rem (x y : Int) (hx : 0 ≤ x) (hx' : x ≤ 4294967295) (hy : 0 ≤ y) (hy' : y ≤ 4294967295) : (binS [37] x y).1 = (x - divS x y * y) % 4294967296 := by rw [rem_eq x y hx hx' hy hy']; simp [binS]
theorem e_div (x y : Int) (hx : 0 ≤ x) (hx' : x ≤ 4294967295) (hy : 0 ≤ y) (hy' : y ≤ 4294967295) : ((binS [47] x y).1 * y + (binS [37] x y).1) % 4294967296 = x := by
  rw [b_div, b_rem x y hx hx' hy hy', Int.add_emod, Int.emod_emod_of_dvd _ (Int.dvd_refl _), ← Int.add_emod, show divS x y * y + (x - divS x y * y) = x by omega]
  omega
theorem e_neg (x : Int) (hx : 0 ≤ x) (hx' : x ≤ 4294967295) : ((unS [126] x).1 + 1) % 4294967296 = (unS [45] x).1 := by
  have h1 : (unS [126] x).1 = 4294967295 - x := by rw [← xor_max x hx hx']; simp [unS]
  have h2 : (unS [45] x).1 = -x % 4294967296 := by simp [unS]
  rw [h1, h2]
  omega
theorem u_not (x : Int) : (unS [33] x).1 = yes (x == 0) := by simp [unS]
theorem e_not (x : Int) : (unS [33] (unS [33] x).1).1 = (binS [33, 61] x 0).1 := by
  rw [u_not, u_not]
  have : (binS [33, 61] x 0).1 = yes (x != 0) := by simp [binS]
  rw [this]
  by_cases h : x = 0
  · subst h; rfl
  · have h1 : (x == 0) = false := by simpa using h
    have h2 : (x != 0) = true := by simpa using h
    rw [h1, h2]; rfl
theorem e_dbl (x : Int) : (binS [60, 60] x 1).1 = (binS [43] x x).1 := by
  have h1 : (binS [60, 60] x 1).1 = x * 2 ^ ((1 : Int) % 32).toNat % 4294967296 := by simp [binS]
  have h2 : (binS [43] x x).1 = (x + x) % 4294967296 := by simp [binS]
  rw [h1, h2, show ((1 : Int) % 32).toNat = 1 from rfl, show x * 2 ^ 1 = x + x by omega]
theorem e_shl (x y : Int) : (binS [60, 60] x ((y + 32) % 4294967296)).1 = (binS [60, 60] x y).1 := by
  have h1 : ∀ z, (binS [60, 60] x z).1 = x * 2 ^ (z % 32).toNat % 4294967296 := fun z => by simp [binS]
  rw [h1, h1, show (y + 32) % 4294967296 % 32 = y % 32 by omega]
theorem b_lss (x y : Int) : (binS [60] x y).1 = yes (decide (wrap32 x < wrap32 y)) := by simp [binS]
theorem b_gtr (x y : Int) : (binS [62] x y).1 = yes (decide (wrap32 y < wrap32 x)) := by simp [binS]
theorem b_leq (x y : Int) : (binS [60, 61] x y).1 = yes (decide (wrap32 x ≤ wrap32 y)) := by simp [binS]
theorem b_geq (x y : Int) : (binS [62, 61] x y).1 = yes (decide (wrap32 y ≤ wrap32 x)) := by simp [binS]
theorem b_eql (x y : Int) : (binS [61, 61] x y).1 = yes (x == y) := by simp [binS]
theorem b_neq (x y : Int) : (binS [33, 61] x y).1 = yes (x != y) := by simp [binS]
theorem e_cmp (x y : Int) (hx : 0 ≤ x) (hx' : x ≤ 4294967295) (hy : 0 ≤ y) (hy' : y ≤ 4294967295) : (binS [60] x y).1 + (binS [61, 61] x y).1 + (binS [62] x y).1 = 1 := by
  rw [b_lss, b_eql, b_gtr]
  have e1 : wrap32 x = x ∨ wrap32 x = x - 4294967296 := by unfold wrap32; omega
  have hi : wrap32 x = wrap32 y ↔ x = y := by unfold wrap32; omega
  by_cases h1 : wrap32 x < wrap32 y
  · have h2 : ¬ wrap32 y < wrap32 x := by omega
    have h3 : (x == y) = false := by rw [beq_eq_false_iff_ne]; intro h; have := hi.2 h; omega
    rw [decide_eq_true h1, decide_eq_false h2, h3]; rfl
  · by_cases h2 : wrap32 y < wrap32 x
    · have h3 : (x == y) = false := by rw [beq_eq_false_iff_ne]; intro h; have := hi.2 h; omega
      rw [decide_eq_false h1, decide_eq_true h2, h3]; rfl
    · have h3 : (x == y) = true := by rw [beq_iff_eq]; exact hi.1 (by omega)
      rw [decide_eq_false h1, decide_eq_false h2, h3]; rfl
theorem e_leq (x y : Int) : (unS [33] (binS [62] x y).1).1 = (binS [60, 61] x y).1 := by
  rw [u_not, b_gtr, b_leq]
  by_cases h : wrap32 y < wrap32 x
  · rw [decide_eq_true h, decide_eq_false (by omega)]; rfl
  · rw [decide_eq_false h, decide_eq_true (by omega)]; rfl
theorem e_geq (x y : Int) : (binS [60, 61] y x).1 = (binS [62, 61] x y).1 := by rw [b_leq, b_geq]
theorem e_neq (x y : Int) : (unS [33] (binS [61, 61] x y).1).1 = (binS [33, 61] x y).1 := by
  rw [u_not, b_eql, b_neq]
  by_cases h : x = y
  · subst h; simp [yes]
  · have h1 : (x == y) = false := by simpa using h
    have h2 : (x != y) = true := by simpa using h
    rw [h1, h2]; rfl
theorem e_and (x y : Int) : (unS [33] (binS [124, 124] (unS [33] x).1 (unS [33] y).1).1).1 = (binS [38, 38] x y).1 := by
  have h1 : ∀ a b, (binS [124, 124] a b).1 = yes (a != 0 || b != 0) := fun a b => by simp [binS]
  have h2 : (binS [38, 38] x y).1 = yes (x != 0 && y != 0) := by simp [binS]
  rw [h1, h2, u_not, u_not, u_not]
  by_cases hx : x = 0
  · subst hx
    by_cases hy : y = 0
    · subst hy; rfl
    · have h3 : (y == 0) = false := by simpa using hy
      have h4 : (y != 0) = true := by simpa using hy
      rw [h3, h4]; rfl
  · have h3 : (x == 0) = false := by simpa using hx
    have h4 : (x != 0) = true := by simpa using hx
    by_cases hy : y = 0
    · subst hy; rw [h3, h4]; rfl
    · have h5 : (y == 0) = false := by simpa using hy
      have h6 : (y != 0) = true := by simpa using hy
      rw [h3, h4, h5, h6]; rfl
theorem b_bits (x y : Int) (hx : 0 ≤ x) (hx' : x ≤ 4294967295) (hy : 0 ≤ y) (hy' : y ≤ 4294967295) : ∃ a b c : Nat, (binS [94] x y).1 = a ∧ (binS [124] x y).1 = b ∧ (binS [38] x y).1 = c ∧ a + c = b ∧ (b : Int) + c = x + y := by
  refine ⟨x.toNat ^^^ y.toNat, x.toNat ||| y.toNat, x.toNat &&& y.toNat, ?_, ?_, ?_, xor_and_or _ _, ?_⟩
  · rw [← u32_xor x y hx (by omega) hy (by omega)]; simp [binS]
  · rw [← u32_or x y hx (by omega) hy (by omega)]; simp [binS]
  · rw [← u32_and x y hx (by omega) hy (by omega)]; simp [binS]
  · have := or_and_sum x.toNat y.toNat
    omega
theorem e_xor (x y : Int) (hx : 0 ≤ x) (hx' : x ≤ 4294967295) (hy : 0 ≤ y) (hy' : y ≤ 4294967295) : (binS [124] x y).1 - (binS [38] x y).1 = (binS [94] x y).1 := by
  obtain ⟨a, b, c, h1, h2, h3, h4, h5⟩ := b_bits x y hx hx' hy hy'
  rw [h1, h2, h3]; omega
theorem e_sum (x y : Int) (hx : 0 ≤ x) (hx' : x ≤ 4294967295) (hy : 0 ≤ y) (hy' : y ≤ 4294967295) : (binS [43] (binS [124] x y).1 (binS [38] x y).1).1 = (binS [43] x y).1 := by
  obtain ⟨a, b, c, h1, h2, h3, h4, h5⟩ := b_bits x y hx hx' hy hy'
  have h : ∀ a b, (binS [43] a b).1 = (a + b) % 4294967296 := fun a b => by simp [binS]
  rw [h, h, h2, h3, h5]
theorem e_sar (x : Int) (hx : 0 ≤ x) (hx' : x ≤ 4294967295) : (binS [45] 0 (binS [60] x 0).1).1 = (binS [62, 62] x 31).1 := by
  have h1 : ∀ a b, (binS [45] a b).1 = (a - b) % 4294967296 := fun a b => by simp [binS]
  have h2 : (binS [62, 62] x 31).1 = wrap32 x / 2 ^ ((31 : Int) % 32).toNat % 4294967296 := by simp [binS]
  rw [h1, h2, b_lss, show ((31 : Int) % 32).toNat = 31 from rfl, show wrap32 0 = 0 by unfold wrap32; omega, show (2 : Int) ^ 31 = 2147483648 by decide]
  clear h1 h2
  have e1 : wrap32 x = x ∧ x ≤ 2147483647 ∨ wrap32 x = x - 4294967296 ∧ 2147483648 ≤ x := by unfold wrap32; omega
  rcases e1 with ⟨e1, h⟩ | ⟨e1, h⟩
  · rw [e1, decide_eq_false (by omega)]; show (0 - (0 : Int)) % 4294967296 = _; omega
  · rw [e1, decide_eq_true (by omega)]; show (0 - (1 : Int)) % 4294967296 = _; omega
theorem e_sub (x y : Int) (hx : 0 ≤ x) (hx' : x ≤ 4294967295) : (binS [45] (binS [43] x y).1 y).1 = x := by
  have h1 : ∀ a b, (binS [45] a b).1 = (a - b) % 4294967296 := fun a b => by simp [binS]
  have h : ∀ a b, (binS [43] a b).1 = (a + b) % 4294967296 := fun a b => by simp [binS]
  rw [h, h1]
  omega
theorem e_mul (x y : Int) : (binS [42] y x).1 = (binS [42] x y).1 := by
  have h : ∀ a b, (binS [42] a b).1 = a * b % 4294967296 := fun a b => by simp [binS]
  rw [h, h, Int.mul_comm]
end Go.Proofs.Ytchdpjgncojhaaa
