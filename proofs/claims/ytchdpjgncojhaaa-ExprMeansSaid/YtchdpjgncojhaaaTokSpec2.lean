/- Tokens: lengths; what token.Print answers. Plain lemmas. -/
import Derived.Test.YtchdpjgncojhaaaTokSpec
set_option linter.unusedVariables false
set_option linter.unusedSimpArgs false
namespace Go.Proofs.Ytchdpjgncojhaaa

theorem tnum_big (s : Bs) (n : Nat) (hn : n ≤ 4294967295) (h : (tnum s n).2 = 0) : n * 10 ^ s.length ≤ 4294967295 := by
  induction s generalizing n with
  | nil => simpa using hn
  | cons c r ih =>
    rw [tnum] at h
    split at h
    · simp at h
    · rename_i hb
      have h1 := ih _ (by omega) h
      refine Nat.le_trans ?_ h1
      rw [List.length_cons, Nat.pow_succ, Nat.mul_comm (10 ^ r.length) 10, ← Nat.mul_assoc]
      exact Nat.mul_le_mul_right _ (by omega)
theorem number_len (s : Bs) (h : (number s).2 = 0) : s.length ≤ 10 := by
  unfold number at h
  split at h
  · simp at h
  · rename_i hb
    rw [Bool.not_eq_true, Bool.or_eq_false_iff] at hb
    obtain ⟨hb1, hb2⟩ := hb
    cases s with
    | nil => simp
    | cons c r =>
      rcases Nat.lt_or_ge r.length 10 with hr | hr
      · simp; omega
      · exfalso
        simp only [bad0, List.isEmpty_cons, Bool.false_or, List.headD_cons, List.length_cons, Bool.and_eq_false_iff, decide_eq_false_iff_not] at hb1
        have hc : c ≠ 48 := by
          rcases hb1 with h1 | h1
          · omega
          · simpa using h1
        simp only [List.all_cons, Bool.not_eq_false', Bool.and_eq_true] at hb2
        have hd := hb2.1
        simp only [digB, digt, Bool.and_eq_true, decide_eq_true_eq] at hd
        have hc' : c.toNat ≠ 48 := fun e => hc (UInt8.toNat_inj.1 e)
        rw [tnum] at h
        split at h
        · simp at h
        · rename_i hb
          have h1 := tnum_big r _ (by omega) h
          have h2 : 1 * 10 ^ 10 ≤ (10 * 0 + (c.toNat - 48)) * 10 ^ r.length := Nat.mul_le_mul (by omega) (Nat.pow_le_pow_right (by omega) hr)
          omega
theorem symT_len (s : Bs) : (symT s).length ≤ 2 := by
  unfold symT
  split
  · simp only [List.length_take]; omega
  · split
    · simp only [List.length_take]; omega
    · simp
theorem nextT_len (s : Bs) (he : (nextOf symT s).2 = 0) : (nextOf symT s).1.text.length ≤ 32 := by
  unfold nextOf at he ⊢
  split at he
  · rename_i h
    simp only [h, if_true] at he ⊢
    split at he
    · simp at he
    · rename_i h'
      simp only [h', if_false, List.length_take]; omega
  · rename_i h
    split at he
    · rename_i h2
      simp only [h, h2, if_true, if_false, Bool.false_eq_true] at he ⊢
      split at he
      · rename_i h3; exact absurd he h3
      · rename_i h3
        split at he
        · simp at he
        · rename_i h4
          simp only [h3, h4, if_false, Bool.false_eq_true]
          have := number_len _ (Decidable.not_not.1 h3)
          omega
    · rename_i h2
      split at he
      · simp at he
      · rename_i h3
        simp only [h, h2, h3, if_false, Bool.false_eq_true]
        have := symT_len s
        omega
theorem validT_len {t : Tok} (h : validT t = true) : t.text.length ≤ 32 := by
  unfold validT at h
  simp only [Bool.and_eq_true, beq_iff_eq] at h
  have := nextT_len t.text h.2.1
  rw [h.2.2] at this
  exact this

/-- The loop of token.Print. -/
def printE : List Tok → Int
  | [] => 0
  | t :: r => if validT t then printE r else 1
def printT (l : List Tok) : Int := if 256 < l.length then 10 else printE l
end Go.Proofs.Ytchdpjgncojhaaa
