/- Tokens: valid tokens by token.valid and by licitref05.Valid are the same. Plain. -/
import Derived.Test.YtchdpjgncojhaaaTokSpec2
set_option linter.unusedVariables false
set_option linter.unusedSimpArgs false
namespace Go.Proofs.Ytchdpjgncojhaaa

theorem letr_digt {c : Int} (h : digt c = true) : letr c = false := by
  unfold digt letr at *
  simp at *
  omega
theorem all_take {p : UInt8 → Bool} {s : Bs} : s.take (s.takeWhile p).length = s ↔ s.all p = true := by
  induction s with
  | nil => simp
  | cons a r ih =>
    by_cases ha : p a = true
    · simp [ha, ih]
    · simp [ha]
theorem valid_1 (s : Bs) : validT ⟨1, s⟩ = form s := by
  unfold validT form nextOf
  cases hs : s with
  | nil => rfl
  | cons a r =>
    rw [← hs]
    have hne : s.isEmpty = false := by rw [hs]; rfl
    have hl : 1 ≤ s.length := by rw [hs]; simp
    rw [Bool.eq_iff_iff]
    by_cases h1 : letr (s.headD 0).toNat = true
    · simp only [h1, if_true, hne, Bool.not_false, Bool.true_and]
      by_cases h32 : 32 < (s.takeWhile nameB).length
      · simp only [h32, if_true]
        simp only [Bool.and_eq_true, beq_iff_eq, decide_eq_true_eq]
        constructor
        · rintro ⟨h, _⟩; cases h
        · rintro ⟨⟨⟨_, h⟩, _⟩, _⟩
          have := tw_le (p := nameB) (s := s)
          omega
      · simp only [h32, if_false]
        simp only [Bool.and_eq_true, beq_iff_eq, decide_eq_true_eq, Tok.mk.injEq, true_and]
        rw [all_take]
        constructor
        · intro h
          have h2 := all_take.2 h
          have h3 : (s.takeWhile nameB).length = s.length := by
            have := congrArg List.length h2
            rw [List.length_take] at this
            have := tw_le (p := nameB) (s := s)
            omega
          exact ⟨⟨⟨hl, by omega⟩, trivial⟩, h⟩
        · rintro ⟨_, h⟩; exact h
    · rw [Bool.not_eq_true] at h1
      simp only [h1, if_false, hne, Bool.not_false, Bool.true_and, Bool.and_false, Bool.false_and, Bool.false_eq_true, iff_false, Bool.not_eq_true]
      split
      · split
        · rename_i hx
          rw [Bool.and_eq_false_iff]
          refine .inl ?_
          simpa using hx
        · split
          · simp
          · simp
      · split
        · simp
        · simp
theorem number_digs {s : Bs} (h : (number s).2 = 0) : s ≠ [] ∧ s.all digB = true := by
  unfold number at h
  split at h
  · simp at h
  · rename_i hb
    rw [Bool.not_eq_true, Bool.or_eq_false_iff] at hb
    refine ⟨?_, by simpa using hb.2⟩
    rintro rfl
    simp [bad0] at hb
theorem valid_2 (s : Bs) : validT ⟨2, s⟩ = ((number s).2 == 0) := by
  cases hs : s with
  | nil => rfl
  | cons a r =>
    rw [← hs]
    have hne : s.isEmpty = false := by rw [hs]; rfl
    have hd0 : s.headD 0 = a := by rw [hs]; rfl
    rw [Bool.eq_iff_iff]
    constructor
    · intro h
      unfold validT nextOf at h
      simp only [hne, Bool.not_false, Bool.true_and] at h
      split at h
      · split at h <;> simp at h
      · split at h
        · split at h
          · rename_i hx; simp only [Bool.and_eq_true, beq_iff_eq] at h; exact absurd h.1 hx
          · split at h
            · simp at h
            · rename_i hx _
              simp only [Bool.and_eq_true, beq_iff_eq, Tok.mk.injEq, true_and] at h
              rw [h] at hx
              simpa using hx
        · split at h <;> simp at h
    · intro h
      have h0 : (number s).2 = 0 := by simpa using h
      obtain ⟨_, hall⟩ := number_digs h0
      have hda : digt (a.toNat : Int) = true := by
        have := List.all_eq_true.1 hall a (by rw [hs]; simp)
        exact this
      have hla := letr_digt hda
      have ht : s.take (s.takeWhile digB).length = s := all_take.2 hall
      have hl : (s.takeWhile digB).length = s.length := by
        have := congrArg List.length ht
        rw [List.length_take] at this
        have := tw_le (p := digB) (s := s)
        omega
      unfold validT nextOf
      simp only [hne, hd0, hla, hda, if_true, Bool.false_eq_true, if_false, Bool.not_false, Bool.true_and]
      rw [ht, hl]
      simp [h0]
theorem symT_syms (s : Bs) (h : symT s = s) (hne : s ≠ []) : syms.contains s = true := by
  unfold symT at h
  split at h
  · rename_i hc
    rw [h] at hc
    simp only [Bool.and_eq_true] at hc
    have : syms = syms2 ++ syms1.map (fun c => [c]) := rfl
    rw [this]
    have := List.contains_iff_mem.1 hc.2
    exact List.contains_iff_mem.2 (by simp [this])
  · split at h
    · rename_i hc
      match s, hne with
      | [a], _ =>
        simp only [Bool.and_eq_true, List.headD_cons] at hc
        have : syms = syms2 ++ syms1.map (fun c => [c]) := rfl
        rw [this]
        have := List.contains_iff_mem.1 hc.2
        exact List.contains_iff_mem.2 (by simp [this])
      | a :: b :: r, _ => simp at h
    · exact absurd h.symm hne
theorem valid_3 (s : Bs) : validT ⟨3, s⟩ = syms.contains s := by
  rw [Bool.eq_iff_iff]
  constructor
  · intro h
    have hne : s ≠ [] := by rintro rfl; simp [validT] at h
    unfold validT nextOf at h
    rw [Bool.and_eq_true] at h
    have h := h.2
    split at h
    · dsimp only at h; split at h <;> simp at h
    · split at h
      · dsimp only at h
        split at h
        · rename_i hx; simp only [Bool.and_eq_true, beq_iff_eq] at h; exact absurd h.1 hx
        · split at h <;> simp at h
      · split at h
        · simp at h
        · simp only [Bool.and_eq_true, beq_iff_eq, Tok.mk.injEq, true_and] at h
          exact symT_syms s h hne
  · intro h
    have hm := List.contains_iff_mem.1 h
    have : ∀ x ∈ syms, validT ⟨3, x⟩ = true := by decide
    exact this s hm
theorem valid_other (k : Int) (s : Bs) (h1 : k ≠ 1) (h2 : k ≠ 2) (h3 : k ≠ 3) : validT ⟨k, s⟩ = false := by
  unfold validT nextOf
  rw [Bool.and_eq_false_iff, Bool.and_eq_false_iff]
  refine .inr ?_
  dsimp only
  repeat' split
  all_goals (first
    | (refine .inl ?_; simp; done)
    | (refine .inl ?_; simp; assumption)
    | (refine .inl ?_; rw [beq_eq_false_iff_ne]; assumption)
    | (refine .inr ?_; rw [beq_eq_false_iff_ne]; intro e; have e := congrArg Tok.kind e; first | exact h1 e.symm | exact h2 e.symm | exact h3 e.symm))
theorem valid_eq (t : Tok) : validT t = valid5 t := by
  obtain ⟨k, s⟩ := t
  unfold valid5
  by_cases h1 : k = 1
  · subst h1; exact valid_1 s
  · by_cases h2 : k = 2
    · subst h2; exact valid_2 s
    · by_cases h3 : k = 3
      · subst h3; exact valid_3 s
      · simp only [h1, h2, h3, if_false]; exact valid_other k s h1 h2 h3
theorem name_eq (s : Bs) : nameT s = name5 s := by
  unfold nameT name5
  rw [valid_1, Bool.and_comm]
theorem printE_all (l : List Tok) : printE l = if l.all validT then 0 else 1 := by
  induction l with
  | nil => rfl
  | cons t r ih =>
    rw [printE, ih, List.all_cons]
    cases validT t <;> simp
end Go.Proofs.Ytchdpjgncojhaaa
