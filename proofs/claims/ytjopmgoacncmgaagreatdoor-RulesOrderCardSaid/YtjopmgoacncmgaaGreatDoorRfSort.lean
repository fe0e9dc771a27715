/- Rules: the sorting of strings by merging gives the list sorted by their bytes. Plain law. -/
import Derived.Test.YtjopmgoacncmgaaGreatDoorRfLev
set_option linter.unusedVariables false
set_option linter.unusedSimpArgs false
namespace Go.Proofs.YtjopmgoacncmgaaGreatDoor

theorem lt_ltB (a : Bs) : ∀ b : Bs, a < b ↔ ltB a b = true := by
  induction a with
  | nil => intro b; cases b <;> simp [ltB]
  | cons x r ih =>
    intro b
    cases b with
    | nil => simp [ltB]
    | cons y t =>
      rw [List.cons_lt_cons_iff, ih t]
      have e : ltB (x :: r) (y :: t) = if x = y then ltB r t else decide (x.toNat < y.toNat) := rfl
      rw [e]
      by_cases h : x = y
      · subst h; simp [UInt8.lt_irrefl]
      · simp [h, UInt8.lt_iff_toNat_lt]
theorem le_ltB (a b : Bs) : a ≤ b ↔ ltB b a = false := by
  show ¬ (b < a) ↔ _
  rw [lt_ltB]; simp
theorem le_ltB_trans (a b c : Bs) (h1 : ltB b a = false) (h2 : ltB c b = false) : ltB c a = false := by
  rcases ltB_tot a b with h | h | h
  · cases h3 : ltB c a with
    | false => rfl
    | true => have := ltB_trans c a b h3 h; rw [h2] at this; cases this
  · subst h; exact h2
  · rw [h1] at h; cases h
theorem merge_sortB (l : List Bs) (hn : l.Nodup) : l.mergeSort (fun x y => decide (x ≤ y)) = sortB l := by
  have hp : (l.mergeSort (fun x y => decide (x ≤ y))).Perm l := List.mergeSort_perm _ _
  refine sort_unique _ _ ?_ (sort_sortB l) (fun s => by rw [hp.mem_iff, mem_sortB])
  have hs : (l.mergeSort (fun x y => decide (x ≤ y))).Pairwise (fun x y => decide (x ≤ y) = true) := by
    refine List.pairwise_mergeSort ?_ ?_ l
    · intro a b c h1 h2
      simp only [decide_eq_true_eq, le_ltB] at h1 h2 ⊢
      exact le_ltB_trans a b c h1 h2
    · intro a b
      rcases ltB_tot a b with h | h | h
      · have : a ≤ b := by rw [le_ltB]; cases h3 : ltB b a with
          | false => rfl
          | true => have := ltB_trans _ _ _ h h3; rw [ltB_irr] at this; cases this
        simp [this]
      · subst h; simp
      · have : b ≤ a := by rw [le_ltB]; cases h3 : ltB a b with
          | false => rfl
          | true => have := ltB_trans _ _ _ h h3; rw [ltB_irr] at this; cases this
        simp [this]
  have hd : (l.mergeSort (fun x y => decide (x ≤ y))).Pairwise (· ≠ ·) := hp.nodup_iff.2 hn
  refine (hs.and hd).imp ?_
  rintro a b ⟨h1, h2⟩
  simp only [decide_eq_true_eq, le_ltB] at h1
  rcases ltB_tot a b with h | h | h
  · exact h
  · exact absurd h h2
  · rw [h1] at h; cases h
end Go.Proofs.YtjopmgoacncmgaaGreatDoor
