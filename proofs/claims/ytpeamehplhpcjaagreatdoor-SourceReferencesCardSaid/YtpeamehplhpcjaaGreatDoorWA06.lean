/- A part of the proofs of the laws of one package; see the law's own text, which comes last in 'order'. No conditions of its own. -/
import Derived.Test.YtpeamehplhpcjaaGreatDoorWA03
set_option linter.unusedVariables false
set_option linter.unusedSimpArgs false
namespace Go.Proofs.YtpeamehplhpcjaaGreatDoor
theorem split_ne (c : UInt8) (s : Bs) : splitS c s ≠ [] := by
  cases s with
  | nil => simp [splitS]
  | cons x r =>
    unfold splitS
    split
    · simp
    · split <;> simp
theorem split_len (c : UInt8) (s : Bs) : (splitS c s).length = s.count c + 1 := by
  induction s with
  | nil => rfl
  | cons x r ih =>
    unfold splitS
    by_cases h : x = c
    · rw [if_pos h, List.length_cons, ih, List.count_cons, h]
      simp
    · rw [if_neg h, List.count_cons]
      have : (x == c) = false := by simpa using h
      rw [this]
      have hn := split_ne c r
      cases hs : splitS c r with
      | nil => exact absurd hs hn
      | cons y t =>
        rw [hs] at ih
        simpa using ih
theorem split_no (c : UInt8) (s : Bs) (h : s.contains c = false) : splitS c s = [s] := by
  induction s with
  | nil => rfl
  | cons x r ih =>
    rw [List.contains_cons, Bool.or_eq_false_iff] at h
    unfold splitS
    have hx : x ≠ c := fun e => by subst e; simp at h
    rw [if_neg hx, ih h.2]
theorem contains_count (c : UInt8) (s : Bs) : s.contains c = decide (1 ≤ s.count c) := by
  rw [Bool.eq_iff_iff, List.contains_iff_mem, decide_eq_true_eq]
  exact List.count_pos_iff.symm
theorem part_no (s : Bs) (h : partS s = true) : s.contains 47 = false := by
  unfold partS at h
  simp only [Bool.and_eq_true, List.all_eq_true] at h
  rw [← Bool.not_eq_true, List.contains_iff_mem]
  intro hm
  have := h.2 47 hm
  exact absurd this (by decide)
theorem part_path (s : Bs) : partS s = (!s.contains 47 && pathS s) := by
  cases hc : s.contains 47 with
  | true =>
    cases hp : partS s with
    | false => rfl
    | true => rw [part_no s hp] at hc; cases hc
  | false =>
    unfold pathS
    rw [split_no 47 s hc]
    simp only [List.length_cons, List.length_nil, List.all_cons, List.all_nil, Bool.and_true, Bool.not_false, Bool.true_and]
    cases hp : partS s with
    | false => simp
    | true =>
      have : s.length ≤ 32 := by
        unfold partS at hp
        simp only [Bool.and_eq_true, decide_eq_true_eq] at hp
        exact hp.1.1.1.2
      have : decide (s.length ≤ 128) = true := by rw [decide_eq_true_eq]; omega
      rw [this]
      rfl
def risRef (s : Bs) : Bool := match s with | 64 :: r => pathS r && decide (1 < (splitS 47 r).length) | _ => pathS s
def rrefS (name ref : Bs) : Bs × Int :=
  if !partS name || !risRef ref then ([], 2)
  else match ref with
    | 64 :: r => (r, 0)
    | _ => if pathS (name ++ 47 :: ref) then (name ++ 47 :: ref, 0) else ([], 2)
theorem isRef_eq (s : Bs) : risRef s = isRefS s := by
  unfold risRef isRefS
  split
  · rename_i r
    show _ = (pathS r && r.contains 47)
    rw [split_len, contains_count]
    congr 1
    rw [Bool.eq_iff_iff, decide_eq_true_eq, decide_eq_true_eq]
    omega
  · rename_i h
    split
    · exact absurd rfl (h _)
    · rfl
theorem not_at {α : Type} (s : Bs) (X : Bs → α) (Y : α) : (∀ r, s = 64 :: r → False) → (match s with | 64 :: r => X r | _ => Y) = Y := by
  intro h
  split
  · exact absurd rfl (h _)
  · rfl
theorem rref_eq (name ref : Bs) : rrefS name ref = refS name ref := by
  unfold rrefS refS
  rw [part_path, isRef_eq]
  have e : (!(!name.contains 47 && pathS name) || !isRefS ref) = (name.contains 47 || !pathS name || !isRefS ref) := by
    cases name.contains 47 <;> cases pathS name <;> rfl
  rw [e]
  by_cases h : (name.contains 47 || !pathS name || !isRefS ref) = true
  · rw [if_pos h, if_pos h]
  · rw [if_neg h, if_neg h]
    split
    · rename_i r
      show _ = if pathS r then (r, (0 : Int)) else ([], 2)
      have : pathS r = true := by
        simp only [Bool.or_eq_true, not_or, Bool.not_eq_true, Bool.not_eq_false] at h
        have h2 := h.2
        simp only [Bool.not_eq_false'] at h2
        unfold isRefS at h2
        simp only [Bool.and_eq_true] at h2
        exact h2.1
      rw [if_pos this]
    · rename_i h
      exact (not_at ref _ _ h).symm
end Go.Proofs.YtpeamehplhpcjaaGreatDoor
