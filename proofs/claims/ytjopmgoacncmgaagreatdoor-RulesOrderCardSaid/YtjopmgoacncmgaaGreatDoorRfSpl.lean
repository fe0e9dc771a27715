/- Rules: the library's Split, Join, TrimLeft are the plain ones. Plain law. -/
import Derived.Test.YtjopmgoacncmgaaGreatDoorRfAto
import Derived.Lib.SplitLaws
import Derived.Lib.Join
import Derived.Lib.TrimByte
set_option linter.unusedVariables false
set_option linter.unusedSimpArgs false
namespace Go.Proofs.YtjopmgoacncmgaaGreatDoor

theorem ixb (c : UInt8) (l : Bs) : (Lib.indexByte l c = -1 ∧ ∀ x ∈ l, x ≠ c) ∨ ∃ a b, l = a ++ [c] ++ b ∧ Lib.indexByte l c = a.length ∧ ∀ x ∈ a, x ≠ c := by
  induction l with
  | nil => exact .inl ⟨rfl, fun x h => nomatch h⟩
  | cons x r ih =>
    by_cases hx : x = c
    · subst hx
      exact .inr ⟨[], r, rfl, by simp [Lib.indexByte], fun y h => nomatch h⟩
    · rcases ih with ⟨h1, h2⟩ | ⟨a, b, h1, h2, h3⟩
      · refine .inl ⟨by simp [Lib.indexByte, hx, h1], fun y hy => ?_⟩
        rcases List.mem_cons.1 hy with rfl | hy
        · exact hx
        · exact h2 y hy
      · refine .inr ⟨x :: a, b, by rw [h1]; rfl, ?_, fun y hy => ?_⟩
        · have hne : ¬ ((a.length : Int) = -1) := by omega
          simp [Lib.indexByte, hx, h2, hne]
        · rcases List.mem_cons.1 hy with rfl | hy
          · exact hx
          · exact h3 y hy
theorem splitGo_all (l : Bs) : ∀ cur, (∀ x ∈ l, x ≠ 10) → splitGo cur l = [cur ++ l] := by
  induction l with
  | nil => intro cur _; simp [splitGo]
  | cons c r ih =>
    intro cur h
    rw [splitGo, if_neg (by simpa using h c List.mem_cons_self), ih _ (fun x hx => h x (List.mem_cons_of_mem _ hx))]
    simp
theorem split_lib (n : Nat) : ∀ s : Bs, s.length ≤ n → Lib.splitK [10] 0 (Lib.count s [10]) s = splitS s := by
  induction n with
  | zero =>
    intro s hs
    have : s = [] := List.eq_nil_of_length_eq_zero (by omega)
    subst this
    decide +kernel
  | succ n ih =>
    intro s hs
    have hone : Lib.index s [10] = Lib.indexByte s 10 := by
      have := Lib.index_one s 10
      exact this
    rcases ixb 10 s with ⟨h1, h2⟩ | ⟨a, b, h1, h2, h3⟩
    · rw [Lib.count_miss (by rw [hone, h1]), Lib.splitK]
      unfold splitS
      rw [splitGo_all s [] h2]; rfl
    · have hi : Lib.index s [10] = (a.length : Nat) := by rw [hone, h2]
      rw [Lib.count_hit (by simp) hi]
      have hd : s.drop (a.length + ([10] : Bs).length) = b := by rw [h1]; simp
      rw [hd, Nat.add_comm, Lib.splitK, hi]
      have hne : ¬ (((a.length : Nat) : Int) == -1) = true := by simp
      rw [if_neg hne]
      have hd2 : s.drop (((a.length : Nat) : Int).toNat + ([10] : Bs).length) = b := hd
      have ht : s.take (((a.length : Nat) : Int).toNat + 0) = a := by rw [h1]; simp
      rw [hd2, ht, ih b (by rw [h1] at hs; simp at hs; omega)]
      unfold splitS
      rw [h1, split_line a b h3 []]
      rfl
theorem splitB_lib (s : Bs) : (Lib.splitB ⟨#[10]⟩ 0 (Lib.countB ⟨s.toArray⟩ ⟨#[10]⟩) ⟨s.toArray⟩).map (fun x => x.data.toList) = splitS s := by
  rw [Lib.splitB_data]
  exact split_lib s.length s (Nat.le_refl _)
theorem splitB_len (s : Bs) : Lib.countB ⟨s.toArray⟩ ⟨#[10]⟩ + 1 = (splitS s).length := by
  rw [← splitB_lib, List.length_map, Lib.splitB_all ⟨#[10]⟩ (by decide) 0 _ _ rfl]
theorem splitB_vals (s : Bs) : (Lib.splitB ⟨#[10]⟩ 0 (Lib.countB ⟨s.toArray⟩ ⟨#[10]⟩) ⟨s.toArray⟩).map Value.string = (splitS s).map (fun x => Value.string ⟨x.toArray⟩) := by
  rw [← splitB_lib, List.map_map]
  exact List.map_congr_left (fun x _ => by simp)
theorem join_lib (l : List Bs) : Lib.join l [44, 32] = joinS l := by
  induction l with
  | nil => rfl
  | cons a r ih =>
    cases r with
    | nil => rw [Lib.join_one]; rfl
    | cons b t =>
      rw [Lib.join_cons] at ih ⊢
      show a ++ Lib.joinTail [44, 32] (b :: t) = a ++ [44, 32] ++ joinS (b :: t)
      rw [← ih]
      simp [Lib.joinTail]
theorem trim_lib (s : Bs) : Lib.trimLeftB s 32 = trimS s := rfl
end Go.Proofs.YtjopmgoacncmgaaGreatDoor
