/- Tokens: the walks of the package token, first part. -/
import Derived.Test.YtchdpjgncojhaaaTokSpec
import Derived.Test.YtchdpjgncojhaaaShelf
import Derived.Laws.RangeAny
set_option linter.unusedVariables false
set_option linter.unusedSimpArgs false
namespace Go.Proofs.Ytchdpjgncojhaaa
open Go.RowKit

theorem letter_any (c : Int) (w : World) :
    Calls Try.prog 90 #[.int .i32 c] w fun e w' => e = .returned (.bool (letr c)) ∧ w = w' := by
  go_enter Try.func90, Try.ntmps90
  go_wp2
  all_goals go_ret
  all_goals (simp_all [letr]; try omega)

theorem digit_any (c : Int) (w : World) :
    Calls Try.prog 92 #[.int .i32 c] w fun e w' => e = .returned (.bool (digt c)) ∧ w = w' := by
  go_enter Try.func92, Try.ntmps92
  go_wp2
  all_goals go_ret
  all_goals (simp_all [digt]; try omega)

/-- token.run's test. -/
def runP (names : Bool) (x : Nat) : Bool := !digt x && !(names && letr x)

theorem run1_any (names : Bool) (c : Nat) (a : Addr) (w : World) (hc : w.cell? a = some (.bool names)) :
    Calls Try.prog 105 #[.int .i32 c, .pointer (some a)] w fun e w' => e = .returned (.bool (runP names c)) ∧ w = w' := by
  obtain ⟨v, hv⟩ : ∃ v, v = runP names c := ⟨_, rfl⟩
  rw [← hv]
  have Hv := Lib.hid hv; clear hv
  cases hd : digt c
  · cases names
    · go_enter Try.func105, Try.ntmps105
      go_wp2_with (first | (go_at_call 90; refine (letter_any _ _).mono ?_; rintro e w' ⟨rfl, rfl⟩) | (go_at_call 92; refine (digit_any _ _).mono ?_; rintro e w' ⟨rfl, rfl⟩))
      go_ret
      exact ⟨ret_bool (by rw [Hv.out, runP, hd]; simp), rfl⟩
    · go_enter Try.func105, Try.ntmps105
      go_wp2_with (first | (go_at_call 90; refine (letter_any _ _).mono ?_; rintro e w' ⟨rfl, rfl⟩) | (go_at_call 92; refine (digit_any _ _).mono ?_; rintro e w' ⟨rfl, rfl⟩))
      go_ret
      exact ⟨ret_bool (by rw [Hv.out, runP, hd]; simp), rfl⟩
  · go_enter Try.func105, Try.ntmps105
    go_wp2_with (first | (go_at_call 90; refine (letter_any _ _).mono ?_; rintro e w' ⟨rfl, rfl⟩) | (go_at_call 92; refine (digit_any _ _).mono ?_; rintro e w' ⟨rfl, rfl⟩))
    go_ret
    exact ⟨ret_bool (by rw [Hv.out, runP, hd]; simp), rfl⟩

theorem idxFunc_from (p : Nat → Bool) (l : Bs) (hp : ∀ x, 128 ≤ x → p x = true) (f : Nat) : ∀ pos, pos ≤ l.length → l.length ≤ f + pos →
    Lib.idxFuncFrom p true ⟨l.toArray⟩ f pos = if pos + ((l.drop pos).takeWhile (fun c => !p c.toNat)).length < l.length then ((pos + ((l.drop pos).takeWhile (fun c => !p c.toNat)).length : Nat) : Int) else -1 := by
  have hsz : (ByteArray.mk l.toArray).size = l.length := by simp [ByteArray.size]
  induction f with
  | zero =>
    intro pos h1 h2
    rw [drop_end (by omega)]
    simp only [List.takeWhile_nil, List.length_nil, Nat.add_zero]
    exact (if_neg (show ¬ pos < l.length by omega)).symm
  | succ f ih =>
    intro pos h1 h2
    rw [Lib.idxFuncFrom, hsz]
    by_cases hlt : pos < l.length
    · rw [if_pos hlt, drop_get hlt, List.takeWhile_cons]
      have hg : (ByteArray.mk l.toArray)[pos]'(by rw [hsz]; exact hlt) = l[pos] := rfl
      by_cases ha : (l[pos]).toNat < 128
      · have hdec := decode_ascii ⟨l.toArray⟩ pos (by rw [hsz]; exact hlt) (by rw [hg]; exact ha)
        rw [hg] at hdec
        rw [hdec]
        by_cases hpp : p l[pos].toNat = true
        · simp only [hpp, if_true, Bool.not_true, Bool.false_eq_true, if_false, List.length_nil, Nat.add_zero]
          rw [if_pos hlt]
        · have hpf : p l[pos].toNat = false := by simpa using hpp
          simp only [hpf, Bool.false_eq_true, if_false, Bool.not_false, if_true, List.length_cons]
          rw [ih (pos + 1) (by omega) (by omega), show pos + 1 + ((l.drop (pos + 1)).takeWhile (fun c => !p c.toNat)).length = pos + (((l.drop (pos + 1)).takeWhile (fun c => !p c.toNat)).length + 1) from by omega]
      · have hhi := decode_high ⟨l.toArray⟩ pos (by rw [hsz]; exact hlt) (by rw [hg]; omega)
        rw [if_pos (hp _ hhi.1)]
        simp only [hp l[pos].toNat (by omega), Bool.not_true, Bool.false_eq_true, if_false, List.length_nil, Nat.add_zero]
        rw [if_pos hlt]
    · rw [if_neg hlt, drop_end hlt]
      simp only [List.takeWhile_nil, List.length_nil, Nat.add_zero]
      exact (if_neg hlt).symm

def runQ (names : Bool) (c : UInt8) : Bool := if names then nameB c else digB c
theorem runP_Q (names : Bool) : (fun c : UInt8 => !runP names c.toNat) = runQ names := by
  funext c
  unfold runP runQ nameB digB
  cases names <;> cases letr c.toNat <;> cases digt c.toNat <;> rfl
theorem runP_high (names : Bool) (x : Nat) (h : 128 ≤ x) : runP names x = true := by
  have h1 : digt x = false := by unfold digt; rw [Bool.and_eq_false_iff]; right; simp; omega
  have h2 : letr x = false := by unfold letr; rw [Bool.or_eq_false_iff, Bool.and_eq_false_iff]; exact ⟨.inr (by simp; omega), by rw [beq_eq_false_iff_ne]; omega⟩
  unfold runP
  rw [h1, h2]; simp
theorem idxFunc_run (names : Bool) (l : Bs) : Lib.idxFunc (runP names) true ⟨l.toArray⟩ = if (l.takeWhile (runQ names)).length < l.length then (((l.takeWhile (runQ names)).length : Nat) : Int) else -1 := by
  unfold Lib.idxFunc
  have hsz : (ByteArray.mk l.toArray).size = l.length := by simp [ByteArray.size]
  rw [idxFunc_from _ _ (runP_high names) _ 0 (by omega) (by omega), runP_Q]
  simp

set_option maxHeartbeats 1000000 in
theorem run_any (l : Bs) (names : Bool) (w : World) :
    Calls Try.prog 91 #[.string ⟨l.toArray⟩, .bool names] w fun e w' => e = .returned (.int .i64 ((l.takeWhile (runQ names)).length)) ∧ Below w.heap.size w w' := by
  have hle : (l.takeWhile (runQ names)).length ≤ l.length := (List.takeWhile_sublist _).length_le
  have hidx := idxFunc_run names l
  generalize hn : (l.takeWhile (runQ names)).length = n at *
  have Hn := Lib.hid hn; clear hn
  have Hidx := Lib.hid hidx; clear hidx
  go_enter Try.func91, Try.ntmps91
  go_wp2_with fail
  refine (Try.strings_IndexFunc_grows 105 #[.pointer (some ⟨w.heap.size, 0, none⟩)] (fun _ _ => by kernel_rfl) (runP names) ⟨l.toArray⟩ _ ?_).mono ?_
  · intro W x hx hb
    have hc := keptCell hb (heap_alloc_new w _) 0
    simp only [List.getElem?_toArray, List.getElem?_cons_zero] at hc
    refine (run1_any names x ⟨w.heap.size, 0, none⟩ W hc).mono ?_
    rintro e w' ⟨rfl, rfl⟩
    exact ⟨rfl, Below.refl _ _⟩
  · rw [Hidx.out]
    rintro e w1 ⟨rfl, hb1⟩
    by_cases hlt : n < l.length
    · rw [if_pos hlt]
      go_wp2
      go_ret
      exact ⟨rfl, next boxed hb1 (Nat.le_refl _)⟩
    · rw [if_neg hlt]
      go_wp2
      go_ret
      exact ⟨ret_int (by omega), next boxed hb1 (Nat.le_refl _)⟩
end Go.Proofs.Ytchdpjgncojhaaa
