/- Expressions: the walks of expr.Unary, Binary, level. -/
import Derived.Test.YtchdpjgncojhaaaExprSpec
set_option linter.unusedVariables false
set_option linter.unusedSimpArgs false
namespace Go.Proofs.Ytchdpjgncojhaaa
open Go.RowKit

theorem ret_ub {v : Int × Bool} {a : Int} {b : Bool} (h : v = (a, b)) : Ending.returned (.tuple #[.int .u32 a, .bool b]) = .returned (.tuple #[.int .u32 v.1, .bool v.2]) := by rw [h]

set_option maxHeartbeats 1000000 in
theorem unary_any (op : Bs) (x : Int) (w : World) (h : 0 ≤ x) (h' : x ≤ 4294967295) :
    Calls Try.prog 25 #[.string ⟨op.toArray⟩, .int .u32 x] w fun e w' => e = .returned (.tuple #[.int .u32 (unS op x).1, .bool (unS op x).2]) ∧ w = w' := by
  obtain ⟨v, hv⟩ : ∃ v, v = unS op x := ⟨_, rfl⟩
  rw [← hv]
  by_cases hu : isUn op = true
  · rw [isUn_iff] at hu
    rcases hu with rfl | rfl | rfl
    all_goals
      have Hv := Lib.hid hv; clear hv
      go_enter Try.func25, Try.ntmps25
      go_wp2
      all_goals
        go_ret2
        exact ⟨ret_ub (by rw [Hv.out]; simp [unS, yes, *]), rfl⟩
  · have hn : v = (0, false) := by
      rw [hv]
      rw [isUn_iff] at hu
      simp only [not_or] at hu
      simp [unS, hu]
    have Hv := Lib.hid hn; clear hn hv
    have e1 : (op == [45]) = false := by rw [beq_eq_false_iff_ne]; exact fun e => hu (by rw [isUn_iff]; exact .inl e)
    have e2 : (op == [126]) = false := by rw [beq_eq_false_iff_ne]; exact fun e => hu (by rw [isUn_iff]; exact .inr (.inl e))
    have e3 : (op == [33]) = false := by rw [beq_eq_false_iff_ne]; exact fun e => hu (by rw [isUn_iff]; exact .inr (.inr e))
    clear hu
    go_enter Try.func25, Try.ntmps25
    go_wp2
    go_ret2
    exact ⟨ret_ub Hv.out, rfl⟩

set_option maxRecDepth 100000 in
set_option maxHeartbeats 4000000 in
theorem binary_any (op : Bs) (x y : Int) (w : World) (h : 0 ≤ x) (h' : x ≤ 4294967295) (h2 : 0 ≤ y) (h2' : y ≤ 4294967295) :
    Calls Try.prog 27 #[.string ⟨op.toArray⟩, .int .u32 x, .int .u32 y] w fun e w' => e = .returned (.tuple #[.int .u32 (binS op x y).1, .bool (binS op x y).2]) ∧ w = w' := by
  obtain ⟨v, hv⟩ : ∃ v, v = binS op x y := ⟨_, rfl⟩
  rw [← hv]
  have hwy : y ≠ 0 → ¬ wrap32 y = 0 := by intro hy; unfold wrap32; omega
  by_cases hu : op ∈ binOps
  · simp only [binOps, List.mem_cons, List.not_mem_nil, or_false] at hu
    rcases hu with rfl | rfl | rfl | rfl | rfl | rfl | rfl | rfl | rfl | rfl | rfl | rfl | rfl | rfl | rfl | rfl | rfl | rfl
    all_goals
      have Hv := Lib.hid hv; clear hv
      go_enter Try.func27, Try.ntmps27
      go_wp2
      all_goals first
        | (exfalso; have hz : wrap32 y = 0 := by assumption
           have hy : (y == 0) = false := by assumption
           exact hwy (by simpa using hy) hz)
        | (go_ret2
           exact ⟨ret_ub (by rw [Hv.out]; simp_all [binS, yes]), rfl⟩)
  · have hn : v = (0, false) := by rw [hv, binS_none op x y hu]
    have Hv := Lib.hid hn; clear hn hv
    have h3 : ∀ z ∈ binOps, (op == z) = false := by
      intro z hz
      rw [beq_eq_false_iff_ne]
      rintro rfl
      exact hu hz
    clear hu
    simp only [binOps, List.mem_cons, List.not_mem_nil, or_false, forall_eq_or_imp, forall_eq] at h3
    obtain ⟨q1, q2, q3, q4, q5, q6, q7, q8, q9, q10, q11, q12, q13, q14, q15, q16, q17, q18⟩ := h3
    go_enter Try.func27, Try.ntmps27
    go_wp2
    go_ret2
    exact ⟨ret_ub Hv.out, rfl⟩
end Go.Proofs.Ytchdpjgncojhaaa
