/- Expressions: the walks of expr.needs and Check. -/
import Derived.Test.YtchdpjgncojhaaaExprSpec2
import Derived.Test.YtchdpjgncojhaaaE4
import Derived.Test.YtchdpjgncojhaaaTokP5
set_option linter.unusedVariables false
set_option linter.unusedSimpArgs false
namespace Go.Proofs.Ytchdpjgncojhaaa
open Go.RowKit

set_option maxRecDepth 100000 in
set_option maxHeartbeats 8000000 in
theorem needs_any (o : Opn) (w : World) (hl : o.text.length ≤ 9223372036854775807) (hn0 : 0 ≤ o.n) (hn1 : o.n ≤ 4294967295) :
    Calls Try.prog 41 #[.agg #[.int .i64 o.kind, .string ⟨o.text.toArray⟩, .int .u32 o.n]] w fun e w' => e = .returned (.int .i64 (needsS o)) ∧ Below w.heap.size w w' := by
  obtain ⟨k, t, n⟩ := o
  obtain ⟨v, hv⟩ : ∃ v, v = needsS ⟨k, t, n⟩ := ⟨_, rfl⟩
  rw [← hv]
  unfold needsS at hv
  simp only at hl hn0 hn1 hv ⊢
  have hname := fun w => name_any t w hl
  have hlev := fun w => level_any t w
  have hun : (unS t 0).2 = isUn t := unS_is t 0
  generalize nameT t = nm at *
  generalize hL : level t = L at *
  generalize isUn t = un at *
  clear hL
  have Hname := Lib.hid hname; clear hname
  have Hlev := Lib.hid hlev; clear hlev
  have Hv := Lib.hid hv; clear hv
  by_cases hk : k = 1 ∨ k = 2 ∨ k = 3 ∨ k = 4 ∨ k = 5 ∨ k = 6 ∨ k = 7
  · cases hte : t.isEmpty
    all_goals
      rcases hk with rfl | rfl | rfl | rfl | rfl | rfl | rfl
    all_goals
      go_enter Try.func41, Try.ntmps41
      go_wp2_with (first | (go_at_call 25; refine (unary_any t 0 _ (by omega) (by omega)).mono ?_; rintro e w' ⟨rfl, rfl⟩) | (go_at_call 67; refine (Hname.out _).mono ?_; rintro e w1 ⟨rfl, hb1⟩; have hc0 := keptCell hb1 (heap_alloc_new w _) 0; have hc1 := keptCell hb1 (heap_alloc_new w _) 1; have hc2 := keptCell hb1 (heap_alloc_new w _) 2; simp only [List.getElem?_toArray, List.getElem?_cons_succ, List.getElem?_cons_zero] at hc0 hc1 hc2) | (go_at_call 47; refine (Hlev.out _).mono ?_; rintro e w1 ⟨rfl, hb1⟩; have hc0 := keptCell hb1 (heap_alloc_new w _) 0; have hc1 := keptCell hb1 (heap_alloc_new w _) 1; have hc2 := keptCell hb1 (heap_alloc_new w _) 2; simp only [List.getElem?_toArray, List.getElem?_cons_succ, List.getElem?_cons_zero] at hc0 hc1 hc2))
    all_goals
      go_ret
      refine ⟨ret_int ?_, ?_⟩
      · have h := Hv.out
        simp_all
        try (intro _; omega)
      · first | exact boxed | exact next boxed hb1 (Nat.le_refl _)
  · have e1 : (k == 1) = false := by rw [beq_eq_false_iff_ne]; omega
    have e2 : (k == 2) = false := by rw [beq_eq_false_iff_ne]; omega
    have e3 : (k == 3) = false := by rw [beq_eq_false_iff_ne]; omega
    have e4 : (k == 4) = false := by rw [beq_eq_false_iff_ne]; omega
    have e5 : (k == 5) = false := by rw [beq_eq_false_iff_ne]; omega
    have e6 : (k == 6) = false := by rw [beq_eq_false_iff_ne]; omega
    have e7 : (k == 7) = false := by rw [beq_eq_false_iff_ne]; omega
    have hv2 : v = -1 := by
      rw [Hv.out]
      simp only [not_or] at hk
      simp [hk]
    have Hv2 := Lib.hid hv2; clear hv2 hk Hv
    cases hte : t.isEmpty
    all_goals
      go_enter Try.func41, Try.ntmps41
      go_wp2_with (first | (go_at_call 25; refine (unary_any t 0 _ (by omega) (by omega)).mono ?_; rintro e w' ⟨rfl, rfl⟩) | (go_at_call 67; refine (Hname.out _).mono ?_; rintro e w1 ⟨rfl, hb1⟩; have hc0 := keptCell hb1 (heap_alloc_new w _) 0; have hc1 := keptCell hb1 (heap_alloc_new w _) 1; have hc2 := keptCell hb1 (heap_alloc_new w _) 2; simp only [List.getElem?_toArray, List.getElem?_cons_succ, List.getElem?_cons_zero] at hc0 hc1 hc2) | (go_at_call 47; refine (Hlev.out _).mono ?_; rintro e w1 ⟨rfl, hb1⟩; have hc0 := keptCell hb1 (heap_alloc_new w _) 0; have hc1 := keptCell hb1 (heap_alloc_new w _) 1; have hc2 := keptCell hb1 (heap_alloc_new w _) 2; simp only [List.getElem?_toArray, List.getElem?_cons_succ, List.getElem?_cons_zero] at hc0 hc1 hc2))
    all_goals
      go_ret
      exact ⟨ret_int Hv2.out, boxed⟩
end Go.Proofs.Ytchdpjgncojhaaa
