/- licitref08: the walks of Level, needs, Check, Same, Few. -/
import Derived.Test.YtchdpjgncojhaaaR1
import Derived.Test.YtchdpjgncojhaaaTokEq
import Derived.Test.YtchdpjgncojhaaaTokWalk
import Derived.Test.YtchdpjgncojhaaaExprSpec2
set_option linter.unusedVariables false
set_option linter.unusedSimpArgs false
namespace Go.Proofs.Ytchdpjgncojhaaa
open Go.RowKit

theorem levelGo_none (l : List (List Bs)) (k : Nat) (op : Bs) (h : op ∉ l.flatten) : levelGo l k op = 0 := by
  induction l generalizing k with
  | nil => rfl
  | cons a r ih =>
    rw [List.flatten_cons, List.mem_append, not_or] at h
    rw [levelGo, if_neg (by simpa using h.1)]
    exact ih _ h.2
theorem level_none (op : Bs) (h : op ∉ binOps) : level op = 0 := levelGo_none _ _ _ (fun hm => h (by simpa [levels, binOps] using hm))

set_option maxRecDepth 100000 in
set_option maxHeartbeats 2000000 in
theorem level8_any (op : Bs) (w : World) :
    Calls Try.prog 54 #[.string ⟨op.toArray⟩] w fun e w' => e = .returned (.int .i64 (level op)) ∧ w = w' := by
  obtain ⟨v, hv⟩ : ∃ v, v = level op := ⟨_, rfl⟩
  rw [← hv]
  by_cases hu : op ∈ binOps
  · simp only [binOps, List.mem_cons, List.not_mem_nil, or_false] at hu
    rcases hu with rfl | rfl | rfl | rfl | rfl | rfl | rfl | rfl | rfl | rfl | rfl | rfl | rfl | rfl | rfl | rfl | rfl | rfl
    all_goals
      have Hv := Lib.hid hv; clear hv
      go_enter Try.func54, Try.ntmps54
      go_wp2
      go_ret
      refine ⟨ret_int ?_, rfl⟩
      rw [Hv.out]
      rfl
  · have hn : v = 0 := by rw [hv, level_none op hu]
    have Hv := Lib.hid hn; clear hn hv
    have h3 : ∀ z ∈ binOps, (op == z) = false := by
      intro z hz
      rw [beq_eq_false_iff_ne]
      rintro rfl
      exact hu hz
    clear hu
    simp only [binOps, List.mem_cons, List.not_mem_nil, or_false, forall_eq_or_imp, forall_eq] at h3
    obtain ⟨q1, q2, q3, q4, q5, q6, q7, q8, q9, q10, q11, q12, q13, q14, q15, q16, q17, q18⟩ := h3
    go_enter Try.func54, Try.ntmps54
    go_wp2
    go_ret
    exact ⟨ret_int (by rw [Hv.out]; rfl), rfl⟩

set_option maxRecDepth 100000 in
set_option maxHeartbeats 8000000 in
theorem needs8_any (o : Opn) (w : World) (hl : o.text.length ≤ 9223372036854775807) (hn0 : 0 ≤ o.n) (hn1 : o.n ≤ 4294967295) :
    Calls Try.prog 49 #[.agg #[.int .i64 o.kind, .string ⟨o.text.toArray⟩, .int .u32 o.n]] w fun e w' => e = .returned (.int .i64 (needsS o)) ∧ Below w.heap.size w w' := by
  obtain ⟨k, t, n⟩ := o
  obtain ⟨v, hv⟩ : ∃ v, v = needsS ⟨k, t, n⟩ := ⟨_, rfl⟩
  rw [← hv]
  unfold needsS at hv
  simp only at hl hn0 hn1 hv ⊢
  have hname := fun w => name5_any t w hl
  have hlev := fun w => level8_any t w
  have hun : (unS t 0).2 = isUn t := unS_is t 0
  rw [name_eq] at hv
  generalize name5 t = nm at *
  generalize hL : level t = L at *
  generalize isUn t = un at *
  clear hL
  have Hname := Lib.hid hname; clear hname
  have Hlev := Lib.hid hlev; clear hlev
  have Hv := Lib.hid hv; clear hv
  by_cases hk : k = 1 ∨ k = 2 ∨ k = 3 ∨ k = 4 ∨ k = 5 ∨ k = 6 ∨ k = 7
  · cases hte : t.isEmpty
    all_goals
      rcases hk with rfl | rfl | rfl | rfl | rfl | rfl | rfl
    all_goals
      go_enter Try.func49, Try.ntmps49
      go_wp2_with (first | (go_at_call 26; refine (unary8_any t 0 _ (by omega) (by omega)).mono ?_; rintro e w' ⟨rfl, rfl⟩) | (go_at_call 70; refine (Hname.out _).mono ?_; rintro e w1 ⟨rfl, hb1⟩; have hc0 := keptCell hb1 (heap_alloc_new w _) 0; have hc1 := keptCell hb1 (heap_alloc_new w _) 1; have hc2 := keptCell hb1 (heap_alloc_new w _) 2; simp only [List.getElem?_toArray, List.getElem?_cons_succ, List.getElem?_cons_zero] at hc0 hc1 hc2) | (go_at_call 54; refine (Hlev.out _).mono ?_; rintro e w1 ⟨rfl, rfl⟩))
    all_goals
      go_ret
      refine ⟨ret_int ?_, ?_⟩
      · have h := Hv.out
        simp_all
        try (intro _; omega)
      · first | exact boxed | exact next boxed hb1 (Nat.le_refl _)
  · have e1 : (k == 1) = false := by rw [beq_eq_false_iff_ne]; omega
    have e2 : (k == 2) = false := by rw [beq_eq_false_iff_ne]; omega
    have e3 : (k == 3) = false := by rw [beq_eq_false_iff_ne]; omega
    have e4 : (k == 4) = false := by rw [beq_eq_false_iff_ne]; omega
    have e5 : (k == 5) = false := by rw [beq_eq_false_iff_ne]; omega
    have e6 : (k == 6) = false := by rw [beq_eq_false_iff_ne]; omega
    have e7 : (k == 7) = false := by rw [beq_eq_false_iff_ne]; omega
    have hv2 : v = -1 := by
      rw [Hv.out]
      simp only [not_or] at hk
      simp [hk]
    have Hv2 := Lib.hid hv2; clear hv2 hk Hv
    go_enter Try.func49, Try.ntmps49
    go_wp2
    go_ret
    exact ⟨ret_int Hv2.out, boxed⟩
end Go.Proofs.Ytchdpjgncojhaaa
