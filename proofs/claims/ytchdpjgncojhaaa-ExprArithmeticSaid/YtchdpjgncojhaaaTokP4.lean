/- Tokens: the walk of token.next. -/
import Derived.Test.YtchdpjgncojhaaaTokP2
import Derived.Test.YtchdpjgncojhaaaTokP3
set_option linter.unusedVariables false
set_option linter.unusedSimpArgs false
namespace Go.Proofs.Ytchdpjgncojhaaa
open Go.RowKit

theorem stored2 {w w1 : World} (h : Below w.heap.size w w1) (u v : Value) : Below w.heap.size w ((w1.setCell ⟨w.heap.size, 0, none⟩ u).setCell ⟨w.heap.size, 1, none⟩ v) :=
  (h.setCell (p := ⟨w.heap.size, 0, none⟩) (Nat.le_refl _) _).setCell (p := ⟨w.heap.size, 1, none⟩) (Nat.le_refl _) _
theorem runQ_true : runQ true = nameB := rfl

set_option maxRecDepth 100000 in
set_option maxHeartbeats 1000000 in
theorem next_letter (s : Bs) (w : World) (h0 : 0 < s.length) (hl : s.length ≤ 9223372036854775807) (h1 : letr s[0].toNat = true) :
    Calls Try.prog 72 #[.string ⟨s.toArray⟩] w fun e w' => e = .returned (TokRes (nextOf symT s)) ∧ Below w.heap.size w w' := by
  obtain ⟨v, hv⟩ : ∃ v, v = nextOf symT s := ⟨_, rfl⟩
  rw [← hv]
  have Hv : Hid (v = if 32 < (s.takeWhile nameB).length then (⟨0, []⟩, 2) else (⟨1, s.take (s.takeWhile nameB).length⟩, 0)) := hv.trans (next_letr _ h0 h1)
  clear hv
  have hrun := run_any s true (w.alloc (Obj.cells #[Value.int IntKind.i64 0, Value.string { data := #[] }] 54))
  rw [runQ_true] at hrun
  have hle : (s.takeWhile nameB).length ≤ s.length := (List.takeWhile_sublist _).length_le
  generalize (s.takeWhile nameB).length = n at *
  have Hrun := Lib.hid hrun; clear hrun
  have hby := byte_le s[0]
  by_cases hbig : 32 < n
  · have hvv : v = (⟨0, []⟩, 2) := by rw [Hv.out, if_pos hbig]
    have Hvv := Lib.hid hvv; clear hvv Hv
    go_enter Try.func72, Try.ntmps72
    go_wp2_with (first | (go_at_call 90; refine (letter_any _ _).mono ?_; rintro e w' ⟨rfl, rfl⟩) | (go_at_call 91; refine Hrun.out.mono ?_; rintro e w1 ⟨rfl, hb1⟩; have hc0 := keptCell hb1 (heap_alloc_new w _) 0; have hc1 := keptCell hb1 (heap_alloc_new w _) 1; have hz0 := keptFrozen hb1 (heap_alloc_new w _) 0; have hz1 := keptFrozen hb1 (heap_alloc_new w _) 1; simp only [List.getElem?_toArray, List.getElem?_cons_succ, List.getElem?_cons_zero] at hc0 hc1))
    refine bodyPost_ret (v := TokRes v) ?_ rfl ⟨rfl, ?_⟩
    · rw [Hvv.out]
      simp [TokRes, results, Try.results72, go_sem, hc0, hc1]
    · exact stored2 (next boxed hb1 (Nat.le_refl _)) _ _
  · have hvv : v = (⟨1, s.take n⟩, 0) := by rw [Hv.out, if_neg hbig]
    have Hvv := Lib.hid hvv; clear hvv Hv
    go_enter Try.func72, Try.ntmps72
    go_wp2_with (first | (go_at_call 90; refine (letter_any _ _).mono ?_; rintro e w' ⟨rfl, rfl⟩) | (go_at_call 91; refine Hrun.out.mono ?_; rintro e w1 ⟨rfl, hb1⟩; have hc0 := keptCell hb1 (heap_alloc_new w _) 0; have hc1 := keptCell hb1 (heap_alloc_new w _) 1; have hz0 := keptFrozen hb1 (heap_alloc_new w _) 0; have hz1 := keptFrozen hb1 (heap_alloc_new w _) 1; simp only [List.getElem?_toArray, List.getElem?_cons_succ, List.getElem?_cons_zero] at hc0 hc1))
    refine bodyPost_ret (v := TokRes v) ?_ rfl ⟨rfl, ?_⟩
    · rw [Hvv.out]
      simp [TokRes, results, Try.results72, go_sem, hc0, hc1]
    · exact stored2 (next boxed hb1 (Nat.le_refl _)) _ _

set_option maxRecDepth 100000 in
set_option maxHeartbeats 1000000 in
theorem next_symbol (s : Bs) (w : World) (h0 : 0 < s.length) (hl : s.length ≤ 9223372036854775807) (h1 : letr s[0].toNat = false) (h2 : digt s[0].toNat = false) :
    Calls Try.prog 72 #[.string ⟨s.toArray⟩] w fun e w' => e = .returned (TokRes (nextOf symT s)) ∧ Below w.heap.size w w' := by
  obtain ⟨v, hv⟩ : ∃ v, v = nextOf symT s := ⟨_, rfl⟩
  rw [← hv]
  have Hv := Lib.hid (hv.trans (next_symb _ h0 h1 h2))
  clear hv
  have hsym := symbol_any s (w.alloc (Obj.cells #[Value.int IntKind.i64 0, Value.string { data := #[] }] 54)) hl
  generalize symT s = y at *
  have Hsym := Lib.hid hsym; clear hsym
  have hby := byte_le s[0]
  cases hy : y.isEmpty
  · have hvv : v = (⟨3, y⟩, 0) := by rw [Hv.out, hy]; rfl
    have Hvv := Lib.hid hvv; clear hvv Hv
    go_enter Try.func72, Try.ntmps72
    go_wp2_with (first | (go_at_call 90; refine (letter_any _ _).mono ?_; rintro e w' ⟨rfl, rfl⟩) | (go_at_call 92; refine (digit_any _ _).mono ?_; rintro e w' ⟨rfl, rfl⟩) | (go_at_call 94; refine Hsym.out.mono ?_; rintro e w' ⟨rfl, rfl⟩))
    refine bodyPost_ret (v := TokRes v) ?_ rfl ⟨rfl, boxed⟩
    rw [Hvv.out]
    simp [TokRes, results, Try.results72, go_sem]
  · have hvv : v = (⟨0, []⟩, 4) := by rw [Hv.out, hy]; rfl
    have Hvv := Lib.hid hvv; clear hvv Hv
    go_enter Try.func72, Try.ntmps72
    go_wp2_with (first | (go_at_call 90; refine (letter_any _ _).mono ?_; rintro e w' ⟨rfl, rfl⟩) | (go_at_call 92; refine (digit_any _ _).mono ?_; rintro e w' ⟨rfl, rfl⟩) | (go_at_call 94; refine Hsym.out.mono ?_; rintro e w' ⟨rfl, rfl⟩))
    refine bodyPost_ret (v := TokRes v) ?_ rfl ⟨rfl, boxed⟩
    rw [Hvv.out]
    simp [TokRes, results, Try.results72, go_sem]

set_option maxRecDepth 100000 in
set_option maxHeartbeats 2000000 in
theorem next_digit (s : Bs) (w : World) (h0 : 0 < s.length) (hl : s.length ≤ 9223372036854775807) (h1 : letr s[0].toNat = false) (h2 : digt s[0].toNat = true) :
    Calls Try.prog 72 #[.string ⟨s.toArray⟩] w fun e w' => e = .returned (TokRes (nextOf symT s)) ∧ Below w.heap.size w w' := by
  obtain ⟨v, hv⟩ : ∃ v, v = nextOf symT s := ⟨_, rfl⟩
  rw [← hv]
  have hv1 := hv.trans (next_digt _ h0 h1 h2)
  clear hv
  have hrun := run_any s false (w.alloc (Obj.cells #[Value.int IntKind.i64 0, Value.string { data := #[] }] 54))
  rw [show runQ false = digB from rfl] at hrun
  have hle : (s.takeWhile digB).length ≤ s.length := (List.takeWhile_sublist _).length_le
  generalize (s.takeWhile digB).length = n at *
  have Hrun := Lib.hid hrun; clear hrun
  have hnum := fun w => number_any (s.take n) w (by rw [List.length_take]; omega)
  simp only at hv1
  generalize hq : number (s.take n) = q at *
  obtain ⟨q1, q2⟩ := q
  clear hq
  have Hnum := Lib.hid hnum; clear hnum
  have Hv := Lib.hid hv1; clear hv1
  have hby := byte_le s[0]
  by_cases he : q2 = 0
  · subst he
    by_cases hlt : n < s.length
    · have hby2 := byte_le s[n]
      have hg : (s.drop n).headD 0 = s[n] := by rw [drop_get hlt]; rfl
      have Hg := Lib.hid hg; clear hg
      by_cases hle2 : letr s[n].toNat = true
      · have hv3 : v = (⟨0, []⟩, 4) := by rw [Hv.out]; simp [hlt, hle2]
        have Hvv := Lib.hid hv3; clear hv3 Hv
        go_enter Try.func72, Try.ntmps72
        go_wp2_with (first | (go_at_call 90; refine (letter_any _ _).mono ?_; rintro e w' ⟨rfl, rfl⟩) | (go_at_call 92; refine (digit_any _ _).mono ?_; rintro e w' ⟨rfl, rfl⟩) | (go_at_call 91; refine Hrun.out.mono ?_; rintro e w1 ⟨rfl, hb1⟩) | (go_at_call 93; refine (Hnum.out _).mono ?_; rintro e w2 ⟨rfl, hb2⟩; have hc0 := keptCell hb2 (keptBlk hb1 (heap_alloc_new w _)) 0; have hc1 := keptCell hb2 (keptBlk hb1 (heap_alloc_new w _)) 1; have hz0 := keptFrozen hb2 (keptBlk hb1 (heap_alloc_new w _)) 0; have hz1 := keptFrozen hb2 (keptBlk hb1 (heap_alloc_new w _)) 1; simp only [List.getElem?_toArray, List.getElem?_cons_succ, List.getElem?_cons_zero] at hc0 hc1))
        refine bodyPost_ret (v := TokRes v) ?_ rfl ⟨rfl, ?_⟩
        · rw [Hvv.out]
          simp [TokRes, results, Try.results72, go_sem, hc0, hc1]
        · exact stored2 (next (next boxed hb1 (Nat.le_refl _)) hb2 (Nat.le_refl _)) _ _
      · have hv3 : v = (⟨2, s.take n⟩, 0) := by rw [Hv.out]; simp [hlt, hle2]
        have Hvv := Lib.hid hv3; clear hv3 Hv
        go_enter Try.func72, Try.ntmps72
        go_wp2_with (first | (go_at_call 90; refine (letter_any _ _).mono ?_; rintro e w' ⟨rfl, rfl⟩) | (go_at_call 92; refine (digit_any _ _).mono ?_; rintro e w' ⟨rfl, rfl⟩) | (go_at_call 91; refine Hrun.out.mono ?_; rintro e w1 ⟨rfl, hb1⟩) | (go_at_call 93; refine (Hnum.out _).mono ?_; rintro e w2 ⟨rfl, hb2⟩; have hc0 := keptCell hb2 (keptBlk hb1 (heap_alloc_new w _)) 0; have hc1 := keptCell hb2 (keptBlk hb1 (heap_alloc_new w _)) 1; have hz0 := keptFrozen hb2 (keptBlk hb1 (heap_alloc_new w _)) 0; have hz1 := keptFrozen hb2 (keptBlk hb1 (heap_alloc_new w _)) 1; simp only [List.getElem?_toArray, List.getElem?_cons_succ, List.getElem?_cons_zero] at hc0 hc1))
        refine bodyPost_ret (v := TokRes v) ?_ rfl ⟨rfl, ?_⟩
        · rw [Hvv.out]
          simp [TokRes, results, Try.results72, go_sem, hc0, hc1]
        · exact stored2 (next (next boxed hb1 (Nat.le_refl _)) hb2 (Nat.le_refl _)) _ _
    · have hv3 : v = (⟨2, s.take n⟩, 0) := by rw [Hv.out]; simp [hlt]
      have Hvv := Lib.hid hv3; clear hv3 Hv
      go_enter Try.func72, Try.ntmps72
      go_wp2_with (first | (go_at_call 90; refine (letter_any _ _).mono ?_; rintro e w' ⟨rfl, rfl⟩) | (go_at_call 92; refine (digit_any _ _).mono ?_; rintro e w' ⟨rfl, rfl⟩) | (go_at_call 91; refine Hrun.out.mono ?_; rintro e w1 ⟨rfl, hb1⟩) | (go_at_call 93; refine (Hnum.out _).mono ?_; rintro e w2 ⟨rfl, hb2⟩; have hc0 := keptCell hb2 (keptBlk hb1 (heap_alloc_new w _)) 0; have hc1 := keptCell hb2 (keptBlk hb1 (heap_alloc_new w _)) 1; have hz0 := keptFrozen hb2 (keptBlk hb1 (heap_alloc_new w _)) 0; have hz1 := keptFrozen hb2 (keptBlk hb1 (heap_alloc_new w _)) 1; simp only [List.getElem?_toArray, List.getElem?_cons_succ, List.getElem?_cons_zero] at hc0 hc1))
      refine bodyPost_ret (v := TokRes v) ?_ rfl ⟨rfl, ?_⟩
      · rw [Hvv.out]
        simp [TokRes, results, Try.results72, go_sem, hc0, hc1]
      · exact stored2 (next (next boxed hb1 (Nat.le_refl _)) hb2 (Nat.le_refl _)) _ _
  · have hne : (q2 != 0) = true := by rw [bne_iff_ne]; exact he
    have hv3 : v = (⟨0, []⟩, q2) := by rw [Hv.out]; simp [he]
    have Hvv := Lib.hid hv3; clear hv3 Hv
    go_enter Try.func72, Try.ntmps72
    go_wp2_with (first | (go_at_call 90; refine (letter_any _ _).mono ?_; rintro e w' ⟨rfl, rfl⟩) | (go_at_call 92; refine (digit_any _ _).mono ?_; rintro e w' ⟨rfl, rfl⟩) | (go_at_call 91; refine Hrun.out.mono ?_; rintro e w1 ⟨rfl, hb1⟩) | (go_at_call 93; refine (Hnum.out _).mono ?_; rintro e w2 ⟨rfl, hb2⟩; have hc0 := keptCell hb2 (keptBlk hb1 (heap_alloc_new w _)) 0; have hc1 := keptCell hb2 (keptBlk hb1 (heap_alloc_new w _)) 1; have hz0 := keptFrozen hb2 (keptBlk hb1 (heap_alloc_new w _)) 0; have hz1 := keptFrozen hb2 (keptBlk hb1 (heap_alloc_new w _)) 1; simp only [List.getElem?_toArray, List.getElem?_cons_succ, List.getElem?_cons_zero] at hc0 hc1))
    refine bodyPost_ret (v := TokRes v) ?_ rfl ⟨rfl, ?_⟩
    · rw [Hvv.out]
      simp [TokRes, results, Try.results72, go_sem, hc0, hc1]
    · exact stored2 (next (next boxed hb1 (Nat.le_refl _)) hb2 (Nat.le_refl _)) _ _

theorem next_any (s : Bs) (w : World) (h0 : 0 < s.length) (hl : s.length ≤ 9223372036854775807) :
    Calls Try.prog 72 #[.string ⟨s.toArray⟩] w fun e w' => e = .returned (TokRes (nextOf symT s)) ∧ Below w.heap.size w w' := by
  cases h1 : letr s[0].toNat
  · cases h2 : digt s[0].toNat
    · exact next_symbol s w h0 hl h1 h2
    · exact next_digit s w h0 hl h1 h2
  · exact next_letter s w h0 hl h1
end Go.Proofs.Ytchdpjgncojhaaa
