/- A part of the proofs of the laws of one package; see the law's own text, which comes last in 'order'. No conditions of its own. -/
import Derived.Laws.RangeAny
import Derived.Test.YtpeamehplhpcjaaGreatDoorZ03
import Derived.Test.YtpeamehplhpcjaaGreatDoorZ04
import Derived.Test.YtpeamehplhpcjaaGreatDoorZ05
set_option linter.unusedVariables false
set_option linter.unusedSimpArgs false
namespace Go.Proofs.YtpeamehplhpcjaaGreatDoor
open Go.RowKit
theorem letter_any (c : Int) (w : World) :
    Calls Tryz.prog 190 #[.int .i32 c] w fun e w' => e = .returned (.bool (letr c)) ∧ w = w' := by
  go_enter Tryz.func190, Tryz.ntmps190
  go_wp2
  all_goals go_ret
  all_goals (simp_all [letr]; try omega)
theorem digit_any (c : Int) (w : World) :
    Calls Tryz.prog 192 #[.int .i32 c] w fun e w' => e = .returned (.bool (digt c)) ∧ w = w' := by
  go_enter Tryz.func192, Tryz.ntmps192
  go_wp2
  all_goals go_ret
  all_goals (simp_all [digt]; try omega)
def runP (names : Bool) (x : Nat) : Bool := !digt x && !(names && letr x)
theorem run1_any (names : Bool) (c : Nat) (a : Addr) (w : World) (hc : w.cell? a = some (.bool names)) :
    Calls Tryz.prog 211 #[.int .i32 c, .pointer (some a)] w fun e w' => e = .returned (.bool (runP names c)) ∧ w = w' := by
  obtain ⟨v, hv⟩ : ∃ v, v = runP names c := ⟨_, rfl⟩
  rw [← hv]
  have Hv := Lib.hid hv; clear hv
  cases hd : digt c
  · cases names
    · go_enter Tryz.func211, Tryz.ntmps211
      go_wp2_with (first | (go_at_call 190; refine (letter_any _ _).mono ?_; rintro e w' ⟨rfl, rfl⟩) | (go_at_call 192; refine (digit_any _ _).mono ?_; rintro e w' ⟨rfl, rfl⟩))
      go_ret
      exact ⟨ret_bool (by rw [Hv.out, runP, hd]; simp), rfl⟩
    · go_enter Tryz.func211, Tryz.ntmps211
      go_wp2_with (first | (go_at_call 190; refine (letter_any _ _).mono ?_; rintro e w' ⟨rfl, rfl⟩) | (go_at_call 192; refine (digit_any _ _).mono ?_; rintro e w' ⟨rfl, rfl⟩))
      go_ret
      exact ⟨ret_bool (by rw [Hv.out, runP, hd]; simp), rfl⟩
  · go_enter Tryz.func211, Tryz.ntmps211
    go_wp2_with (first | (go_at_call 190; refine (letter_any _ _).mono ?_; rintro e w' ⟨rfl, rfl⟩) | (go_at_call 192; refine (digit_any _ _).mono ?_; rintro e w' ⟨rfl, rfl⟩))
    go_ret
    exact ⟨ret_bool (by rw [Hv.out, runP, hd]; simp), rfl⟩
theorem idxFunc_from (p : Nat → Bool) (l : Bs) (hp : ∀ x, 128 ≤ x → p x = true) (f : Nat) : ∀ pos, pos ≤ l.length → l.length ≤ f + pos →
    Lib.idxFuncFrom p true ⟨l.toArray⟩ f pos = if pos + ((l.drop pos).takeWhile (fun c => !p c.toNat)).length < l.length then ((pos + ((l.drop pos).takeWhile (fun c => !p c.toNat)).length : Nat) : Int) else -1 := by
  have hsz : (ByteArray.mk l.toArray).size = l.length := by simp [ByteArray.size]
  induction f with
  | zero =>
    intro pos h1 h2
    rw [drop_end (by omega)]
    simp only [List.takeWhile_nil, List.length_nil, Nat.add_zero]
    exact (if_neg (show ¬ pos < l.length by omega)).symm
  | succ f ih =>
    intro pos h1 h2
    rw [Lib.idxFuncFrom, hsz]
    by_cases hlt : pos < l.length
    · rw [if_pos hlt, drop_get hlt, List.takeWhile_cons]
      have hg : (ByteArray.mk l.toArray)[pos]'(by rw [hsz]; exact hlt) = l[pos] := rfl
      by_cases ha : (l[pos]).toNat < 128
      · have hdec := decode_ascii ⟨l.toArray⟩ pos (by rw [hsz]; exact hlt) (by rw [hg]; exact ha)
        rw [hg] at hdec
        rw [hdec]
        by_cases hpp : p l[pos].toNat = true
        · simp only [hpp, if_true, Bool.not_true, Bool.false_eq_true, if_false, List.length_nil, Nat.add_zero]
          rw [if_pos hlt]
        · have hpf : p l[pos].toNat = false := by simpa using hpp
          simp only [hpf, Bool.false_eq_true, if_false, Bool.not_false, if_true, List.length_cons]
          rw [ih (pos + 1) (by omega) (by omega), show pos + 1 + ((l.drop (pos + 1)).takeWhile (fun c => !p c.toNat)).length = pos + (((l.drop (pos + 1)).takeWhile (fun c => !p c.toNat)).length + 1) from by omega]
      · have hhi := decode_high ⟨l.toArray⟩ pos (by rw [hsz]; exact hlt) (by rw [hg]; omega)
        rw [if_pos (hp _ hhi.1)]
        simp only [hp l[pos].toNat (by omega), Bool.not_true, Bool.false_eq_true, if_false, List.length_nil, Nat.add_zero]
        rw [if_pos hlt]
    · rw [if_neg hlt, drop_end hlt]
      simp only [List.takeWhile_nil, List.length_nil, Nat.add_zero]
      exact (if_neg hlt).symm
def runQ (names : Bool) (c : UInt8) : Bool := if names then nameB c else digB c
theorem runP_Q (names : Bool) : (fun c : UInt8 => !runP names c.toNat) = runQ names := by
  funext c
  unfold runP runQ nameB digB
  cases names <;> cases letr c.toNat <;> cases digt c.toNat <;> rfl
theorem runP_high (names : Bool) (x : Nat) (h : 128 ≤ x) : runP names x = true := by
  have h1 : digt x = false := by unfold digt; rw [Bool.and_eq_false_iff]; right; simp; omega
  have h2 : letr x = false := by unfold letr; rw [Bool.or_eq_false_iff, Bool.and_eq_false_iff]; exact ⟨.inr (by simp; omega), by rw [beq_eq_false_iff_ne]; omega⟩
  unfold runP
  rw [h1, h2]; simp
theorem idxFunc_run (names : Bool) (l : Bs) : Lib.idxFunc (runP names) true ⟨l.toArray⟩ = if (l.takeWhile (runQ names)).length < l.length then (((l.takeWhile (runQ names)).length : Nat) : Int) else -1 := by
  unfold Lib.idxFunc
  have hsz : (ByteArray.mk l.toArray).size = l.length := by simp [ByteArray.size]
  rw [idxFunc_from _ _ (runP_high names) _ 0 (by omega) (by omega), runP_Q]
  simp
set_option maxHeartbeats 1000000 in
theorem run_any (l : Bs) (names : Bool) (w : World) :
    Calls Tryz.prog 191 #[.string ⟨l.toArray⟩, .bool names] w fun e w' => e = .returned (.int .i64 ((l.takeWhile (runQ names)).length)) ∧ Below w.heap.size w w' := by
  have hle : (l.takeWhile (runQ names)).length ≤ l.length := (List.takeWhile_sublist _).length_le
  have hidx := idxFunc_run names l
  generalize hn : (l.takeWhile (runQ names)).length = n at *
  have Hn := Lib.hid hn; clear hn
  have Hidx := Lib.hid hidx; clear hidx
  go_enter Tryz.func191, Tryz.ntmps191
  go_wp2_with fail
  refine (Tryz.strings_IndexFunc_grows 211 #[.pointer (some ⟨w.heap.size, 0, none⟩)] (fun _ _ => by kernel_rfl) (runP names) ⟨l.toArray⟩ _ ?_).mono ?_
  · intro W x hx hb
    have hc := keptCell hb (heap_alloc_new w _) 0
    simp only [List.getElem?_toArray, List.getElem?_cons_zero] at hc
    refine (run1_any names x ⟨w.heap.size, 0, none⟩ W hc).mono ?_
    rintro e w' ⟨rfl, rfl⟩
    exact ⟨rfl, Below.refl _ _⟩
  · rw [Hidx.out]
    rintro e w1 ⟨rfl, hb1⟩
    by_cases hlt : n < l.length
    · rw [if_pos hlt]
      go_wp2
      go_ret
      exact ⟨rfl, next boxed hb1 (Nat.le_refl _)⟩
    · rw [if_neg hlt]
      go_wp2
      go_ret
      exact ⟨ret_int (by omega), next boxed hb1 (Nat.le_refl _)⟩
end Go.Proofs.YtpeamehplhpcjaaGreatDoor
namespace Go.Proofs.YtpeamehplhpcjaaGreatDoor
open Go.RowKit
theorem tw_all {p : UInt8 → Bool} {l : Bs} : ((l.takeWhile p).length = l.length) ↔ l.all p = true := by
  induction l with
  | nil => simp
  | cons c r ih =>
    rw [List.takeWhile_cons, List.all_cons]
    by_cases h : p c = true
    · simp [h, ih]
    · simp [h]
set_option maxRecDepth 100000 in
set_option maxHeartbeats 1000000 in
theorem number_any (l : Bs) (w : World) (hl : l.length ≤ 9223372036854775807) :
    Calls Tryz.prog 193 #[.string ⟨l.toArray⟩] w fun e w' => e = .returned (.tuple #[.int .u32 (number l).1, .int .i64 (number l).2]) ∧ Below w.heap.size w w' := by
  obtain ⟨v, hv⟩ : ∃ v, v = number l := ⟨_, rfl⟩
  rw [← hv]
  by_cases h1 : 1 ≤ l.length
  · have hq : l.isEmpty = false := by cases l with | nil => simp at h1 | cons a r => rfl
    have hrun := run_any l false w
    have hQ : runQ false = digB := rfl
    rw [hQ] at hrun
    have hle : (l.takeWhile digB).length ≤ l.length := (List.takeWhile_sublist _).length_le
    by_cases hall : l.all digB = true
    · rw [tw_all.2 hall] at hrun
      have Hrun := Lib.hid hrun; clear hrun hQ hle
      have hdig : Hid (∀ (k : Nat) (h : k < l.length), digt l[k].toNat = true) := fun k h => by
        have := List.all_eq_true.1 hall l[k] (List.getElem_mem h)
        simpa [digB] using this
      by_cases h2 : 1 < l.length ∧ l[0].toNat = 48
      · have h0 : Hid (v = (0, 4)) := by
          show v = _
          have e0 : l[0] = 48 := UInt8.toNat_inj.1 h2.2
          rw [hv, number, bad0, headD_get h1, e0]
          simp [h2.1]
        clear hv hall
        obtain ⟨h3, h4⟩ := h2
        have h4 : (((l[0].toNat : Nat) : Int) == 48) = true := by rw [h4]; rfl
        go_enter Tryz.func193, Tryz.ntmps193
        go_wp2_with (go_at_call 191; refine Hrun.out.mono ?_; rintro e w1 ⟨rfl, hb1⟩)
        go_ret2
        exact ⟨ret_tup (by rw [h0.out]; rfl) (by rw [h0.out]), hb1⟩
      · have h0 : Hid (v = tnum (l.drop 0) 0) := by
          show v = _
          have e2 : bad0 l = false := by
            unfold bad0
            rw [headD_get h1, hq, Bool.false_or, Bool.and_eq_false_iff, decide_eq_false_iff_not, beq_eq_false_iff_ne]
            by_cases h : 1 < l.length
            · exact .inr fun e => h2 ⟨h, by rw [e]; rfl⟩
            · exact .inl h
          rw [hv, number, e2, hall]; rfl
        clear hv hall
        have h4 : 1 < l.length → (((l[0].toNat : Nat) : Int) == 48) = false := fun h3 => by rw [beq_eq_false_iff_ne]; exact fun e => h2 ⟨h3, by omega⟩
        clear h2
        by_cases h3 : 1 < l.length
        all_goals
          go_enter Tryz.func193, Tryz.ntmps193
          go_wp2_with (go_at_call 191; refine Hrun.out.mono ?_; rintro e w1 ⟨rfl, hb1⟩)
          go_loopw [4] (fun x wr => ∃ (k n : Nat), k ≤ l.length ∧ n ≤ 4294967295 ∧ x = .int .u64 n ∧ wr = w1.iter ⟨l.toArray⟩ k ∧ Hid (v = tnum (l.drop k) n)) (fun _ wr => l.length - wr.iterPos w1.heap.size)
          case atStart => exact ⟨0, 0, by omega, by omega, rfl, rfl, h0⟩
          case round =>
            obtain ⟨k, n, hk, hn, rfl, rfl, hf⟩ := hrel
            have hsz : (ByteArray.mk l.toArray).size = l.length := by simp [ByteArray.size]
            have hfin : Below w.heap.size w (w1.iter ⟨l.toArray⟩ (k + 1)) := hb1.alloc hb1.size _
            have Hfin := Lib.hid hfin; clear hfin
            by_cases hlt : k < l.length
            · have hdg := hdig.out k hlt
              have hb : 48 ≤ (l[k].toNat : Int) ∧ (l[k].toNat : Int) ≤ 57 := by simpa [digt] using hdg
              obtain ⟨hb2, hb3⟩ := hb
              have hnx : ∀ ty, (Instr.next (.pointer (some ⟨w1.heap.size, 0, none⟩)) true ty).run Tryz.prog (w1.iter ⟨l.toArray⟩ k) = .ok (.tuple #[.bool true, .int .i64 k, .int .i32 l[k].toNat]) (w1.iter ⟨l.toArray⟩ (k + 1)) :=
                fun ty => run_next_ascii w1 ⟨l.toArray⟩ k ty (by rw [hsz]; exact hlt) (by show l[k].toNat < 128; omega)
              clear hdg hsz
              by_cases hbig : (4294967295 : Int) < 10 * n + (l[k].toNat - 48)
              · have hd : Hid (v = (0, 3)) := by
                  show v = _
                  rw [hf.out, drop_get hlt, tnum, if_pos (by omega)]
                clear hf
                go_wp2
                go_ret2
                exact ⟨ret_tup (by rw [hd.out]; rfl) (by rw [hd.out]), Hfin.out⟩
              · have hd : Hid (v = tnum (l.drop (k + 1)) (10 * n + (l[k].toNat - 48))) := by
                  show v = _
                  rw [hf.out, drop_get hlt, tnum, if_neg (by omega)]
                clear hf
                go_wp2
                go_roundw
                case rel => exact ⟨k + 1, 10 * n + (l[k].toNat - 48), by omega, by omega, by go_num, rfl, hd⟩
                case measure => simp; omega
            · have hnx : ∀ ty, (Instr.next (.pointer (some ⟨w1.heap.size, 0, none⟩)) true ty).run Tryz.prog (w1.iter ⟨l.toArray⟩ k) = .ok (.tuple #[.bool false]) (w1.iter ⟨l.toArray⟩ k) :=
                fun ty => run_next_end w1 ⟨l.toArray⟩ k ty (by rw [hsz]; exact hlt)
              have hd : Hid (v = (n, 0)) := by
                show v = _
                rw [hf.out, drop_end hlt, tnum]
              clear hf hsz
              have hfin2 : Below w.heap.size w (w1.iter ⟨l.toArray⟩ k) := hb1.alloc hb1.size _
              have Hfin2 := Lib.hid hfin2; clear hfin2
              go_wp2
              go_ret2
              exact ⟨ret_tup (by rw [hd.out]) (by rw [hd.out]), Hfin2.out⟩
    · have h0 : Hid (v = (0, 4)) := by
        show v = _
        have : l.all digB = false := by simpa using hall
        rw [hv, number, this]; simp
      have hne : (l.takeWhile digB).length < l.length := by
        rcases Nat.lt_or_ge (l.takeWhile digB).length l.length with h | h
        · exact h
        · exact absurd (tw_all.1 (by omega)) hall
      clear hv hall
      generalize (l.takeWhile digB).length = m at *
      have Hrun := Lib.hid hrun; clear hrun hQ hle
      have hneq : ((m : Int) != l.length) = true := by rw [bne_iff_ne]; omega
      go_enter Tryz.func193, Tryz.ntmps193
      go_wp2_with (go_at_call 191; refine Hrun.out.mono ?_; rintro e w1 ⟨rfl, hb1⟩)
      go_ret2
      exact ⟨ret_tup (by rw [h0.out]; rfl) (by rw [h0.out]), hb1⟩
  · have h0 : Hid (v = (0, 4)) := by
      show v = _
      rw [hv]; unfold number bad0
      cases l with
      | nil => rfl
      | cons a r => simp at h1
    have hq : l.isEmpty = true := by cases l with | nil => rfl | cons a r => simp at h1
    clear hv
    go_enter Tryz.func193, Tryz.ntmps193
    go_wp2
    go_ret2
    exact ⟨ret_tup (by rw [h0.out]; rfl) (by rw [h0.out]), Below.refl _ _⟩
end Go.Proofs.YtpeamehplhpcjaaGreatDoor
namespace Go.Proofs.YtpeamehplhpcjaaGreatDoor
open Go.RowKit
theorem indexByte_pos (l : Bs) (c : UInt8) : (0 ≤ Lib.indexByte l c) ↔ l.contains c = true := by
  induction l with
  | nil => simp [Lib.indexByte]
  | cons a r ih =>
    rw [Lib.indexByte, List.contains_cons]
    have hge := Lib.indexByte_ge r c
    by_cases h : a = c
    · subst h; simp
    · have h1 : (a == c) = false := by simpa using h
      have h2 : (c == a) = false := by simpa using fun e => h e.symm
      rw [h1, h2, Bool.false_or, ← ih]
      simp only [Bool.false_eq_true, if_false]
      by_cases h3 : Lib.indexByte r c = -1
      · simp [h3]
      · have : (Lib.indexByte r c == -1) = false := by simpa using h3
        rw [this]
        simp only [Bool.false_eq_true, if_false]
        omega
set_option maxRecDepth 100000 in
set_option maxHeartbeats 1000000 in
theorem symbol_any (l : Bs) (w : World) (hl : l.length ≤ 9223372036854775807) :
    Calls Tryz.prog 194 #[.string ⟨l.toArray⟩] w fun e w' => e = .returned (.string ⟨(symT l).toArray⟩) ∧ w = w' := by
  obtain ⟨v, hv⟩ : ∃ v, v = symT l := ⟨_, rfl⟩
  rw [← hv]
  by_cases h2 : 1 < l.length ∧ syms2.contains (l.take 2) = true
  · obtain ⟨h1, h2⟩ := h2
    have hv2 : Hid (v = l.take 2) := by
      show v = _
      rw [hv, symT, h2, decide_eq_true h1]; rfl
    clear hv
    have h3 : l.take 2 ∈ syms2 := by simpa using h2
    clear h2
    simp only [syms2, List.mem_cons, List.not_mem_nil, or_false] at h3
    rcases h3 with h3 | h3 | h3 | h3 | h3 | h3 | h3 | h3
    all_goals
      have h0 := hv2.out
      rw [h3] at h0
      have H0 := Lib.hid h0; clear h0 hv2
      go_enter Tryz.func194, Tryz.ntmps194
      go_wp2
      go_ret
      exact ⟨ret_str H0.out, rfl⟩
  · have hv2 : Hid (v = if !l.isEmpty && syms1.contains (l.headD 0) then l.take 1 else []) := by
      show v = _
      have : (decide (1 < l.length) && syms2.contains (l.take 2)) = false := by
        rw [Bool.and_eq_false_iff, decide_eq_false_iff_not]
        by_cases h : 1 < l.length
        · exact .inr (by rw [← Bool.not_eq_true]; exact fun h' => h2 ⟨h, h'⟩)
        · exact .inl h
      rw [hv, symT, this]; rfl
    clear hv
    by_cases h1 : 1 < l.length
    · have h3 : ∀ x ∈ syms2, (l.take 2 == x) = false := by
        intro x hx
        rw [beq_eq_false_iff_ne]
        intro e
        exact h2 ⟨h1, by rw [e]; simpa using hx⟩
      clear h2
      simp only [syms2, List.mem_cons, List.not_mem_nil, or_false, forall_eq_or_imp, forall_eq] at h3
      obtain ⟨q1, q2, q3, q4, q5, q6, q7, q8⟩ := h3
      have hz : 0 < l.length := by omega
      have hq : l.isEmpty = false := by cases l with | nil => simp at h1 | cons a r => rfl
      rw [headD_get hz, hq] at hv2
      have hib := indexByte_pos syms1 l[0]
      have hix := Tryz.strings_IndexByte ⟨syms1.toArray⟩ l[0].toNat w
      have hcv : ((l[0].toNat : Int)).toNat.toUInt8 = l[0] := by simp
      rw [hcv] at hix
      have he : (ByteArray.mk syms1.toArray).data.toList = syms1 := rfl
      rw [he] at hix
      generalize hcc : syms1.contains l[0] = cc at *
      generalize hix' : Lib.indexByte syms1 l[0] = ix at *
      clear hcv hcc he hix'
      have Hix := Lib.hid hix; clear hix
      cases cc
      · have hneg : ix < 0 := by have : ¬ 0 ≤ ix := fun h => by simpa using hib.1 h
                                 omega
        have H0 : Hid (v = []) := hv2
        clear hib hv2
        go_enter Tryz.func194, Tryz.ntmps194
        go_wp2_with (go_at_call 212; refine Hix.out.mono ?_; rintro e w' ⟨rfl, rfl⟩)
        go_ret
        exact ⟨ret_str H0.out, rfl⟩
      · have hpos : 0 ≤ ix := hib.2 rfl
        have H0 : Hid (v = l.take 1) := hv2
        clear hib hv2
        go_enter Tryz.func194, Tryz.ntmps194
        go_wp2_with (go_at_call 212; refine Hix.out.mono ?_; rintro e w' ⟨rfl, rfl⟩)
        go_ret
        exact ⟨ret_str H0.out, rfl⟩
    · clear h2
      by_cases hz : 0 < l.length
      · have hq : l.isEmpty = false := by cases l with | nil => simp at hz | cons a r => rfl
        rw [headD_get hz, hq] at hv2
        have hib := indexByte_pos syms1 l[0]
        have hix := Tryz.strings_IndexByte ⟨syms1.toArray⟩ l[0].toNat w
        have hcv : ((l[0].toNat : Int)).toNat.toUInt8 = l[0] := by simp
        rw [hcv] at hix
        have he : (ByteArray.mk syms1.toArray).data.toList = syms1 := rfl
        rw [he] at hix
        generalize hcc : syms1.contains l[0] = cc at *
        generalize hix' : Lib.indexByte syms1 l[0] = ix at *
        clear hcv hcc he hix'
        have Hix := Lib.hid hix; clear hix
        cases cc
        · have hneg : ix < 0 := by have : ¬ 0 ≤ ix := fun h => by simpa using hib.1 h
                                   omega
          have H0 : Hid (v = []) := hv2
          clear hib hv2
          go_enter Tryz.func194, Tryz.ntmps194
          go_wp2_with (go_at_call 212; refine Hix.out.mono ?_; rintro e w' ⟨rfl, rfl⟩)
          go_ret
          exact ⟨ret_str H0.out, rfl⟩
        · have hpos : 0 ≤ ix := hib.2 rfl
          have H0 : Hid (v = l.take 1) := hv2
          clear hib hv2
          go_enter Tryz.func194, Tryz.ntmps194
          go_wp2_with (go_at_call 212; refine Hix.out.mono ?_; rintro e w' ⟨rfl, rfl⟩)
          go_ret
          exact ⟨ret_str H0.out, rfl⟩
      · obtain rfl : l = [] := List.eq_nil_of_length_eq_zero (by omega)
        have H0 : Hid (v = []) := hv2
        clear hv2
        go_enter Tryz.func194, Tryz.ntmps194
        go_wp2
        go_ret
        exact ⟨ret_str H0.out, rfl⟩
end Go.Proofs.YtpeamehplhpcjaaGreatDoor
namespace Go.Proofs.YtpeamehplhpcjaaGreatDoor
open Go.RowKit
theorem stored2 {w w1 : World} (h : Below w.heap.size w w1) (u v : Value) : Below w.heap.size w ((w1.setCell ⟨w.heap.size, 0, none⟩ u).setCell ⟨w.heap.size, 1, none⟩ v) :=
  (h.setCell (p := ⟨w.heap.size, 0, none⟩) (Nat.le_refl _) _).setCell (p := ⟨w.heap.size, 1, none⟩) (Nat.le_refl _) _
theorem runQ_true : runQ true = nameB := rfl
set_option maxRecDepth 100000 in
set_option maxHeartbeats 1000000 in
theorem next_letter (s : Bs) (w : World) (h0 : 0 < s.length) (hl : s.length ≤ 9223372036854775807) (h1 : letr s[0].toNat = true) :
    Calls Tryz.prog 153 #[.string ⟨s.toArray⟩] w fun e w' => e = .returned (TokRes (nextOf symT s)) ∧ Below w.heap.size w w' := by
  obtain ⟨v, hv⟩ : ∃ v, v = nextOf symT s := ⟨_, rfl⟩
  rw [← hv]
  have Hv : Hid (v = if 32 < (s.takeWhile nameB).length then (⟨0, []⟩, 2) else (⟨1, s.take (s.takeWhile nameB).length⟩, 0)) := hv.trans (next_letr _ h0 h1)
  clear hv
  have hrun := run_any s true (w.alloc (Obj.cells #[Value.int IntKind.i64 0, Value.string { data := #[] }] 140))
  rw [runQ_true] at hrun
  have hle : (s.takeWhile nameB).length ≤ s.length := (List.takeWhile_sublist _).length_le
  generalize (s.takeWhile nameB).length = n at *
  have Hrun := Lib.hid hrun; clear hrun
  have hby := byte_le s[0]
  by_cases hbig : 32 < n
  · have hvv : v = (⟨0, []⟩, 2) := by rw [Hv.out, if_pos hbig]
    have Hvv := Lib.hid hvv; clear hvv Hv
    go_enter Tryz.func153, Tryz.ntmps153
    go_wp2_with (first | (go_at_call 190; refine (letter_any _ _).mono ?_; rintro e w' ⟨rfl, rfl⟩) | (go_at_call 191; refine Hrun.out.mono ?_; rintro e w1 ⟨rfl, hb1⟩; have hc0 := keptCell hb1 (heap_alloc_new w _) 0; have hc1 := keptCell hb1 (heap_alloc_new w _) 1; have hz0 := keptFrozen hb1 (heap_alloc_new w _) 0; have hz1 := keptFrozen hb1 (heap_alloc_new w _) 1; simp only [List.getElem?_toArray, List.getElem?_cons_succ, List.getElem?_cons_zero] at hc0 hc1))
    refine bodyPost_ret (v := TokRes v) ?_ rfl ⟨rfl, ?_⟩
    · rw [Hvv.out]
      simp [TokRes, results, Tryz.results153, go_sem, hc0, hc1]
    · exact stored2 (next boxed hb1 (Nat.le_refl _)) _ _
  · have hvv : v = (⟨1, s.take n⟩, 0) := by rw [Hv.out, if_neg hbig]
    have Hvv := Lib.hid hvv; clear hvv Hv
    go_enter Tryz.func153, Tryz.ntmps153
    go_wp2_with (first | (go_at_call 190; refine (letter_any _ _).mono ?_; rintro e w' ⟨rfl, rfl⟩) | (go_at_call 191; refine Hrun.out.mono ?_; rintro e w1 ⟨rfl, hb1⟩; have hc0 := keptCell hb1 (heap_alloc_new w _) 0; have hc1 := keptCell hb1 (heap_alloc_new w _) 1; have hz0 := keptFrozen hb1 (heap_alloc_new w _) 0; have hz1 := keptFrozen hb1 (heap_alloc_new w _) 1; simp only [List.getElem?_toArray, List.getElem?_cons_succ, List.getElem?_cons_zero] at hc0 hc1))
    refine bodyPost_ret (v := TokRes v) ?_ rfl ⟨rfl, ?_⟩
    · rw [Hvv.out]
      simp [TokRes, results, Tryz.results153, go_sem, hc0, hc1]
    · exact stored2 (next boxed hb1 (Nat.le_refl _)) _ _
set_option maxRecDepth 100000 in
set_option maxHeartbeats 1000000 in
theorem next_symbol (s : Bs) (w : World) (h0 : 0 < s.length) (hl : s.length ≤ 9223372036854775807) (h1 : letr s[0].toNat = false) (h2 : digt s[0].toNat = false) :
    Calls Tryz.prog 153 #[.string ⟨s.toArray⟩] w fun e w' => e = .returned (TokRes (nextOf symT s)) ∧ Below w.heap.size w w' := by
  obtain ⟨v, hv⟩ : ∃ v, v = nextOf symT s := ⟨_, rfl⟩
  rw [← hv]
  have Hv := Lib.hid (hv.trans (next_symb _ h0 h1 h2))
  clear hv
  have hsym := symbol_any s (w.alloc (Obj.cells #[Value.int IntKind.i64 0, Value.string { data := #[] }] 140)) hl
  generalize symT s = y at *
  have Hsym := Lib.hid hsym; clear hsym
  have hby := byte_le s[0]
  cases hy : y.isEmpty
  · have hvv : v = (⟨3, y⟩, 0) := by rw [Hv.out, hy]; rfl
    have Hvv := Lib.hid hvv; clear hvv Hv
    go_enter Tryz.func153, Tryz.ntmps153
    go_wp2_with (first | (go_at_call 190; refine (letter_any _ _).mono ?_; rintro e w' ⟨rfl, rfl⟩) | (go_at_call 192; refine (digit_any _ _).mono ?_; rintro e w' ⟨rfl, rfl⟩) | (go_at_call 194; refine Hsym.out.mono ?_; rintro e w' ⟨rfl, rfl⟩))
    refine bodyPost_ret (v := TokRes v) ?_ rfl ⟨rfl, boxed⟩
    rw [Hvv.out]
    simp [TokRes, results, Tryz.results153, go_sem]
  · have hvv : v = (⟨0, []⟩, 4) := by rw [Hv.out, hy]; rfl
    have Hvv := Lib.hid hvv; clear hvv Hv
    go_enter Tryz.func153, Tryz.ntmps153
    go_wp2_with (first | (go_at_call 190; refine (letter_any _ _).mono ?_; rintro e w' ⟨rfl, rfl⟩) | (go_at_call 192; refine (digit_any _ _).mono ?_; rintro e w' ⟨rfl, rfl⟩) | (go_at_call 194; refine Hsym.out.mono ?_; rintro e w' ⟨rfl, rfl⟩))
    refine bodyPost_ret (v := TokRes v) ?_ rfl ⟨rfl, boxed⟩
    rw [Hvv.out]
    simp [TokRes, results, Tryz.results153, go_sem]
set_option maxRecDepth 100000 in
set_option maxHeartbeats 2000000 in
theorem next_digit (s : Bs) (w : World) (h0 : 0 < s.length) (hl : s.length ≤ 9223372036854775807) (h1 : letr s[0].toNat = false) (h2 : digt s[0].toNat = true) :
    Calls Tryz.prog 153 #[.string ⟨s.toArray⟩] w fun e w' => e = .returned (TokRes (nextOf symT s)) ∧ Below w.heap.size w w' := by
  obtain ⟨v, hv⟩ : ∃ v, v = nextOf symT s := ⟨_, rfl⟩
  rw [← hv]
  have hv1 := hv.trans (next_digt _ h0 h1 h2)
  clear hv
  have hrun := run_any s false (w.alloc (Obj.cells #[Value.int IntKind.i64 0, Value.string { data := #[] }] 140))
  rw [show runQ false = digB from rfl] at hrun
  have hle : (s.takeWhile digB).length ≤ s.length := (List.takeWhile_sublist _).length_le
  generalize (s.takeWhile digB).length = n at *
  have Hrun := Lib.hid hrun; clear hrun
  have hnum := fun w => number_any (s.take n) w (by rw [List.length_take]; omega)
  simp only at hv1
  generalize hq : number (s.take n) = q at *
  obtain ⟨q1, q2⟩ := q
  clear hq
  have Hnum := Lib.hid hnum; clear hnum
  have Hv := Lib.hid hv1; clear hv1
  have hby := byte_le s[0]
  by_cases he : q2 = 0
  · subst he
    by_cases hlt : n < s.length
    · have hby2 := byte_le s[n]
      have hg : (s.drop n).headD 0 = s[n] := by rw [drop_get hlt]; rfl
      have Hg := Lib.hid hg; clear hg
      by_cases hle2 : letr s[n].toNat = true
      · have hv3 : v = (⟨0, []⟩, 4) := by rw [Hv.out]; simp [hlt, hle2]
        have Hvv := Lib.hid hv3; clear hv3 Hv
        go_enter Tryz.func153, Tryz.ntmps153
        go_wp2_with (first | (go_at_call 190; refine (letter_any _ _).mono ?_; rintro e w' ⟨rfl, rfl⟩) | (go_at_call 192; refine (digit_any _ _).mono ?_; rintro e w' ⟨rfl, rfl⟩) | (go_at_call 191; refine Hrun.out.mono ?_; rintro e w1 ⟨rfl, hb1⟩) | (go_at_call 193; refine (Hnum.out _).mono ?_; rintro e w2 ⟨rfl, hb2⟩; have hc0 := keptCell hb2 (keptBlk hb1 (heap_alloc_new w _)) 0; have hc1 := keptCell hb2 (keptBlk hb1 (heap_alloc_new w _)) 1; have hz0 := keptFrozen hb2 (keptBlk hb1 (heap_alloc_new w _)) 0; have hz1 := keptFrozen hb2 (keptBlk hb1 (heap_alloc_new w _)) 1; simp only [List.getElem?_toArray, List.getElem?_cons_succ, List.getElem?_cons_zero] at hc0 hc1))
        refine bodyPost_ret (v := TokRes v) ?_ rfl ⟨rfl, ?_⟩
        · rw [Hvv.out]
          simp [TokRes, results, Tryz.results153, go_sem, hc0, hc1]
        · exact stored2 (next (next boxed hb1 (Nat.le_refl _)) hb2 (Nat.le_refl _)) _ _
      · have hv3 : v = (⟨2, s.take n⟩, 0) := by rw [Hv.out]; simp [hlt, hle2]
        have Hvv := Lib.hid hv3; clear hv3 Hv
        go_enter Tryz.func153, Tryz.ntmps153
        go_wp2_with (first | (go_at_call 190; refine (letter_any _ _).mono ?_; rintro e w' ⟨rfl, rfl⟩) | (go_at_call 192; refine (digit_any _ _).mono ?_; rintro e w' ⟨rfl, rfl⟩) | (go_at_call 191; refine Hrun.out.mono ?_; rintro e w1 ⟨rfl, hb1⟩) | (go_at_call 193; refine (Hnum.out _).mono ?_; rintro e w2 ⟨rfl, hb2⟩; have hc0 := keptCell hb2 (keptBlk hb1 (heap_alloc_new w _)) 0; have hc1 := keptCell hb2 (keptBlk hb1 (heap_alloc_new w _)) 1; have hz0 := keptFrozen hb2 (keptBlk hb1 (heap_alloc_new w _)) 0; have hz1 := keptFrozen hb2 (keptBlk hb1 (heap_alloc_new w _)) 1; simp only [List.getElem?_toArray, List.getElem?_cons_succ, List.getElem?_cons_zero] at hc0 hc1))
        refine bodyPost_ret (v := TokRes v) ?_ rfl ⟨rfl, ?_⟩
        · rw [Hvv.out]
          simp [TokRes, results, Tryz.results153, go_sem, hc0, hc1]
        · exact stored2 (next (next boxed hb1 (Nat.le_refl _)) hb2 (Nat.le_refl _)) _ _
    · have hv3 : v = (⟨2, s.take n⟩, 0) := by rw [Hv.out]; simp [hlt]
      have Hvv := Lib.hid hv3; clear hv3 Hv
      go_enter Tryz.func153, Tryz.ntmps153
      go_wp2_with (first | (go_at_call 190; refine (letter_any _ _).mono ?_; rintro e w' ⟨rfl, rfl⟩) | (go_at_call 192; refine (digit_any _ _).mono ?_; rintro e w' ⟨rfl, rfl⟩) | (go_at_call 191; refine Hrun.out.mono ?_; rintro e w1 ⟨rfl, hb1⟩) | (go_at_call 193; refine (Hnum.out _).mono ?_; rintro e w2 ⟨rfl, hb2⟩; have hc0 := keptCell hb2 (keptBlk hb1 (heap_alloc_new w _)) 0; have hc1 := keptCell hb2 (keptBlk hb1 (heap_alloc_new w _)) 1; have hz0 := keptFrozen hb2 (keptBlk hb1 (heap_alloc_new w _)) 0; have hz1 := keptFrozen hb2 (keptBlk hb1 (heap_alloc_new w _)) 1; simp only [List.getElem?_toArray, List.getElem?_cons_succ, List.getElem?_cons_zero] at hc0 hc1))
      refine bodyPost_ret (v := TokRes v) ?_ rfl ⟨rfl, ?_⟩
      · rw [Hvv.out]
        simp [TokRes, results, Tryz.results153, go_sem, hc0, hc1]
      · exact stored2 (next (next boxed hb1 (Nat.le_refl _)) hb2 (Nat.le_refl _)) _ _
  · have hne : (q2 != 0) = true := by rw [bne_iff_ne]; exact he
    have hv3 : v = (⟨0, []⟩, q2) := by rw [Hv.out]; simp [he]
    have Hvv := Lib.hid hv3; clear hv3 Hv
    go_enter Tryz.func153, Tryz.ntmps153
    go_wp2_with (first | (go_at_call 190; refine (letter_any _ _).mono ?_; rintro e w' ⟨rfl, rfl⟩) | (go_at_call 192; refine (digit_any _ _).mono ?_; rintro e w' ⟨rfl, rfl⟩) | (go_at_call 191; refine Hrun.out.mono ?_; rintro e w1 ⟨rfl, hb1⟩) | (go_at_call 193; refine (Hnum.out _).mono ?_; rintro e w2 ⟨rfl, hb2⟩; have hc0 := keptCell hb2 (keptBlk hb1 (heap_alloc_new w _)) 0; have hc1 := keptCell hb2 (keptBlk hb1 (heap_alloc_new w _)) 1; have hz0 := keptFrozen hb2 (keptBlk hb1 (heap_alloc_new w _)) 0; have hz1 := keptFrozen hb2 (keptBlk hb1 (heap_alloc_new w _)) 1; simp only [List.getElem?_toArray, List.getElem?_cons_succ, List.getElem?_cons_zero] at hc0 hc1))
    refine bodyPost_ret (v := TokRes v) ?_ rfl ⟨rfl, ?_⟩
    · rw [Hvv.out]
      simp [TokRes, results, Tryz.results153, go_sem, hc0, hc1]
    · exact stored2 (next (next boxed hb1 (Nat.le_refl _)) hb2 (Nat.le_refl _)) _ _
theorem next_any (s : Bs) (w : World) (h0 : 0 < s.length) (hl : s.length ≤ 9223372036854775807) :
    Calls Tryz.prog 153 #[.string ⟨s.toArray⟩] w fun e w' => e = .returned (TokRes (nextOf symT s)) ∧ Below w.heap.size w w' := by
  cases h1 : letr s[0].toNat
  · cases h2 : digt s[0].toNat
    · exact next_symbol s w h0 hl h1 h2
    · exact next_digit s w h0 hl h1 h2
  · exact next_letter s w h0 hl h1
end Go.Proofs.YtpeamehplhpcjaaGreatDoor
namespace Go.Proofs.YtpeamehplhpcjaaGreatDoor
open Go.RowKit
set_option maxHeartbeats 1000000 in
theorem valid_any (t : Tok) (w : World) (hl : t.text.length ≤ 9223372036854775807) :
    Calls Tryz.prog 111 #[.agg #[.int .i64 t.kind, .string ⟨t.text.toArray⟩]] w fun e w' => e = .returned (.bool (validT t)) ∧ Below w.heap.size w w' := by
  obtain ⟨k, tx⟩ := t
  obtain ⟨v, hv⟩ : ∃ v, v = validT ⟨k, tx⟩ := ⟨_, rfl⟩
  rw [← hv]
  unfold validT at hv
  simp only at hv hl ⊢
  cases he : tx.isEmpty
  · have h0 : 0 < tx.length := by cases tx with | nil => simp at he | cons a r => simp
    rw [he] at hv
    have hnx := fun w => next_any tx w h0 hl
    generalize nextOf symT tx = q at *
    obtain ⟨⟨qk, qt⟩, qe⟩ := q
    unfold TokRes at hnx
    simp only at hnx hv
    have Hnx := Lib.hid hnx; clear hnx
    have Hv := Lib.hid hv; clear hv
    by_cases hq : qe = 0
    · subst hq
      go_enter Tryz.func111, Tryz.ntmps111
      go_wp2_with (go_at_call 153; refine (Hnx.out _).mono ?_; rintro e w1 ⟨rfl, hb1⟩; have hc0 := keptCell hb1 (heap_alloc_new w _) 0; have hc1 := keptCell hb1 (heap_alloc_new w _) 1; simp only [List.getElem?_toArray, List.getElem?_cons_succ, List.getElem?_cons_zero] at hc0 hc1; have hsz1 : w.heap.size < w1.heap.size := by (have := hb1.size; simp at this; omega))
      go_ret
      refine ⟨ret_bool ?_, ((next boxed hb1 (Nat.le_refl _)).alloc (by have := hb1.size; simp at this; omega) _)⟩
      rw [Hv.out]
      rw [show ((⟨qk, qt⟩ : Tok) == ⟨k, tx⟩) = decide ((⟨qk, qt⟩ : Tok) = ⟨k, tx⟩) from rfl]
      simp
    · have hq' : (qe == 0) = false := by simpa using hq
      go_enter Tryz.func111, Tryz.ntmps111
      go_wp2_with (go_at_call 153; refine (Hnx.out _).mono ?_; rintro e w1 ⟨rfl, hb1⟩; have hc0 := keptCell hb1 (heap_alloc_new w _) 0; have hc1 := keptCell hb1 (heap_alloc_new w _) 1; simp only [List.getElem?_toArray, List.getElem?_cons_succ, List.getElem?_cons_zero] at hc0 hc1; have hsz1 : w.heap.size < w1.heap.size := by (have := hb1.size; simp at this; omega))
      go_ret
      refine ⟨ret_bool ?_, ((next boxed hb1 (Nat.le_refl _)).alloc (by have := hb1.size; simp at this; omega) _)⟩
      rw [Hv.out, hq']; rfl
  · rw [he] at hv
    have Hv := Lib.hid hv; clear hv
    go_enter Tryz.func111, Tryz.ntmps111
    go_wp2
    go_ret
    exact ⟨ret_bool (by rw [Hv.out]; rfl), boxed⟩
set_option maxHeartbeats 1000000 in
theorem name_any (s : Bs) (w : World) (hl : s.length ≤ 9223372036854775807) :
    Calls Tryz.prog 84 #[.string ⟨s.toArray⟩] w fun e w' => e = .returned (.bool (nameT s)) ∧ Below w.heap.size w w' := by
  obtain ⟨v, hv⟩ : ∃ v, v = nameT s := ⟨_, rfl⟩
  rw [← hv]
  unfold nameT at hv
  by_cases hk : kws.contains s = true
  · rw [hk] at hv
    have Hv := Lib.hid hv; clear hv
    have h3 : s ∈ kws := by simpa using hk
    clear hk
    simp only [kws, List.mem_cons, List.not_mem_nil, or_false] at h3
    rcases h3 with h3 | h3 | h3 | h3 | h3 | h3 | h3 | h3 | h3 | h3 | h3 | h3 | h3 | h3 | h3 | h3 | h3 | h3 | h3 | h3 | h3 | h3
    all_goals
      subst h3
      go_enter Tryz.func84, Tryz.ntmps84
      go_wp2
      go_ret
      exact ⟨ret_bool (by rw [Hv.out]; rfl), Below.refl _ _⟩
  · have h3 : ∀ x ∈ kws, (s == x) = false := by
      intro x hx
      rw [beq_eq_false_iff_ne]
      rintro rfl
      exact hk (by simpa using hx)
    rw [Bool.not_eq_true] at hk
    rw [hk] at hv
    have Hv := Lib.hid hv; clear hv hk
    simp only [kws, List.mem_cons, List.not_mem_nil, or_false, forall_eq_or_imp, forall_eq] at h3
    obtain ⟨q1, q2, q3, q4, q5, q6, q7, q8, q9, q10, q11, q12, q13, q14, q15, q16, q17, q18, q19, q20, q21, q22⟩ := h3
    go_enter Tryz.func84, Tryz.ntmps84
    go_wp2_with (go_at_call 111; refine (valid_any ⟨1, s⟩ _ hl).mono ?_; rintro e w1 ⟨rfl, hb1⟩)
    go_ret
    exact ⟨ret_bool (by rw [Hv.out]; rfl), hb1⟩
end Go.Proofs.YtpeamehplhpcjaaGreatDoor
