/- Tokens: the walk of token.symbol. -/
import Derived.Test.YtchdpjgncojhaaaTokP1
set_option linter.unusedVariables false
set_option linter.unusedSimpArgs false
namespace Go.Proofs.Ytchdpjgncojhaaa
open Go.RowKit

theorem indexByte_pos (l : Bs) (c : UInt8) : (0 ≤ Lib.indexByte l c) ↔ l.contains c = true := by
  induction l with
  | nil => simp [Lib.indexByte]
  | cons a r ih =>
    rw [Lib.indexByte, List.contains_cons]
    have hge := Lib.indexByte_ge r c
    by_cases h : a = c
    · subst h; simp
    · have h1 : (a == c) = false := by simpa using h
      have h2 : (c == a) = false := by simpa using fun e => h e.symm
      rw [h1, h2, Bool.false_or, ← ih]
      simp only [Bool.false_eq_true, if_false]
      by_cases h3 : Lib.indexByte r c = -1
      · simp [h3]
      · have : (Lib.indexByte r c == -1) = false := by simpa using h3
        rw [this]
        simp only [Bool.false_eq_true, if_false]
        omega

set_option maxRecDepth 100000 in
set_option maxHeartbeats 1000000 in
theorem symbol_any (l : Bs) (w : World) (hl : l.length ≤ 9223372036854775807) :
    Calls Try.prog 94 #[.string ⟨l.toArray⟩] w fun e w' => e = .returned (.string ⟨(symT l).toArray⟩) ∧ w = w' := by
  obtain ⟨v, hv⟩ : ∃ v, v = symT l := ⟨_, rfl⟩
  rw [← hv]
  by_cases h2 : 1 < l.length ∧ syms2.contains (l.take 2) = true
  · obtain ⟨h1, h2⟩ := h2
    have hv2 : Hid (v = l.take 2) := by
      show v = _
      rw [hv, symT, h2, decide_eq_true h1]; rfl
    clear hv
    have h3 : l.take 2 ∈ syms2 := by simpa using h2
    clear h2
    simp only [syms2, List.mem_cons, List.not_mem_nil, or_false] at h3
    rcases h3 with h3 | h3 | h3 | h3 | h3 | h3 | h3 | h3
    all_goals
      have h0 := hv2.out
      rw [h3] at h0
      have H0 := Lib.hid h0; clear h0 hv2
      go_enter Try.func94, Try.ntmps94
      go_wp2
      go_ret
      exact ⟨ret_str H0.out, rfl⟩
  · have hv2 : Hid (v = if !l.isEmpty && syms1.contains (l.headD 0) then l.take 1 else []) := by
      show v = _
      have : (decide (1 < l.length) && syms2.contains (l.take 2)) = false := by
        rw [Bool.and_eq_false_iff, decide_eq_false_iff_not]
        by_cases h : 1 < l.length
        · exact .inr (by rw [← Bool.not_eq_true]; exact fun h' => h2 ⟨h, h'⟩)
        · exact .inl h
      rw [hv, symT, this]; rfl
    clear hv
    by_cases h1 : 1 < l.length
    · have h3 : ∀ x ∈ syms2, (l.take 2 == x) = false := by
        intro x hx
        rw [beq_eq_false_iff_ne]
        intro e
        exact h2 ⟨h1, by rw [e]; simpa using hx⟩
      clear h2
      simp only [syms2, List.mem_cons, List.not_mem_nil, or_false, forall_eq_or_imp, forall_eq] at h3
      obtain ⟨q1, q2, q3, q4, q5, q6, q7, q8⟩ := h3
      have hz : 0 < l.length := by omega
      have hq : l.isEmpty = false := by cases l with | nil => simp at h1 | cons a r => rfl
      rw [headD_get hz, hq] at hv2
      have hib := indexByte_pos syms1 l[0]
      have hix := Try.strings_IndexByte ⟨syms1.toArray⟩ l[0].toNat w
      have hcv : ((l[0].toNat : Int)).toNat.toUInt8 = l[0] := by simp
      rw [hcv] at hix
      have he : (ByteArray.mk syms1.toArray).data.toList = syms1 := rfl
      rw [he] at hix
      generalize hcc : syms1.contains l[0] = cc at *
      generalize hix' : Lib.indexByte syms1 l[0] = ix at *
      clear hcv hcc he hix'
      have Hix := Lib.hid hix; clear hix
      cases cc
      · have hneg : ix < 0 := by have : ¬ 0 ≤ ix := fun h => by simpa using hib.1 h
                                 omega
        have H0 : Hid (v = []) := hv2
        clear hib hv2
        go_enter Try.func94, Try.ntmps94
        go_wp2_with (go_at_call 106; refine Hix.out.mono ?_; rintro e w' ⟨rfl, rfl⟩)
        go_ret
        exact ⟨ret_str H0.out, rfl⟩
      · have hpos : 0 ≤ ix := hib.2 rfl
        have H0 : Hid (v = l.take 1) := hv2
        clear hib hv2
        go_enter Try.func94, Try.ntmps94
        go_wp2_with (go_at_call 106; refine Hix.out.mono ?_; rintro e w' ⟨rfl, rfl⟩)
        go_ret
        exact ⟨ret_str H0.out, rfl⟩
    · clear h2
      by_cases hz : 0 < l.length
      · have hq : l.isEmpty = false := by cases l with | nil => simp at hz | cons a r => rfl
        rw [headD_get hz, hq] at hv2
        have hib := indexByte_pos syms1 l[0]
        have hix := Try.strings_IndexByte ⟨syms1.toArray⟩ l[0].toNat w
        have hcv : ((l[0].toNat : Int)).toNat.toUInt8 = l[0] := by simp
        rw [hcv] at hix
        have he : (ByteArray.mk syms1.toArray).data.toList = syms1 := rfl
        rw [he] at hix
        generalize hcc : syms1.contains l[0] = cc at *
        generalize hix' : Lib.indexByte syms1 l[0] = ix at *
        clear hcv hcc he hix'
        have Hix := Lib.hid hix; clear hix
        cases cc
        · have hneg : ix < 0 := by have : ¬ 0 ≤ ix := fun h => by simpa using hib.1 h
                                   omega
          have H0 : Hid (v = []) := hv2
          clear hib hv2
          go_enter Try.func94, Try.ntmps94
          go_wp2_with (go_at_call 106; refine Hix.out.mono ?_; rintro e w' ⟨rfl, rfl⟩)
          go_ret
          exact ⟨ret_str H0.out, rfl⟩
        · have hpos : 0 ≤ ix := hib.2 rfl
          have H0 : Hid (v = l.take 1) := hv2
          clear hib hv2
          go_enter Try.func94, Try.ntmps94
          go_wp2_with (go_at_call 106; refine Hix.out.mono ?_; rintro e w' ⟨rfl, rfl⟩)
          go_ret
          exact ⟨ret_str H0.out, rfl⟩
      · obtain rfl : l = [] := List.eq_nil_of_length_eq_zero (by omega)
        have H0 : Hid (v = []) := hv2
        clear hv2
        go_enter Try.func94, Try.ntmps94
        go_wp2
        go_ret
        exact ⟨ret_str H0.out, rfl⟩
end Go.Proofs.Ytchdpjgncojhaaa
