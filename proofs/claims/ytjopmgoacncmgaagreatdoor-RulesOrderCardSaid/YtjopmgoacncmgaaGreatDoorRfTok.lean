/- Rules: the two tokenizers give the same tokens. Plain law. -/
import Derived.Test.YtjopmgoacncmgaaGreatDoorRfSpec
set_option linter.unusedVariables false
set_option linter.unusedSimpArgs false
namespace Go.Proofs.YtjopmgoacncmgaaGreatDoor

/-- What a raw token of the program is for the reference. -/
def tkOf (s : Bs) : RTk :=
  if s.isEmpty then ⟨0, []⟩ else if lowB (s.headD 0) || uppB (s.headD 0) then ⟨119, s⟩ else if digB (s.headD 0) || s.headD 0 == 45 then ⟨110, s⟩
  else if s.headD 0 == 34 then ⟨116, (s.drop 1).take (s.length - 2)⟩ else ⟨115, s⟩
def allDig (d : Bs) : Prop := ∀ c ∈ d, digB c = true
/-- A raw token: not empty, and digits behind a sign or a digit. -/
def VTok (t : Bs) : Prop := t ≠ [] ∧ ((digB (t.headD 0) || t.headD 0 == 45) = true → allDig t ∨ ∃ d, d ≠ [] ∧ t = 45 :: d ∧ allDig d)

theorem dig_low {c : UInt8} (h : digB c = true) : (lowB c || uppB c) = false := by
  unfold digB digI at h; unfold lowB uppB lowI uppI
  simp at *; omega
theorem min_low {c : UInt8} (h : (c == 45) = true) : (lowB c || uppB c) = false := by
  rw [beq_iff_eq] at h; subst h; decide
theorem quo_low {c : UInt8} (h : (c == 34) = true) : (lowB c || uppB c) = false ∧ digB c = false ∧ (c == 45) = false := by
  rw [beq_iff_eq] at h; subst h; decide
theorem take_span (p : UInt8 → Bool) (r : Bs) : r.take (spanS p r) = r.takeWhile p := by
  unfold spanS
  induction r with
  | nil => rfl
  | cons a t ih =>
    rw [List.takeWhile_cons]
    split
    · simp [ih]
    · simp
theorem span_le (p : UInt8 → Bool) (r : Bs) : spanS p r ≤ r.length := by
  unfold spanS
  induction r with
  | nil => simp
  | cons a t ih =>
    rw [List.takeWhile_cons]
    split
    · simp; exact ih
    · simp
theorem allDig_span (r : Bs) : allDig (r.take (spanS digB r)) := by
  rw [take_span]
  intro c hc
  induction r with
  | nil => cases hc
  | cons a t ih =>
    rw [List.takeWhile_cons] at hc
    split at hc
    · rename_i h
      rcases List.mem_cons.1 hc with h1 | h1
      · rw [h1]; exact h
      · exact ih h1
    · cases hc
theorem span_pos {p : UInt8 → Bool} {r : Bs} (h : p (r.headD 0) = true) (hr : r ≠ []) : r.take (spanS p r) ≠ [] := by
  rw [take_span]
  cases r with
  | nil => exact absurd rfl hr
  | cons a t =>
    have : p a = true := h
    rw [List.takeWhile_cons, this]
    simp
theorem sym_tok : ∀ t ∈ syms, tkOf t = ⟨115, t⟩ ∧ t ≠ [] ∧ (digB (t.headD 0) || t.headD 0 == 45) = false := by decide
theorem symS_mem (l : List Bs) (s : Bs) (h : symS l s ≠ 0) : s.take (symS l s) ∈ l := by
  induction l with
  | nil => exact absurd rfl h
  | cons t r ih =>
    unfold symS at h ⊢
    by_cases hp : t.isPrefixOf s = true
    · rw [if_pos hp]
      have := List.isPrefixOf_iff_prefix.1 hp
      rw [List.prefix_iff_eq_take] at this
      rw [← this]
      exact List.mem_cons_self
    · rw [if_neg hp] at h ⊢
      exact List.mem_cons_of_mem _ (ih h)
theorem sym_eq (c : UInt8) (r : Bs) : symS syms (c :: r) = symR (c :: r) := by
  unfold symR syms
  cases r with
  | nil =>
    simp only [symS, List.isPrefixOf, List.length_cons, List.length_nil]
    simp
    by_cases a1 : 40 = c
    · subst a1; simp
    · by_cases a2 : 41 = c
      · subst a2; simp
      · by_cases a3 : 44 = c
        · subst a3; simp
        · by_cases a4 : 46 = c
          · subst a4; simp
          · by_cases a5 : 61 = c
            · subst a5; simp
            · by_cases a6 : 60 = c
              · subst a6; simp
              · simp [a1, a2, a3, a4, a5, a6, eq_comm (a := c)]
  | cons d t =>
    simp only [symS, List.isPrefixOf, List.length_cons, List.length_nil, List.take, Bool.and_true, List.headD_cons]
    simp
    by_cases h1 : c = 58
    · subst h1; by_cases h4 : d = 45
      · subst h4; simp
      · simp [h4, Ne.symm h4]
    · by_cases h2 : c = 33
      · subst h2; by_cases h5 : d = 61
        · subst h5; simp
        · simp [h5, Ne.symm h5]
      · by_cases h3 : c = 60
        · subst h3; by_cases h5 : d = 61
          · subst h5; simp
          · simp [h5, Ne.symm h5]
        · simp only [h1, h2, h3, Ne.symm h1, Ne.symm h2, Ne.symm h3, false_and, if_false, or_false]
          by_cases a1 : 40 = c
          · subst a1; simp
          · by_cases a2 : 41 = c
            · subst a2; simp
            · by_cases a3 : 44 = c
              · subst a3; simp
              · by_cases a4 : 46 = c
                · subst a4; simp
                · by_cases a5 : 61 = c
                  · subst a5; simp
                  · simp [a1, a2, a3, a4, a5, eq_comm (a := c)]
theorem trim_cons (r : Bs) : trimS (32 :: r) = trimS r := by unfold trimS; rw [List.dropWhile_cons]; rfl
theorem trim_else {c : UInt8} (h : (c == 32) = false) (r : Bs) : trimS (c :: r) = c :: r := by unfold trimS; rw [List.dropWhile_cons, h]; rfl
theorem trim_len (s : Bs) : (trimS s).length ≤ s.length := by
  unfold trimS
  induction s with
  | nil => simp
  | cons a t ih =>
    rw [List.dropWhile_cons]
    split
    · simp; omega
    · simp
theorem tok_eq (n : Nat) : ∀ (s : Bs) (out : List Bs) (F G : Nat), s.length ≤ n → s.length < F → (trimS s).length < G → (∀ t ∈ out, VTok t) →
    rtok F s (out.map tkOf) = ((tokGo G (trimS s) out).1.map tkOf, (tokGo G (trimS s) out).2) ∧ ∀ t ∈ (tokGo G (trimS s) out).1, VTok t := by
  induction n with
  | zero =>
    intro s out F G hn hF hG hv
    obtain rfl : s = [] := List.eq_nil_of_length_eq_zero (by omega)
    obtain ⟨F', rfl⟩ : ∃ k, F = k + 1 := ⟨F - 1, by omega⟩
    obtain ⟨G', rfl⟩ : ∃ k, G = k + 1 := ⟨G - 1, by omega⟩
    exact ⟨rfl, hv⟩
  | succ n ih =>
    intro s out F G hn hF hG hv
    obtain ⟨F', rfl⟩ : ∃ k, F = k + 1 := ⟨F - 1, by omega⟩
    obtain ⟨G', rfl⟩ : ∃ k, G = k + 1 := ⟨G - 1, by omega⟩
    cases s with
    | nil => exact ⟨rfl, hv⟩
    | cons c r =>
      simp only [List.length_cons] at hn hF
      by_cases h32 : (c == 32) = true
      · obtain rfl : c = 32 := by simpa using h32
        rw [trim_cons] at hG ⊢
        have := ih r out F' (G' + 1) (by omega) (by omega) hG hv
        rw [← this.1]
        exact ⟨by rw [rtok]; rfl, this.2⟩
      · rw [Bool.not_eq_true] at h32
        rw [trim_else h32] at hG ⊢
        simp only [List.length_cons] at hG
        -- the step of a token that takes k + 1 bytes of the line, whose text is t
        have step : ∀ (k : Nat) (m : Nat), lenS (c :: r) = k → 0 < k → VTok ((c :: r).take k) → m = k - 1 →
            rtok F' (r.drop m) (out.map tkOf ++ [tkOf ((c :: r).take k)]) = ((tokGo (G' + 1) (c :: r) out).1.map tkOf, (tokGo (G' + 1) (c :: r) out).2) ∧ ∀ t ∈ (tokGo (G' + 1) (c :: r) out).1, VTok t := by
          intro k m hk hk0 hvt hm
          have hdrop : (c :: r).drop k = r.drop m := by
            obtain ⟨k', rfl⟩ : ∃ j, k = j + 1 := ⟨k - 1, by omega⟩
            subst hm
            simp
          have h0 : lenS (c :: r) ≠ 0 := by omega
          rw [tokGo, if_neg (by simp), if_neg h0, hk, hdrop]
          have hl : (r.drop m).length ≤ r.length := by simp
          have htl := trim_len (r.drop m)
          have := ih (r.drop m) (out ++ [(c :: r).take k]) F' G' (by omega) (by omega) (by omega) (by
            intro t ht
            rcases List.mem_append.1 ht with h1 | h1
            · exact hv t h1
            · rw [List.mem_singleton.1 h1]; exact hvt)
          rw [List.map_append, List.map_singleton] at this
          exact this
        have fail : lenS (c :: r) = 0 → (([] : List RTk), false) = ((tokGo (G' + 1) (c :: r) out).1.map tkOf, (tokGo (G' + 1) (c :: r) out).2) ∧ ∀ t ∈ (tokGo (G' + 1) (c :: r) out).1, VTok t := by
          intro h0
          rw [tokGo, if_neg (by simp), if_pos h0]
          exact ⟨rfl, fun t ht => nomatch ht⟩
        rw [rtok, if_neg (by rw [h32]; simp)]
        have hlen : lenS (c :: r) = (if lowB c || uppB c then 1 + spanS varB r
          else if digB c || (c == 45 && decide (1 < (c :: r).length) && digB (r.headD 0)) then 1 + spanS digB r
          else if c == 34 then (if 1 + spanS (fun c => c != 34) r = (c :: r).length then 0 else 1 + spanS (fun c => c != 34) r + 1)
          else symS syms (c :: r)) := rfl
        by_cases hw : (lowB c || uppB c) = true
        · rw [if_pos hw]
          rw [if_pos hw] at hlen
          have hd : (digB c || c == 45) = false := by
            cases h1 : digB c
            · cases h2 : (c == 45)
              · rfl
              · rw [min_low h2] at hw; cases hw
            · rw [dig_low h1] at hw; cases hw
          have := step _ (spanS varB r) hlen (by omega) ⟨by rw [Nat.add_comm]; simp, by
            intro hx; rw [Nat.add_comm, List.take_succ_cons, List.headD_cons, hd] at hx; cases hx⟩ (by omega)
          rw [Nat.add_comm, List.take_succ_cons] at this
          have htk : tkOf (c :: r.take (spanS varB r)) = ⟨119, c :: r.take (spanS varB r)⟩ := by unfold tkOf; rw [if_neg (by simp), List.headD_cons, if_pos hw]
          rw [htk] at this
          exact this
        · rw [if_neg hw] at hlen ⊢
          rw [Bool.not_eq_true] at hw
          have h1 : (c == 45 && decide (1 < (c :: r).length) && digB (r.headD 0)) = (c == 45 && digB (r.headD 0)) := by
            cases r with
            | nil => cases (c == 45) <;> rfl
            | cons a t => simp
          rw [h1] at hlen
          by_cases hg : (digB c || (c == 45 && digB (r.headD 0))) = true
          · rw [if_pos hg] at hlen ⊢
            have hd : (digB c || c == 45) = true := by
              cases h2 : digB c
              · rw [h2] at hg; simp at hg; rw [hg.1]; rfl
              · rfl
            have hsp := allDig_span r
            have := step _ (spanS digB r) hlen (by omega) ⟨by rw [Nat.add_comm]; simp, by
              intro _
              rw [Nat.add_comm, List.take_succ_cons]
              cases h2 : digB c
              · rw [h2, Bool.false_or, Bool.and_eq_true, beq_iff_eq] at hg
                refine .inr ⟨_, ?_, by rw [hg.1], hsp⟩
                refine span_pos hg.2 ?_
                rintro rfl
                have := hg.2
                exact absurd this (by decide)
              · exact .inl fun x hx => by
                  rcases List.mem_cons.1 hx with h3 | h3
                  · rw [h3]; exact h2
                  · exact hsp x h3⟩ (by omega)
            rw [Nat.add_comm, List.take_succ_cons] at this
            have htk : tkOf (c :: r.take (spanS digB r)) = ⟨110, c :: r.take (spanS digB r)⟩ := by
              unfold tkOf; rw [if_neg (by simp), List.headD_cons, if_neg (by rw [hw]; simp), if_pos hd]
            rw [htk] at this
            exact this
          · rw [if_neg hg] at hlen ⊢
            rw [Bool.not_eq_true] at hg
            by_cases hq : (c == 34) = true
            · rw [if_pos hq] at hlen ⊢
              have hle := span_le (fun c => c != 34) r
              by_cases he : spanS (fun c => c != 34) r = r.length
              · rw [if_pos he]
                exact fail (by rw [hlen, if_pos (by rw [he, List.length_cons]; omega)])
              · rw [if_neg he]
                have hln : lenS (c :: r) = spanS (fun c => c != 34) r + 1 + 1 := by
                  rw [hlen, if_neg (by rw [List.length_cons]; omega)]; omega
                generalize spanS (fun c => c != 34) r = m at *
                have hql := quo_low hq
                have := step _ (m + 1) hln (by omega) ⟨by simp, by
                  intro hx; rw [List.take_succ_cons, List.headD_cons, hql.2.1, hql.2.2] at hx; cases hx⟩ (by omega)
                rw [List.take_succ_cons] at this
                have htk : tkOf (c :: r.take (m + 1)) = ⟨116, r.take m⟩ := by
                  unfold tkOf
                  rw [if_neg (by simp), List.headD_cons, if_neg (by rw [hw]; simp), if_neg (by rw [hql.2.1, hql.2.2]; simp), if_pos hq]
                  simp only [List.drop_succ_cons, List.drop_zero, List.length_cons, List.length_take, List.take_take]
                  congr 2
                  omega
                rw [htk] at this
                exact this
            · rw [if_neg hq] at hlen ⊢
              rw [sym_eq] at hlen
              by_cases h0 : symR (c :: r) = 0
              · rw [if_pos h0]
                exact fail (by rw [hlen, h0])
              · rw [if_neg h0]
                have hmem := symS_mem syms (c :: r) (by rw [sym_eq]; exact h0)
                rw [sym_eq] at hmem
                have hst := sym_tok _ hmem
                have := step _ (symR (c :: r) - 1) hlen (by omega) ⟨hst.2.1, by intro hx; rw [hst.2.2] at hx; cases hx⟩ rfl
                rw [hst.1] at this
                have hdr : (c :: r).drop (symR (c :: r)) = r.drop (symR (c :: r) - 1) := by
                  obtain ⟨k', hk'⟩ : ∃ j, symR (c :: r) = j + 1 := ⟨symR (c :: r) - 1, by omega⟩
                  rw [hk']; rfl
                rw [hdr]
                exact this
theorem rtokS_eq (s : Bs) : rtokS s = ((tokensS s).1.map tkOf, (tokensS s).2) ∧ ∀ t ∈ (tokensS s).1, VTok t := by
  have := tok_eq s.length s [] (s.length + 1) (s.length + 1) (Nat.le_refl _) (by omega) (by have := trim_len s; omega) (fun t ht => nomatch ht)
  exact this
end Go.Proofs.YtjopmgoacncmgaaGreatDoor
