/- Rules: the library's Split, Join, TrimLeft are the plain ones. Plain law. -/
import Derived.Test.YtjopmgoacncmgaaGreatDoorKSpec
import Derived.Test.YtjopmgoacncmgaaGreatDoorAwkS
import Derived.Lib.AtoiAll
import Derived.Lib.ItoaNum
import Derived.Lib.SplitLaws
import Derived.Lib.Join
import Derived.Lib.TrimByte
set_option linter.unusedVariables false
set_option linter.unusedSimpArgs false
namespace Go.Proofs.YtjopmgoacncmgaaGreatDoor

structure RTk where
  kind : Nat
  text : Bs
  deriving DecidableEq, Repr, Inhabited
def symR (s : Bs) : Nat :=
  if decide (2 ≤ s.length) && (s.take 2 == [58, 45] || s.take 2 == [33, 61] || s.take 2 == [60, 61]) then 2
  else if [40, 41, 44, 46, 61, 60].contains (s.headD 0) then 1 else 0
def rtok : Nat → Bs → List RTk → List RTk × Bool
  | 0, _, out => (out, true)
  | _ + 1, [], out => (out, true)
  | f + 1, c :: r, out =>
    if c == 32 then rtok f r out
    else if lowB c || uppB c then rtok f (r.drop (spanS varB r)) (out ++ [⟨119, c :: r.take (spanS varB r)⟩])
    else if digB c || (c == 45 && digB (r.headD 0)) then rtok f (r.drop (spanS digB r)) (out ++ [⟨110, c :: r.take (spanS digB r)⟩])
    else if c == 34 then (if spanS (fun c => c != 34) r = r.length then ([], false) else rtok f (r.drop (spanS (fun c => c != 34) r + 1)) (out ++ [⟨116, r.take (spanS (fun c => c != 34) r)⟩]))
    else if symR (c :: r) = 0 then ([], false) else rtok f ((c :: r).drop (symR (c :: r))) (out ++ [⟨115, (c :: r).take (symR (c :: r))⟩])
def rtokS (s : Bs) : List RTk × Bool := rtok (s.length + 1) s []
abbrev RSt := List RTk × Bool
def rnext (p : RSt) : RTk := p.1.headD ⟨0, []⟩
def ris (p : RSt) (k : Nat) (t : Bs) : Bool × RSt := if rnext p = ⟨k, t⟩ then (true, (p.1.drop 1, p.2)) else (false, p)
def decV (n : Int) : Bs → Int
  | [] => n
  | c :: r => decV (10 * n + ((c.toNat : Int) - 48)) r
def rnumS (s : Bs) : Int × Bool :=
  let neg := s.headD 0 == 45
  let d := if neg then s.drop 1 else s
  if decide (10 < d.length) || (d.headD 0 == 48 && (decide (1 < d.length) || neg)) then (0, false)
  else ((if neg then -1 else 1) * decV 0 d, true)
def rargOf (t : RTk) : Arg × Bool :=
  if t.kind = 119 then (⟨1, t.text, 0⟩, true) else if t.kind = 116 then (⟨2, t.text, 0⟩, true)
  else if t.kind = 110 then (⟨3, [], (rnumS t.text).1⟩, (rnumS t.text).2) else (default, true)
def rarg (p : RSt) : Arg × RSt :=
  let t := rnext p
  let o := rargOf t
  (o.1, ((if t.kind ≠ 0 then p.1.drop 1 else p.1), (p.2 || !o.2) || !formedS o.1))
def rmore : Nat → RSt → List Arg → List Arg × RSt
  | 0, p, out => (out, p)
  | f + 1, p, out => if !p.2 && (ris p 115 [44]).1 then (let a := rarg (ris p 115 [44]).2; rmore f a.2 (out ++ [a.1])) else (out, p)
def ratom (p : RSt) : Atm × RSt :=
  let t := rnext p
  if t.kind ≠ 119 || !predS t.text then (default, (p.1, true))
  else
    let q : RSt := (p.1.drop 1, p.2)
    let i := ris q 115 [40]
    if !i.1 then (⟨t.text, []⟩, q)
    else
      let a := rarg i.2
      let m := rmore (i.2.1.length + 1) a.2 [a.1]
      if m.2.2 then (⟨t.text, m.1⟩, m.2)
      else (⟨t.text, m.1⟩, ((ris m.2 115 [41]).2.1, !(ris m.2 115 [41]).1 || decide (6 < m.1.length)))
def rltl (p : RSt) : Ltl × RSt :=
  let n := ris p 119 sNot
  if n.1 then (let a := ratom n.2; (⟨true, [], a.1⟩, a.2))
  else if (rnext p).kind = 119 && predS (rnext p).text then (let a := ratom p; (⟨false, [], a.1⟩, a.2))
  else
    let a := rarg p
    let op := rnext a.2
    if a.2.2 || op.kind ≠ 115 || !opsL.contains op.text then (default, (a.2.1, true))
    else (let b := rarg (a.2.1.drop 1, a.2.2); (⟨false, op.text, ⟨[], [a.1, b.1]⟩⟩, b.2))
def rmoreL : Nat → RSt → List Ltl → List Ltl × RSt
  | 0, p, out => (out, p)
  | f + 1, p, out => if !p.2 && (ris p 115 [44]).1 then (let a := rltl (ris p 115 [44]).2; rmoreL f a.2 (out ++ [a.1])) else (out, p)
def rrule (p : RSt) : Rul × RSt :=
  let h := ratom p
  let t := ris h.2 115 [58, 45]
  let m : List Ltl × RSt := if !h.2.2 && t.1 then (let a := rltl t.2; rmoreL (t.2.1.length + 1) a.2 [a.1]) else ([], h.2)
  let r : Rul := ⟨h.1, m.1⟩
  if m.2.2 then (r, m.2)
  else
    let d := ris m.2 115 [46]
    (r, (d.2.1, (!d.1 || !d.2.1.isEmpty) || !ruleS r))
def rsplit (cur : Bs) : Bs → List Bs
  | [] => if cur.isEmpty then [] else [cur]
  | c :: r => if c == 10 then cur :: rsplit [] r else rsplit (cur ++ [c]) r
def commS : Bs → Bool
  | [] => true
  | c :: r => if c == 32 then commS r else c == 37
def rparseGo : List Bs → Nat → List Rul → List Rul × Int × Int
  | [], _, out => (out, 0, 0)
  | line :: r, i, out =>
    if commS line then rparseGo r (i + 1) out
    else
      let t := rtokS line
      let x := rrule (t.1, false)
      if !t.2 || x.2.2 then ([], (i : Int) + 1, 4)
      else if out.length = 64 then ([], (i : Int) + 1, 10)
      else rparseGo r (i + 1) (out ++ [x.1])
def rparseS (s : Bs) : List Rul × Int × Int := if 65536 < s.length then ([], 0, 10) else rparseGo (rsplit [] s) 0 []
def rparseAtomS (s : Bs) : Atm × Int :=
  if 4096 < s.length then (default, 4)
  else
    let t := rtokS s
    let a := ratom (t.1, false)
    if !t.2 || a.2.2 || !a.2.1.isEmpty then (default, 4) else (a.1, 0)
end Go.Proofs.YtjopmgoacncmgaaGreatDoor

namespace Go.Proofs.YtjopmgoacncmgaaGreatDoor

/-- What a raw token of the program is for the reference. -/
def tkOf (s : Bs) : RTk :=
  if s.isEmpty then ⟨0, []⟩ else if lowB (s.headD 0) || uppB (s.headD 0) then ⟨119, s⟩ else if digB (s.headD 0) || s.headD 0 == 45 then ⟨110, s⟩
  else if s.headD 0 == 34 then ⟨116, (s.drop 1).take (s.length - 2)⟩ else ⟨115, s⟩
def allDig (d : Bs) : Prop := ∀ c ∈ d, digB c = true
/-- A raw token: not empty, and digits behind a sign or a digit. -/
def VTok (t : Bs) : Prop := t ≠ [] ∧ ((digB (t.headD 0) || t.headD 0 == 45) = true → allDig t ∨ ∃ d, d ≠ [] ∧ t = 45 :: d ∧ allDig d)

theorem dig_low {c : UInt8} (h : digB c = true) : (lowB c || uppB c) = false := by
  unfold digB digI at h; unfold lowB uppB lowI uppI
  simp at *; omega
theorem min_low {c : UInt8} (h : (c == 45) = true) : (lowB c || uppB c) = false := by
  rw [beq_iff_eq] at h; subst h; decide
theorem quo_low {c : UInt8} (h : (c == 34) = true) : (lowB c || uppB c) = false ∧ digB c = false ∧ (c == 45) = false := by
  rw [beq_iff_eq] at h; subst h; decide
theorem take_span (p : UInt8 → Bool) (r : Bs) : r.take (spanS p r) = r.takeWhile p := by
  unfold spanS
  induction r with
  | nil => rfl
  | cons a t ih =>
    rw [List.takeWhile_cons]
    split
    · simp [ih]
    · simp
theorem span_le (p : UInt8 → Bool) (r : Bs) : spanS p r ≤ r.length := by
  unfold spanS
  induction r with
  | nil => simp
  | cons a t ih =>
    rw [List.takeWhile_cons]
    split
    · simp; exact ih
    · simp
theorem allDig_span (r : Bs) : allDig (r.take (spanS digB r)) := by
  rw [take_span]
  intro c hc
  induction r with
  | nil => cases hc
  | cons a t ih =>
    rw [List.takeWhile_cons] at hc
    split at hc
    · rename_i h
      rcases List.mem_cons.1 hc with h1 | h1
      · rw [h1]; exact h
      · exact ih h1
    · cases hc
theorem span_pos {p : UInt8 → Bool} {r : Bs} (h : p (r.headD 0) = true) (hr : r ≠ []) : r.take (spanS p r) ≠ [] := by
  rw [take_span]
  cases r with
  | nil => exact absurd rfl hr
  | cons a t =>
    have : p a = true := h
    rw [List.takeWhile_cons, this]
    simp
theorem sym_tok : ∀ t ∈ syms, tkOf t = ⟨115, t⟩ ∧ t ≠ [] ∧ (digB (t.headD 0) || t.headD 0 == 45) = false := by decide
theorem symS_mem (l : List Bs) (s : Bs) (h : symS l s ≠ 0) : s.take (symS l s) ∈ l := by
  induction l with
  | nil => exact absurd rfl h
  | cons t r ih =>
    unfold symS at h ⊢
    by_cases hp : t.isPrefixOf s = true
    · rw [if_pos hp]
      have := List.isPrefixOf_iff_prefix.1 hp
      rw [List.prefix_iff_eq_take] at this
      rw [← this]
      exact List.mem_cons_self
    · rw [if_neg hp] at h ⊢
      exact List.mem_cons_of_mem _ (ih h)
theorem sym_eq (c : UInt8) (r : Bs) : symS syms (c :: r) = symR (c :: r) := by
  unfold symR syms
  cases r with
  | nil =>
    simp only [symS, List.isPrefixOf, List.length_cons, List.length_nil]
    simp
    by_cases a1 : 40 = c
    · subst a1; simp
    · by_cases a2 : 41 = c
      · subst a2; simp
      · by_cases a3 : 44 = c
        · subst a3; simp
        · by_cases a4 : 46 = c
          · subst a4; simp
          · by_cases a5 : 61 = c
            · subst a5; simp
            · by_cases a6 : 60 = c
              · subst a6; simp
              · simp [a1, a2, a3, a4, a5, a6, eq_comm (a := c)]
  | cons d t =>
    simp only [symS, List.isPrefixOf, List.length_cons, List.length_nil, List.take, Bool.and_true, List.headD_cons]
    simp
    by_cases h1 : c = 58
    · subst h1; by_cases h4 : d = 45
      · subst h4; simp
      · simp [h4, Ne.symm h4]
    · by_cases h2 : c = 33
      · subst h2; by_cases h5 : d = 61
        · subst h5; simp
        · simp [h5, Ne.symm h5]
      · by_cases h3 : c = 60
        · subst h3; by_cases h5 : d = 61
          · subst h5; simp
          · simp [h5, Ne.symm h5]
        · simp only [h1, h2, h3, Ne.symm h1, Ne.symm h2, Ne.symm h3, false_and, if_false, or_false]
          by_cases a1 : 40 = c
          · subst a1; simp
          · by_cases a2 : 41 = c
            · subst a2; simp
            · by_cases a3 : 44 = c
              · subst a3; simp
              · by_cases a4 : 46 = c
                · subst a4; simp
                · by_cases a5 : 61 = c
                  · subst a5; simp
                  · simp [a1, a2, a3, a4, a5, eq_comm (a := c)]
theorem trim_cons (r : Bs) : trimS (32 :: r) = trimS r := by unfold trimS; rw [List.dropWhile_cons]; rfl
theorem trim_else {c : UInt8} (h : (c == 32) = false) (r : Bs) : trimS (c :: r) = c :: r := by unfold trimS; rw [List.dropWhile_cons, h]; rfl
theorem trim_len (s : Bs) : (trimS s).length ≤ s.length := by
  unfold trimS
  induction s with
  | nil => simp
  | cons a t ih =>
    rw [List.dropWhile_cons]
    split
    · simp; omega
    · simp
theorem tok_eq (n : Nat) : ∀ (s : Bs) (out : List Bs) (F G : Nat), s.length ≤ n → s.length < F → (trimS s).length < G → (∀ t ∈ out, VTok t) →
    rtok F s (out.map tkOf) = ((tokGo G (trimS s) out).1.map tkOf, (tokGo G (trimS s) out).2) ∧ ∀ t ∈ (tokGo G (trimS s) out).1, VTok t := by
  induction n with
  | zero =>
    intro s out F G hn hF hG hv
    obtain rfl : s = [] := List.eq_nil_of_length_eq_zero (by omega)
    obtain ⟨F', rfl⟩ : ∃ k, F = k + 1 := ⟨F - 1, by omega⟩
    obtain ⟨G', rfl⟩ : ∃ k, G = k + 1 := ⟨G - 1, by omega⟩
    exact ⟨rfl, hv⟩
  | succ n ih =>
    intro s out F G hn hF hG hv
    obtain ⟨F', rfl⟩ : ∃ k, F = k + 1 := ⟨F - 1, by omega⟩
    obtain ⟨G', rfl⟩ : ∃ k, G = k + 1 := ⟨G - 1, by omega⟩
    cases s with
    | nil => exact ⟨rfl, hv⟩
    | cons c r =>
      simp only [List.length_cons] at hn hF
      by_cases h32 : (c == 32) = true
      · obtain rfl : c = 32 := by simpa using h32
        rw [trim_cons] at hG ⊢
        have := ih r out F' (G' + 1) (by omega) (by omega) hG hv
        rw [← this.1]
        exact ⟨by rw [rtok]; rfl, this.2⟩
      · rw [Bool.not_eq_true] at h32
        rw [trim_else h32] at hG ⊢
        simp only [List.length_cons] at hG
        -- the step of a token that takes k + 1 bytes of the line, whose text is t
        have step : ∀ (k : Nat) (m : Nat), lenS (c :: r) = k → 0 < k → VTok ((c :: r).take k) → m = k - 1 →
            rtok F' (r.drop m) (out.map tkOf ++ [tkOf ((c :: r).take k)]) = ((tokGo (G' + 1) (c :: r) out).1.map tkOf, (tokGo (G' + 1) (c :: r) out).2) ∧ ∀ t ∈ (tokGo (G' + 1) (c :: r) out).1, VTok t := by
          intro k m hk hk0 hvt hm
          have hdrop : (c :: r).drop k = r.drop m := by
            obtain ⟨k', rfl⟩ : ∃ j, k = j + 1 := ⟨k - 1, by omega⟩
            subst hm
            simp
          have h0 : lenS (c :: r) ≠ 0 := by omega
          rw [tokGo, if_neg (by simp), if_neg h0, hk, hdrop]
          have hl : (r.drop m).length ≤ r.length := by simp
          have htl := trim_len (r.drop m)
          have := ih (r.drop m) (out ++ [(c :: r).take k]) F' G' (by omega) (by omega) (by omega) (by
            intro t ht
            rcases List.mem_append.1 ht with h1 | h1
            · exact hv t h1
            · rw [List.mem_singleton.1 h1]; exact hvt)
          rw [List.map_append, List.map_singleton] at this
          exact this
        have fail : lenS (c :: r) = 0 → (([] : List RTk), false) = ((tokGo (G' + 1) (c :: r) out).1.map tkOf, (tokGo (G' + 1) (c :: r) out).2) ∧ ∀ t ∈ (tokGo (G' + 1) (c :: r) out).1, VTok t := by
          intro h0
          rw [tokGo, if_neg (by simp), if_pos h0]
          exact ⟨rfl, fun t ht => nomatch ht⟩
        rw [rtok, if_neg (by rw [h32]; simp)]
        have hlen : lenS (c :: r) = (if lowB c || uppB c then 1 + spanS varB r
          else if digB c || (c == 45 && decide (1 < (c :: r).length) && digB (r.headD 0)) then 1 + spanS digB r
          else if c == 34 then (if 1 + spanS (fun c => c != 34) r = (c :: r).length then 0 else 1 + spanS (fun c => c != 34) r + 1)
          else symS syms (c :: r)) := rfl
        by_cases hw : (lowB c || uppB c) = true
        · rw [if_pos hw]
          rw [if_pos hw] at hlen
          have hd : (digB c || c == 45) = false := by
            cases h1 : digB c
            · cases h2 : (c == 45)
              · rfl
              · rw [min_low h2] at hw; cases hw
            · rw [dig_low h1] at hw; cases hw
          have := step _ (spanS varB r) hlen (by omega) ⟨by rw [Nat.add_comm]; simp, by
            intro hx; rw [Nat.add_comm, List.take_succ_cons, List.headD_cons, hd] at hx; cases hx⟩ (by omega)
          rw [Nat.add_comm, List.take_succ_cons] at this
          have htk : tkOf (c :: r.take (spanS varB r)) = ⟨119, c :: r.take (spanS varB r)⟩ := by unfold tkOf; rw [if_neg (by simp), List.headD_cons, if_pos hw]
          rw [htk] at this
          exact this
        · rw [if_neg hw] at hlen ⊢
          rw [Bool.not_eq_true] at hw
          have h1 : (c == 45 && decide (1 < (c :: r).length) && digB (r.headD 0)) = (c == 45 && digB (r.headD 0)) := by
            cases r with
            | nil => cases (c == 45) <;> rfl
            | cons a t => simp
          rw [h1] at hlen
          by_cases hg : (digB c || (c == 45 && digB (r.headD 0))) = true
          · rw [if_pos hg] at hlen ⊢
            have hd : (digB c || c == 45) = true := by
              cases h2 : digB c
              · rw [h2] at hg; simp at hg; rw [hg.1]; rfl
              · rfl
            have hsp := allDig_span r
            have := step _ (spanS digB r) hlen (by omega) ⟨by rw [Nat.add_comm]; simp, by
              intro _
              rw [Nat.add_comm, List.take_succ_cons]
              cases h2 : digB c
              · rw [h2, Bool.false_or, Bool.and_eq_true, beq_iff_eq] at hg
                refine .inr ⟨_, ?_, by rw [hg.1], hsp⟩
                refine span_pos hg.2 ?_
                rintro rfl
                have := hg.2
                exact absurd this (by decide)
              · exact .inl fun x hx => by
                  rcases List.mem_cons.1 hx with h3 | h3
                  · rw [h3]; exact h2
                  · exact hsp x h3⟩ (by omega)
            rw [Nat.add_comm, List.take_succ_cons] at this
            have htk : tkOf (c :: r.take (spanS digB r)) = ⟨110, c :: r.take (spanS digB r)⟩ := by
              unfold tkOf; rw [if_neg (by simp), List.headD_cons, if_neg (by rw [hw]; simp), if_pos hd]
            rw [htk] at this
            exact this
          · rw [if_neg hg] at hlen ⊢
            rw [Bool.not_eq_true] at hg
            by_cases hq : (c == 34) = true
            · rw [if_pos hq] at hlen ⊢
              have hle := span_le (fun c => c != 34) r
              by_cases he : spanS (fun c => c != 34) r = r.length
              · rw [if_pos he]
                exact fail (by rw [hlen, if_pos (by rw [he, List.length_cons]; omega)])
              · rw [if_neg he]
                have hln : lenS (c :: r) = spanS (fun c => c != 34) r + 1 + 1 := by
                  rw [hlen, if_neg (by rw [List.length_cons]; omega)]; omega
                generalize spanS (fun c => c != 34) r = m at *
                have hql := quo_low hq
                have := step _ (m + 1) hln (by omega) ⟨by simp, by
                  intro hx; rw [List.take_succ_cons, List.headD_cons, hql.2.1, hql.2.2] at hx; cases hx⟩ (by omega)
                rw [List.take_succ_cons] at this
                have htk : tkOf (c :: r.take (m + 1)) = ⟨116, r.take m⟩ := by
                  unfold tkOf
                  rw [if_neg (by simp), List.headD_cons, if_neg (by rw [hw]; simp), if_neg (by rw [hql.2.1, hql.2.2]; simp), if_pos hq]
                  simp only [List.drop_succ_cons, List.drop_zero, List.length_cons, List.length_take, List.take_take]
                  congr 2
                  omega
                rw [htk] at this
                exact this
            · rw [if_neg hq] at hlen ⊢
              rw [sym_eq] at hlen
              by_cases h0 : symR (c :: r) = 0
              · rw [if_pos h0]
                exact fail (by rw [hlen, h0])
              · rw [if_neg h0]
                have hmem := symS_mem syms (c :: r) (by rw [sym_eq]; exact h0)
                rw [sym_eq] at hmem
                have hst := sym_tok _ hmem
                have := step _ (symR (c :: r) - 1) hlen (by omega) ⟨hst.2.1, by intro hx; rw [hst.2.2] at hx; cases hx⟩ rfl
                rw [hst.1] at this
                have hdr : (c :: r).drop (symR (c :: r)) = r.drop (symR (c :: r) - 1) := by
                  obtain ⟨k', hk'⟩ : ∃ j, symR (c :: r) = j + 1 := ⟨symR (c :: r) - 1, by omega⟩
                  rw [hk']; rfl
                rw [hdr]
                exact this
theorem rtokS_eq (s : Bs) : rtokS s = ((tokensS s).1.map tkOf, (tokensS s).2) ∧ ∀ t ∈ (tokensS s).1, VTok t := by
  have := tok_eq s.length s [] (s.length + 1) (s.length + 1) (Nat.le_refl _) (by omega) (by have := trim_len s; omega) (fun t ht => nomatch ht)
  exact this
end Go.Proofs.YtjopmgoacncmgaaGreatDoor

namespace Go.Proofs.YtjopmgoacncmgaaGreatDoor

def decN (n : Nat) (d : Bs) : Nat := d.foldl (fun n c => 10 * n + (c.toNat - 48)) n
theorem decN_nil (n : Nat) : decN n [] = n := rfl
theorem decN_cons (n : Nat) (c : UInt8) (r : Bs) : decN n (c :: r) = decN (10 * n + (c.toNat - 48)) r := by
  unfold decN
  rw [List.foldl_cons]
def sg (neg : Bool) (n : Nat) : Int := if neg then -(n : Int) else n
def sgB (neg : Bool) : Bs := if neg then [45] else []
theorem sg_rng (neg : Bool) (n : Nat) : (n : Int) = sg neg n ∨ (n : Int) = - sg neg n := by cases neg <;> simp [sg]
theorem allDig.tail {c : UInt8} {r : Bs} (h : allDig (c :: r)) : allDig r := fun x hx => h x (List.mem_cons_of_mem _ hx)
theorem allDig.head {c : UInt8} {r : Bs} (h : allDig (c :: r)) : 48 ≤ c.toNat ∧ c.toNat ≤ 57 := by
  have := h c List.mem_cons_self
  unfold digB digI at this
  simp at this
  omega
theorem digVal_all (d : Bs) (h : allDig d) (n : Nat) : digVal n d = some (decN n d) := by
  induction d generalizing n with
  | nil => rfl
  | cons c r ih =>
    rw [digVal, if_pos (h c List.mem_cons_self), decN_cons, ih h.tail]
theorem decV_N (d : Bs) (h : allDig d) (n : Nat) : decV n d = (decN n d : Nat) := by
  induction d generalizing n with
  | nil => rfl
  | cons c r ih =>
    rw [decV, decN_cons, ← ih h.tail]
    congr 1
    have := h.head
    omega
theorem decN_app (d : Bs) (c : UInt8) (n : Nat) : decN n (d ++ [c]) = 10 * decN n d + (c.toNat - 48) := by
  induction d generalizing n with
  | nil => rfl
  | cons a r ih => rw [List.cons_append, decN_cons, decN_cons, ih]
theorem decN_ge (d : Bs) (n : Nat) (h : 1 ≤ n) : 1 ≤ decN n d := by
  induction d generalizing n with
  | nil => exact h
  | cons a r ih => rw [decN_cons]; exact ih _ (by omega)
theorem decN_pos (d : Bs) (hd : allDig d) (h0 : d ≠ []) (h : d.headD 0 ≠ 48) : 1 ≤ decN 0 d := by
  cases d with
  | nil => exact absurd rfl h0
  | cons c r =>
    rw [decN_cons]
    refine decN_ge _ _ ?_
    have := hd.head
    have h2 : c.toNat ≠ 48 := by
      intro e
      exact h (by rw [List.headD_cons]; exact UInt8.toNat_inj.1 e)
    omega
theorem decN_lt (d : Bs) (hd : allDig d) : ∀ n, decN n d < (n + 1) * 10 ^ d.length := by
  induction d with
  | nil => intro n; simp [decN_nil]
  | cons c r ih =>
    intro n
    rw [decN_cons, List.length_cons, Nat.pow_succ]
    have h1 := ih hd.tail (10 * n + (c.toNat - 48))
    have := hd.head
    have h2 : (10 * n + (c.toNat - 48) + 1) * 10 ^ r.length ≤ (10 * (n + 1)) * 10 ^ r.length := Nat.mul_le_mul_right _ (by omega)
    have h3 : (n + 1) * (10 ^ r.length * 10) = (10 * (n + 1)) * 10 ^ r.length := by
      rw [Nat.mul_comm (10 ^ r.length) 10, ← Nat.mul_assoc, Nat.mul_comm (n + 1) 10]
    omega
theorem digit_back {c : UInt8} (h : 48 ≤ c.toNat ∧ c.toNat ≤ 57) : (48 + (c.toNat - 48)).toUInt8 = c := by
  have : 48 + (c.toNat - 48) = c.toNat := by omega
  rw [this]
  simp
theorem natDig_val (f : Nat) : ∀ (d : Bs) (c : UInt8), allDig (d ++ [c]) → (d = [] ∨ d.headD 0 ≠ 48) → d.length + 1 ≤ f → natDig f (decN 0 (d ++ [c])) = d ++ [c] := by
  induction f with
  | zero => intro d c _ _ h; omega
  | succ f ih =>
    intro d c ha hd hl
    have hc : 48 ≤ c.toNat ∧ c.toNat ≤ 57 := by
      have := ha c (by simp)
      unfold digB digI at this
      simp at this
      omega
    have had : allDig d := fun x hx => ha x (List.mem_append_left _ hx)
    rw [decN_app, natDig]
    rcases List.eq_nil_or_concat d with rfl | ⟨d', c', rfl⟩
    · have : 10 * decN 0 ([] : Bs) + (c.toNat - 48) = c.toNat - 48 := by simp [decN_nil]
      rw [this, if_pos (by omega), digit_back hc]
      rfl
    · rw [List.concat_eq_append] at *
      have hh := hd.resolve_left (by simp)
      have hp := decN_pos _ had (by simp) hh
      have hi := ih d' c' had (by
        rcases d' with _ | ⟨x, y⟩
        · exact .inl rfl
        · exact .inr hh) (by simp at hl; omega)
      generalize decN 0 (d' ++ [c']) = v at *
      rw [if_neg (by omega)]
      have h1 : (10 * v + (c.toNat - 48)) / 10 = v := by omega
      have h2 : (10 * v + (c.toNat - 48)) % 10 = c.toNat - 48 := by omega
      rw [h1, h2, hi, digit_back hc]
theorem natDig_len (f : Nat) : ∀ (k n : Nat), n < 10 ^ k → 1 ≤ k → (natDig f n).length ≤ k := by
  induction f with
  | zero => intro k n _ _; simp [natDig]
  | succ f ih =>
    intro k n h hk
    rw [natDig]
    split
    · simpa using hk
    · rename_i hn
      obtain ⟨k', rfl⟩ : ∃ j, k = j + 1 := ⟨k - 1, by omega⟩
      have hk' : 1 ≤ k' := by
        rcases Nat.eq_zero_or_pos k' with h0 | h0
        · subst h0; simp at h; omega
        · exact h0
      have := ih k' (n / 10) (by rw [Nat.pow_succ] at h; omega) hk'
      simp
      omega
theorem natDig_head (f : Nat) : ∀ n, 1 ≤ n → n < 10 ^ f → (natDig f n).headD 0 ≠ 48 ∧ natDig f n ≠ [] := by
  induction f with
  | zero => intro n h1 h2; simp at h2; omega
  | succ f ih =>
    intro n h1 h2
    rw [natDig]
    split
    · rename_i hn
      refine ⟨?_, by simp⟩
      rw [List.headD_cons]
      intro e
      have := congrArg UInt8.toNat e
      simp at this
      omega
    · rename_i hn
      have := ih (n / 10) (by omega) (by rw [Nat.pow_succ] at h2; omega)
      cases h : natDig f (n / 10) with
      | nil => exact absurd h this.2
      | cons a r =>
        rw [h] at this
        exact ⟨this.1, by simp⟩

/-- The number of a token: s is d or 45 :: d. -/
theorem numS_of (neg : Bool) (d : Bs) (hd : allDig d) (hne : d ≠ []) : numS (sgB neg ++ d) =
    if -9223372036854775808 ≤ sg neg (decN 0 d) ∧ sg neg (decN 0 d) ≤ 9223372036854775807 ∧ itoaS (sg neg (decN 0 d)) = sgB neg ++ d then some (sg neg (decN 0 d)) else none := by
  unfold numS
  cases neg
  · have h45 : ¬ ((sgB false ++ d).headD 0 = 45) := by
      cases d with
      | nil => exact absurd rfl hne
      | cons c r =>
        have := hd.head
        show ¬ (c = 45)
        intro e
        subst e
        simp at this
    simp only [if_neg h45]
    have : digVal 0 (sgB false ++ d) = some (decN 0 d) := digVal_all d hd 0
    rw [this]
    rfl
  · have h45 : (sgB true ++ d).headD 0 = 45 := rfl
    simp only [if_pos h45]
    have : digVal 0 ((sgB true ++ d).drop 1) = some (decN 0 d) := digVal_all d hd 0
    rw [this]
    rfl
theorem rnumS_of (neg : Bool) (d : Bs) (hd : allDig d) (hne : d ≠ []) : rnumS (sgB neg ++ d) =
    if 10 < d.length ∨ (d.headD 0 = 48 ∧ (1 < d.length ∨ neg = true)) then (0, false) else (sg neg (decN 0 d), true) := by
  have hv := decV_N d hd 0
  simp only [Int.natCast_zero] at hv
  unfold rnumS
  cases neg
  · have h45 : ((sgB false ++ d).headD 0 == 45) = false := by
      cases d with
      | nil => exact absurd rfl hne
      | cons c r =>
        have := hd.head
        show (c == 45) = false
        rw [beq_eq_false_iff_ne]
        intro e
        subst e
        simp at this
    simp only [h45, Bool.false_eq_true, if_false, Bool.or_false, Bool.or_eq_true, Bool.and_eq_true, decide_eq_true_eq, beq_iff_eq, or_false, Int.one_mul]
    have e : sgB false ++ d = d := rfl
    rw [e, hv]
    rfl
  · have h45 : ((sgB true ++ d).headD 0 == 45) = true := rfl
    simp only [h45, if_true, Bool.or_true, Bool.or_eq_true, Bool.and_eq_true, decide_eq_true_eq, beq_iff_eq, or_true, and_true]
    have e : (sgB true ++ d).drop 1 = d := rfl
    rw [e, hv]
    have : (-1 : Int) * (decN 0 d : Nat) = sg true (decN 0 d) := by unfold sg; rw [if_pos rfl]; omega
    rw [this]
theorem itoa_bad (neg : Bool) (d : Bs) (hz : d.headD 0 = 48 ∧ (1 < d.length ∨ neg = true)) (hlt : decN 0 d < 10 ^ 20) :
    itoaS (sg neg (decN 0 d)) ≠ sgB neg ++ d := by
  intro h
  unfold itoaS at h
  rcases Nat.eq_zero_or_pos (decN 0 d) with h0 | hp
  · rw [h0] at h
    cases neg
    · have h2 := congrArg List.length h
      simp [natDig, sg, sgB] at h2
      rcases hz.2 with h3 | h3
      · omega
      · cases h3
    · simp [natDig, sg, sgB] at h
  · have hh := natDig_head 20 _ hp hlt
    cases neg
    · simp only [sg, sgB, Bool.false_eq_true, if_false, List.nil_append, Int.natAbs_natCast] at h
      rw [if_neg (by omega)] at h
      rw [h] at hh
      exact hh.1 hz.1
    · simp only [sg, sgB, if_true, List.cons_append, List.nil_append, Int.natAbs_neg, Int.natAbs_natCast] at h
      rw [if_pos (by omega)] at h
      injection h with _ h
      rw [h] at hh
      exact hh.1 hz.1
theorem itoa_good (neg : Bool) (d : Bs) (hd : allDig d) (hne : d ≠ []) (hz : ¬ (d.headD 0 = 48 ∧ (1 < d.length ∨ neg = true))) (hl : d.length ≤ 20) :
    itoaS (sg neg (decN 0 d)) = sgB neg ++ d := by
  have hv : natDig 20 (decN 0 d) = d := by
    rcases List.eq_nil_or_concat d with rfl | ⟨d', c', rfl⟩
    · exact absurd rfl hne
    · rw [List.concat_eq_append] at *
      refine natDig_val 20 d' c' hd ?_ (by simp at hl; omega)
      rcases d' with _ | ⟨x, y⟩
      · exact .inl rfl
      · refine .inr fun e => hz ⟨e, .inl (by simp)⟩
  unfold itoaS
  cases neg
  · simp only [sg, sgB, Bool.false_eq_true, if_false, List.nil_append, Int.natAbs_natCast]
    rw [if_neg (by omega), hv]
  · have hp := decN_pos d hd hne (fun e => hz ⟨e, .inr rfl⟩)
    simp only [sg, sgB, if_true, List.cons_append, List.nil_append, Int.natAbs_neg, Int.natAbs_natCast]
    rw [if_pos (by omega), hv]
theorem num_eq (neg : Bool) (d : Bs) (hd : allDig d) (hne : d ≠ []) :
    ((rnumS (sgB neg ++ d)).2 = true ∧ numS (sgB neg ++ d) = some (rnumS (sgB neg ++ d)).1) ∨
    ((rnumS (sgB neg ++ d)).2 = false ∧ ∀ v, numS (sgB neg ++ d) = some v → v < -1000000000 ∨ 1000000000 < v) := by
  rw [rnumS_of neg d hd hne, numS_of neg d hd hne]
  have hlt := decN_lt d hd 0
  rw [Nat.zero_add, Nat.one_mul] at hlt
  have hsg := sg_rng neg (decN 0 d)
  by_cases hz : d.headD 0 = 48 ∧ (1 < d.length ∨ neg = true)
  · rw [if_pos (.inr hz)]
    refine .inr ⟨rfl, fun v hv => ?_⟩
    split at hv
    · rename_i hr
      exact absurd hr.2.2 (itoa_bad neg d hz (by omega))
    · cases hv
  · by_cases hl : 10 < d.length
    · rw [if_pos (.inl hl)]
      refine .inr ⟨rfl, fun v hv => ?_⟩
      split at hv
      · rename_i hr
        injection hv with hv
        subst hv
        have hit := hr.2.2
        have hbig : 1000000000 < decN 0 d := by
          refine Nat.lt_of_not_le fun hle => ?_
          have h10 := natDig_len 20 10 (decN 0 d) (by omega) (by omega)
          have h2 := congrArg List.length hit
          unfold itoaS at h2
          cases neg
          · simp only [sg, sgB, Bool.false_eq_true, if_false, List.nil_append, Int.natAbs_natCast] at h2
            rw [if_neg (by omega)] at h2
            omega
          · simp only [sg, sgB, if_true, List.cons_append, List.nil_append, Int.natAbs_neg, Int.natAbs_natCast, List.length_cons] at h2
            split at h2
            · simp at h2; omega
            · omega
        omega
      · cases hv
    · rw [if_neg (fun h => h.elim hl hz)]
      refine .inl ⟨rfl, ?_⟩
      have h10 : decN 0 d < 10 ^ 10 := Nat.lt_of_lt_of_le hlt (Nat.pow_le_pow_right (by omega) (by omega))
      rw [if_pos ⟨by omega, by omega, itoa_good neg d hd hne hz (by omega)⟩]

theorem lowI_not {c : UInt8} (h : lowB c = true) : uppB c = false ∧ digB c = false ∧ (c == 45) = false ∧ (c == 34) = false := by
  have : 97 ≤ c.toNat ∧ c.toNat ≤ 122 := by unfold lowB lowI at h; simp at h; omega
  refine ⟨by unfold uppB uppI; simp; omega, by unfold digB digI; simp; omega, ?_, ?_⟩ <;>
  · rw [beq_eq_false_iff_ne]; rintro rfl; simp at this
theorem uppI_not {c : UInt8} (h : uppB c = true) : lowB c = false ∧ digB c = false ∧ (c == 45) = false ∧ (c == 34) = false := by
  have : 65 ≤ c.toNat ∧ c.toNat ≤ 90 := by unfold uppB uppI at h; simp at h; omega
  refine ⟨by unfold lowB lowI; simp; omega, by unfold digB digI; simp; omega, ?_, ?_⟩ <;>
  · rw [beq_eq_false_iff_ne]; rintro rfl; simp at this
theorem numS_none {c : UInt8} {r : Bs} (h1 : (c == 45) = false) (h2 : digB c = false) : numS (c :: r) = none := by
  rw [beq_eq_false_iff_ne] at h1
  have e : ¬ ((c :: r).headD 0 = 45) := h1
  have e2 : digVal 0 (c :: r) = none := by rw [digVal, h2]; rfl
  unfold numS
  simp only [if_neg e, e2]
theorem formed_default : formedS default = false := by decide
theorem formed_num (v : Int) : formedS ⟨3, [], v⟩ = (decide (-1000000000 ≤ v) && decide (v ≤ 1000000000)) := by unfold formedS; simp
theorem arg_eq (s : Bs) (hv : VTok s) : formedS (argOf s) = ((rargOf (tkOf s)).2 && formedS (rargOf (tkOf s)).1) ∧ (formedS (argOf s) = true → argOf s = (rargOf (tkOf s)).1) := by
  cases s with
  | nil => exact absurd rfl hv.1
  | cons c r =>
    have hvn := hv.2
    rw [List.headD_cons] at hvn
    have e1 : tkOf (c :: r) = if lowB c || uppB c then ⟨119, c :: r⟩ else if digB c || c == 45 then ⟨110, c :: r⟩ else if c == 34 then ⟨116, ((c :: r).drop 1).take ((c :: r).length - 2)⟩ else ⟨115, c :: r⟩ := rfl
    have e2 : argOf (c :: r) = if c = 34 then ⟨2, ((c :: r).drop 1).take ((c :: r).length - 2), 0⟩ else if uppB c then ⟨1, c :: r, 0⟩ else match numS (c :: r) with | some n => ⟨3, [], n⟩ | none => default := rfl
    rw [e1, e2]
    by_cases hl : lowB c = true
    · have hn := lowI_not hl
      have h34 : ¬ (c = 34) := by have := hn.2.2.2; rw [beq_eq_false_iff_ne] at this; exact this
      rw [if_neg h34, if_neg (by rw [hn.1]; simp), if_pos (by rw [hl]; rfl), numS_none hn.2.2.1 hn.2.1]
      have hf : formedS ⟨1, c :: r, 0⟩ = false := by
        unfold formedS varS eachS
        have : uppI ((c.toNat : Nat) : Int) = false := hn.1
        simp [this]
      simp only [rargOf, if_true, Bool.true_and, hf, formed_default]
      exact ⟨trivial, fun h => nomatch h⟩
    · rw [Bool.not_eq_true] at hl
      by_cases hu : uppB c = true
      · have hn := uppI_not hu
        have h34 : ¬ (c = 34) := by have := hn.2.2.2; rw [beq_eq_false_iff_ne] at this; exact this
        rw [if_neg h34, if_pos hu, if_pos (by rw [hu]; simp)]
        simp only [rargOf, if_true, Bool.true_and]
        exact ⟨trivial, fun _ => trivial⟩
      · rw [Bool.not_eq_true] at hu
        have hlu : ¬ ((lowB c || uppB c) = true) := by rw [hl, hu]; simp
        have hu' : ¬ (uppB c = true) := by rw [hu]; simp
        simp only [if_neg hlu, if_neg hu']
        by_cases hd : (digB c || c == 45) = true
        · have h34 : ¬ (c = 34) := by rintro rfl; exact absurd hd (by decide)
          rw [if_neg h34, if_pos hd]
          have hnum : ((rnumS (c :: r)).2 = true ∧ numS (c :: r) = some (rnumS (c :: r)).1) ∨ ((rnumS (c :: r)).2 = false ∧ ∀ v, numS (c :: r) = some v → v < -1000000000 ∨ 1000000000 < v) := by
            rcases hvn hd with h | ⟨d, h0, h1, h2⟩
            · exact num_eq false (c :: r) h (by simp)
            · have := num_eq true d h2 h0
              rw [h1]
              exact this
          simp only [rargOf]
          rw [if_neg (by decide), if_neg (by decide)]
          simp only [if_true]
          rcases hnum with ⟨h1, h2⟩ | ⟨h1, h2⟩
          · rw [h2, h1]
            simp
          · rw [h1]
            cases h : numS (c :: r) with
            | none => simp [formed_default]
            | some v =>
              have := h2 v h
              have hf : formedS ⟨3, [], v⟩ = false := by rw [formed_num]; simp; omega
              simp [hf]
        · rw [Bool.not_eq_true, Bool.or_eq_false_iff] at hd
          have hd' : ¬ ((digB c || c == 45) = true) := by rw [hd.1, hd.2]; simp
          simp only [if_neg hd']
          by_cases hq : c = 34
          · have hq' : (c == 34) = true := by rw [hq]; rfl
            simp only [if_pos hq, if_pos hq']
            simp [rargOf]
          · have hq' : ¬ ((c == 34) = true) := by rw [beq_iff_eq]; exact hq
            simp only [if_neg hq, if_neg hq', numS_none hd.2 hd.1]
            simp [rargOf, formed_default]
end Go.Proofs.YtjopmgoacncmgaaGreatDoor

namespace Go.Proofs.YtjopmgoacncmgaaGreatDoor

def RS (p : KSt) (q : RSt) : Prop := p.2 = false ∧ q.2 = false ∧ q.1 = p.1.map tkOf ∧ ∀ t ∈ p.1, VTok t
def RA {α : Type} (x : α × KSt) (y : α × RSt) : Prop := (x.2.2 = true ∧ y.2.2 = true) ∨ (x.1 = y.1 ∧ RS x.2 y.2)
theorem RS.drop {p : KSt} {q : RSt} (h : RS p q) : RS (p.1.drop 1, p.2) (q.1.drop 1, q.2) :=
  ⟨h.1, h.2.1, by rw [h.2.2.1, List.map_drop], fun t ht => h.2.2.2 t (List.mem_of_mem_drop ht)⟩
theorem RS.next {p : KSt} {q : RSt} (h : RS p q) : rnext q = tkOf (peekS p) := by
  obtain ⟨l, b⟩ := p
  obtain ⟨m, c⟩ := q
  obtain ⟨_, _, h3, _⟩ := h
  simp only at h3
  subst h3
  cases l <;> rfl
theorem RS.peek {p : KSt} {q : RSt} (h : RS p q) : (p.1 = [] ∧ peekS p = []) ∨ (VTok (peekS p) ∧ p.1 ≠ []) := by
  obtain ⟨l, b⟩ := p
  cases l with
  | nil => exact .inl ⟨rfl, rfl⟩
  | cons t r => exact .inr ⟨h.2.2.2 t List.mem_cons_self, by simp⟩
theorem tk_zero {s : Bs} (h : s ≠ []) : (tkOf s).kind ≠ 0 := by
  cases s with
  | nil => exact absurd rfl h
  | cons c r => unfold tkOf; rw [if_neg (by simp)]; (repeat' split) <;> simp
theorem nextS_bad {p : KSt} (h : p.2 = true) : (nextS p).2.2 = true := by unfold nextS; split <;> simp_all
theorem takeS_bad {p : KSt} (s : Bs) (h : p.2 = true) : (takeS p s).2.2 = true := by
  unfold takeS; split
  · exact h
  · exact nextS_bad h
theorem argP_bad {p : KSt} (h : p.2 = true) : (argP p).2.2 = true := by
  unfold argP; simp only [nextS_bad h]; rfl
theorem argP_formed {p : KSt} (h : (argP p).2.2 = false) : formedS (argP p).1 = true := by
  unfold argP at h ⊢
  simp only [Bool.or_eq_false_iff, Bool.not_eq_false'] at h
  exact h.2
theorem arg_rel {p : KSt} {q : RSt} (h : RS p q) : RA (argP p) (rarg q) := by
  have hn := h.next
  unfold argP rarg
  rw [hn]
  rcases h.peek with ⟨h0, h1⟩ | ⟨hv, h0⟩
  · have e : nextS p = ([], (p.1, true)) := by unfold nextS; rw [h1]; rfl
    rw [e, h1]
    exact .inl ⟨rfl, by simp [tkOf, rargOf, formed_default]⟩
  · have hne : (peekS p).isEmpty = false := by cases hp : peekS p with | nil => exact absurd hp hv.1 | cons a b => rfl
    have e : nextS p = (peekS p, (p.1.drop 1, p.2)) := by unfold nextS; rw [hne]; rfl
    have ha := arg_eq (peekS p) hv
    rw [e]
    have hk := tk_zero hv.1
    simp only [h.1, h.2.1, Bool.false_or, if_pos hk]
    cases hf : formedS (argOf (peekS p))
    · left
      rw [hf] at ha
      refine ⟨rfl, ?_⟩
      have := ha.1
      simp only
      cases h2 : (rargOf (tkOf (peekS p))).2
      · rfl
      · rw [h2, Bool.true_and] at this
        rw [← this]
        rfl
    · right
      rw [hf] at ha
      have := ha.1.symm
      rw [Bool.and_eq_true] at this
      refine ⟨ha.2 rfl, rfl, by rw [this.1, this.2]; rfl, by simp only; rw [h.2.2.1, List.map_drop], fun t ht => h.2.2.2 t (List.mem_of_mem_drop ht)⟩
theorem tk_sym {s t : Bs} (ht : tkOf t = ⟨115, t⟩) : (tkOf s = ⟨115, t⟩) ↔ s = t := by
  constructor
  · intro h
    unfold tkOf at h
    split at h
    · exact absurd (congrArg RTk.kind h) (by simp; try omega)
    · split at h
      · exact absurd (congrArg RTk.kind h) (by simp; try omega)
      · split at h
        · exact absurd (congrArg RTk.kind h) (by simp; try omega)
        · split at h
          · exact absurd (congrArg RTk.kind h) (by simp; try omega)
          · injection h
  · rintro rfl; exact ht
theorem tk_word {s t : Bs} (ht : tkOf t = ⟨119, t⟩) : (tkOf s = ⟨119, t⟩) ↔ s = t := by
  constructor
  · intro h
    unfold tkOf at h
    split at h
    · exact absurd (congrArg RTk.kind h) (by simp; try omega)
    · split at h
      · injection h
      · split at h
        · exact absurd (congrArg RTk.kind h) (by simp; try omega)
        · split at h <;> (exact absurd (congrArg RTk.kind h) (by simp; try omega))
  · rintro rfl; exact ht
theorem take_rel {p : KSt} {q : RSt} (h : RS p q) (k : Nat) (t : Bs) (hk : ∀ s, tkOf s = ⟨k, t⟩ ↔ s = t) (ht : t.isEmpty = false) : (takeS p t).1 = (ris q k t).1 ∧ RS (takeS p t).2 (ris q k t).2 := by
  have hn := h.next
  unfold takeS ris
  rw [hn]
  by_cases he : peekS p = t
  · rw [if_neg (by rw [he]; simp), if_pos ((hk _).2 he)]
    have e : nextS p = (peekS p, (p.1.drop 1, p.2)) := by unfold nextS; rw [he, ht]; rfl
    rw [e]
    exact ⟨rfl, h.drop⟩
  · rw [if_pos (by simpa using he), if_neg (fun x => he ((hk _).1 x))]
    exact ⟨rfl, h⟩
theorem sy (t : Bs) (h : t ∈ syms) : ∀ s, tkOf s = ⟨115, t⟩ ↔ s = t := fun _ => tk_sym (sym_tok t h).1
theorem snot : ∀ s, tkOf s = ⟨119, sNot⟩ ↔ s = sNot := fun _ => tk_word (by decide)
theorem moreP_bad (f : Nat) (p : KSt) (out : List Arg) (h : p.2 = true) : moreP f p out = (out, p) := by
  cases f with
  | zero => rfl
  | succ f => rw [moreP, h]; rfl
theorem rmore_bad (f : Nat) (p : RSt) (out : List Arg) (h : p.2 = true) : rmore f p out = (out, p) := by
  cases f with
  | zero => rfl
  | succ f => rw [rmore, h]; rfl
theorem more_rel (f : Nat) : ∀ (x : List Arg × KSt) (y : List Arg × RSt), RA x y → RA (moreP f x.2 x.1) (rmore f y.2 y.1) := by
  induction f with
  | zero => intro x y h; exact h
  | succ f ih =>
    intro x y h
    rcases h with ⟨h1, h2⟩ | ⟨h1, h2⟩
    · rw [moreP_bad _ _ _ h1, rmore_bad _ _ _ h2]
      exact .inl ⟨h1, h2⟩
    · have ht := take_rel h2 115 [44] (sy _ (by decide)) rfl
      rw [moreP, rmore, h2.1, h2.2.1, ← ht.1]
      cases hc : (takeS x.2 [44]).1
      · exact .inr ⟨h1, h2⟩
      · refine ih (_, _) (_, _) ?_
        rcases arg_rel ht.2 with ha | ⟨ha, hb⟩
        · exact .inl ha
        · exact .inr ⟨by rw [h1]; simp only; rw [ha], hb⟩
theorem moreP_formed (f : Nat) : ∀ (p : KSt) (out : List Arg), (∀ a ∈ out, formedS a = true) → (moreP f p out).2.2 = false → ∀ a ∈ (moreP f p out).1, formedS a = true := by
  induction f with
  | zero => intro p out h _; exact h
  | succ f ih =>
    intro p out h hb
    rw [moreP] at hb ⊢
    split
    · rename_i hc
      rw [if_pos hc] at hb
      by_cases hx : (argP (takeS p [44]).2).2.2 = true
      · rw [moreP_bad _ _ _ hx] at hb
        rw [hx] at hb
        cases hb
      · rw [Bool.not_eq_true] at hx
        exact ih _ _ (fun a ha => by
          rcases List.mem_append.1 ha with h1 | h1
          · exact h a h1
          · rw [List.mem_singleton.1 h1]; exact argP_formed hx) hb
    · exact h
theorem pred_low {s : Bs} (h : predS s = true) : (tkOf s) = ⟨119, s⟩ := by
  cases s with
  | nil => exact absurd h (by decide)
  | cons c r =>
    unfold predS eachS at h
    simp only [Bool.and_eq_true, List.headD_cons] at h
    have hl : lowB c = true := h.2.1.2
    unfold tkOf
    rw [if_neg (by simp), List.headD_cons, hl]
    rfl
theorem tk_text {s : Bs} (h : (tkOf s).kind = 119) : (tkOf s).text = s := by
  unfold tkOf at *
  split
  · rename_i h0; rw [if_pos h0] at h; cases h
  · rename_i h0
    rw [if_neg h0] at h
    split
    · rfl
    · rename_i h1
      rw [if_neg h1] at h
      exfalso
      revert h
      (repeat' split) <;> simp
theorem pred_kind (s : Bs) : (decide ((tkOf s).kind ≠ 119) || !predS (tkOf s).text) = !predS s := by
  cases hp : predS s
  · by_cases hk : (tkOf s).kind = 119
    · rw [tk_text hk, hp]; simp
    · simp [hk]
  · rw [pred_low hp]; simp [hp]
theorem atomP_bad {p : KSt} (h : p.2 = true) : (atomP p).2.2 = true := by
  unfold atomP
  have ht := takeS_bad [40] (nextS_bad h)
  simp only
  split
  · have ha := argP_bad ht
    rw [moreP_bad _ _ _ ha]
    simp [ha]
  · simp [ht]
theorem atom_rel {p : KSt} {q : RSt} (h : RS p q) : RA (atomP p) (ratom q) := by
  have hn := h.next
  have hpk := pred_kind (peekS p)
  unfold ratom
  rw [hn]
  simp only
  by_cases hp : predS (peekS p) = true
  · have hk := pred_low hp
    have hpd : (decide ((tkOf (peekS p)).kind ≠ 119) || !predS (tkOf (peekS p)).text) = false := by rw [hpk, hp]; rfl
    rw [if_neg (by rw [Bool.or_eq_false_iff] at hpd; simpa using hpd)]
    rw [hk]
    have hne : (peekS p).isEmpty = false := by cases hq : peekS p with | nil => rw [hq] at hp; exact absurd hp (by decide) | cons a b => rfl
    have e : nextS p = (peekS p, (p.1.drop 1, p.2)) := by unfold nextS; rw [hne]; rfl
    unfold atomP
    rw [e]
    simp only
    have ht := take_rel h.drop 115 [40] (sy _ (by decide)) rfl
    rw [← ht.1]
    cases hc : (takeS (p.1.drop 1, p.2) [40]).1
    · simp only [Bool.false_eq_true, if_false, Bool.not_false, if_true]
      have hto : (takeS (p.1.drop 1, p.2) [40]).2 = (p.1.drop 1, p.2) := by
        unfold takeS at hc ⊢
        split
        · rfl
        · rename_i hx; rw [if_neg hx] at hc; cases hc
      rw [hto]
      have hat : atomS ⟨peekS p, []⟩ = true := by unfold atomS argsS; simp [hp]
      refine .inr ⟨rfl, ?_⟩
      have := h.drop
      rw [hat]
      simpa using this
    · simp only [if_true, Bool.not_true, Bool.false_eq_true, if_false]
      have hlen : (takeS (p.1.drop 1, p.2) [40]).2.1.length = (ris (q.1.drop 1, q.2) 115 [40]).2.1.length := by rw [ht.2.2.2.1, List.length_map]
      rw [← hlen]
      generalize (takeS (p.1.drop 1, p.2) [40]).2 = p1 at *
      generalize (ris (q.1.drop 1, q.2) 115 [40]).2 = q1 at *
      have har := arg_rel ht.2
      have hm := more_rel (p1.1.length + 1) ([(argP p1).1], (argP p1).2) ([(rarg q1).1], (rarg q1).2) (by
        rcases har with ha | ⟨ha, hb⟩
        · exact .inl ha
        · exact .inr ⟨by simp only; rw [ha], hb⟩)
      simp only at hm
      have hfm : (moreP (p1.1.length + 1) (argP p1).2 [(argP p1).1]).2.2 = false → ∀ a ∈ (moreP (p1.1.length + 1) (argP p1).2 [(argP p1).1]).1, formedS a = true := by
        intro hb
        refine moreP_formed _ _ _ (fun a ha => ?_) hb
        rw [List.mem_singleton.1 ha]
        refine argP_formed ?_
        cases hx : (argP p1).2.2
        · rfl
        · rw [moreP_bad _ _ _ hx, hx] at hb; cases hb
      generalize moreP (p1.1.length + 1) (argP p1).2 [(argP p1).1] = m at *
      generalize rmore (p1.1.length + 1) (rarg q1).2 [(rarg q1).1] = n at *
      rcases hm with ⟨h1, h2⟩ | ⟨h1, h2⟩
      · rw [if_pos h2]
        refine .inl ⟨?_, h2⟩
        rw [h1]; simp
      · have hb := h2.1
        have hb' := h2.2.1
        have hb2 : ¬ (n.2.2 = true) := by rw [hb']; simp
        simp only [if_neg hb2]
        have htk := take_rel h2 115 [41] (sy _ (by decide)) rfl
        have hat : atomS ⟨peekS p, m.1⟩ = decide (m.1.length ≤ 6) := by
          unfold atomS argsS
          have : m.1.all formedS = true := List.all_eq_true.2 (hfm hb)
          simp [hp, this]
        simp only [hb, Bool.false_eq_true, if_false, Bool.false_or, hat, ← htk.1, ← h1]
        by_cases h6 : m.1.length ≤ 6
        · have h6' : ¬ (6 < m.1.length) := by omega
          cases ho : (takeS m.2 [41]).1
          · simp [RA]
          · refine .inr ⟨rfl, ?_⟩
            simp only [h6, h6', decide_true, decide_false, Bool.not_true, Bool.or_false]
            exact ⟨rfl, rfl, htk.2.2.2⟩
        · have h6' : 6 < m.1.length := by omega
          left
          simp [h6, h6']
  · rw [Bool.not_eq_true] at hp
    have hpd : (decide ((tkOf (peekS p)).kind ≠ 119) || !predS (tkOf (peekS p)).text) = true := by rw [hpk, hp]; rfl
    rw [if_pos (by rw [Bool.or_eq_true] at hpd; simpa using hpd)]
    left
    refine ⟨?_, rfl⟩
    have hnx : (nextS p).1 = peekS p := by
      unfold nextS; split
      · rename_i h0; cases hq : peekS p with | nil => rfl | cons a b => rw [hq] at h0; cases h0
      · rfl
    unfold atomP
    simp only [hnx]
    have hfa : ∀ l, atomS ⟨peekS p, l⟩ = false := fun l => by unfold atomS; simp [hp]
    split <;> simp [hfa]
theorem ltlP_bad {p : KSt} (h : p.2 = true) : (ltlP p).2.2 = true := by
  unfold ltlP
  simp only
  split
  · exact atomP_bad (nextS_bad h)
  · split
    · exact atomP_bad h
    · simp only [argP_bad (nextS_bad (argP_bad h)), Bool.true_or]
theorem ltl_rel {p : KSt} {q : RSt} (h : RS p q) : RA (ltlP p) (rltl q) := by
  have hn := h.next
  unfold ltlP rltl
  simp only
  have ht := take_rel h 119 sNot snot rfl
  by_cases h1 : peekS p = sNot
  · have hr : (ris q 119 sNot).1 = true := by rw [← ht.1]; unfold takeS; rw [if_neg (by rw [h1]; simp)]
    have e : (takeS p sNot).2 = (nextS p).2 := by unfold takeS; rw [if_neg (by rw [h1]; simp)]
    rw [if_pos h1, hr]
    simp only [if_true]
    have ha := atom_rel ht.2
    rw [e] at ha
    rcases ha with ha | ⟨ha, hb⟩
    · exact .inl ha
    · exact .inr ⟨by simp only; rw [ha], hb⟩
  · have hr : (ris q 119 sNot).1 = false := by rw [← ht.1]; unfold takeS; rw [if_pos (by simpa using h1)]
    rw [if_neg h1, hr, hn]
    simp only [Bool.false_eq_true, if_false]
    have hpk := pred_kind (peekS p)
    by_cases h2 : (!(peekS p).isEmpty && lowB ((peekS p).headD 0)) = true
    · rw [if_pos h2]
      by_cases hp : predS (peekS p) = true
      · have hpd : (decide ((tkOf (peekS p)).kind = 119) && predS (tkOf (peekS p)).text) = true := by rw [pred_low hp]; simp [hp]
        rw [if_pos hpd]
        have ha := atom_rel h
        rcases ha with ha | ⟨ha, hb⟩
        · exact .inl ha
        · exact .inr ⟨by simp only; rw [ha], hb⟩
      · have hpd : ¬ ((decide ((tkOf (peekS p)).kind = 119) && predS (tkOf (peekS p)).text) = true) := by
          intro hx
          rw [Bool.and_eq_true, decide_eq_true_eq] at hx
          rw [tk_text hx.1] at hx
          exact hp hx.2
        rw [if_neg hpd]
        have hab : (atomP p).2.2 = true := by
          rcases atom_rel h with ha | ⟨ha, hb⟩
          · exact ha.1
          · have hx : (ratom q).2.2 = true := by
              unfold ratom
              rw [hn]
              simp only
              rw [Bool.not_eq_true] at hp
              rw [hp] at hpk
              rw [if_pos (by rw [Bool.not_false, Bool.or_eq_true] at hpk; simpa using hpk)]
            rw [hb.2.1] at hx; cases hx
        -- the reference reads an argument: a word that begins with a lower case letter is none
        have hrb : (rarg q).2.2 = true := by
          have hw : tkOf (peekS p) = ⟨119, peekS p⟩ := by
            rw [Bool.and_eq_true] at h2
            unfold tkOf
            rw [if_neg (by simpa using h2.1), h2.2]
            rfl
          unfold rarg
          rw [hn, hw]
          have : formedS ⟨1, peekS p, 0⟩ = false := by
            rw [Bool.and_eq_true] at h2
            have hu := (lowI_not h2.2).1
            unfold formedS varS eachS
            have : uppI ((((peekS p).headD 0).toNat : Nat) : Int) = false := hu
            simp only [this]
            simp
          simp [rargOf, this]
        rw [hrb]
        simp only [Bool.true_or, if_true]
        exact .inl ⟨hab, rfl⟩
    · rw [if_neg h2]
      have hpd : ¬ ((decide ((tkOf (peekS p)).kind = 119) && predS (tkOf (peekS p)).text) = true) := by
        intro hx
        rw [Bool.and_eq_true, decide_eq_true_eq] at hx
        rw [tk_text hx.1] at hx
        refine h2 ?_
        have hpp := hx.2
        cases hq : peekS p with
        | nil => rw [hq] at hpp; exact absurd hpp (by decide)
        | cons c r =>
          rw [hq] at hpp
          unfold predS eachS at hpp
          simp only [Bool.and_eq_true, List.headD_cons] at hpp
          have hl : lowB c = true := hpp.2.1.2
          simp [hl]
      rw [if_neg hpd]
      rcases arg_rel h with ⟨ha, hb⟩ | ⟨ha, hb⟩
      · have hx : (argP (nextS (argP p).2).2).2.2 = true := argP_bad (nextS_bad ha)
        rw [hb]
        simp only [Bool.true_or, if_true]
        exact .inl ⟨by rw [hx]; rfl, rfl⟩
      · have hn2 := hb.next
        have hpeek := hb.peek
        have hnx : (nextS (argP p).2).1 = peekS (argP p).2 := by
          unfold nextS; split
          · rename_i h0; cases hq : peekS (argP p).2 with | nil => rfl | cons a b => rw [hq] at h0; cases h0
          · rfl
        rw [hnx, hn2, hb.2.1]
        have hopk : ∀ s : Bs, opsL.contains s = true → tkOf s = ⟨115, s⟩ ∧ s.isEmpty = false ∧ compsS ⟨false, s, ⟨[], []⟩⟩ = true := by
          intro s hs
          have : s ∈ opsL := List.contains_iff_mem.1 hs
          have key : ∀ s ∈ opsL, tkOf s = ⟨115, s⟩ ∧ s.isEmpty = false ∧ compsS ⟨false, s, ⟨[], []⟩⟩ = true := by decide
          exact key s this
        have hfa : formedS (argP p).1 = true := argP_formed hb.1
        by_cases ho : opsL.contains (peekS (argP p).2) = true
        · have hk := hopk _ ho
          have e : nextS (argP p).2 = (peekS (argP p).2, ((argP p).2.1.drop 1, (argP p).2.2)) := by unfold nextS; rw [hk.2.1]; rfl
          rw [hk.1, e]
          rw [if_neg (by simp [List.contains_iff_mem.1 ho])]
          have hd := hb.drop
          have hdd : RS ((argP p).2.1.drop 1, (argP p).2.2) ((rarg q).2.1.drop 1, (rarg q).2.2) := hd
          have har := arg_rel hdd
          rw [hb.2.1] at har hd
          simp only
          have hop : opsL.contains (peekS (argP p).2) = true := ho
          have hcs : compsS ⟨false, peekS (argP p).2, ⟨[], [(argP p).1, (argP ((argP p).2.1.drop 1, (argP p).2.2)).1]⟩⟩ = true := hk.2.2
          have hls : (argP ((argP p).2.1.drop 1, (argP p).2.2)).2.2 = false → ltlS ⟨false, peekS (argP p).2, ⟨[], [(argP p).1, (argP ((argP p).2.1.drop 1, (argP p).2.2)).1]⟩⟩ = true := by
            intro hz
            have hf2 := argP_formed hz
            unfold ltlS
            rw [hcs]
            simp only [hop, hk.2.1, argsS, List.all_cons, List.all_nil, hfa, hf2]
            rfl
          rcases har with ⟨hc, hd2⟩ | ⟨hc, hd2⟩
          · exact .inl ⟨by rw [hc]; rfl, hd2⟩
          · right
            have hz := hd2.1
            refine ⟨by simp only; rw [ha, hc], ?_⟩
            rw [hls hz, hk.2.1, hz]
            exact ⟨rfl, hd2.2⟩
        · have hoc : opsL.contains (tkOf (peekS (argP p).2)).text = false ∨ (tkOf (peekS (argP p).2)).kind ≠ 115 := by
            by_cases hkk : (tkOf (peekS (argP p).2)).kind = 115
            · left
              have : (tkOf (peekS (argP p).2)).text = peekS (argP p).2 := by
                generalize peekS (argP p).2 = s at *
                unfold tkOf at hkk ⊢
                split
                · rename_i h0; rw [if_pos h0] at hkk; cases hkk
                · rename_i h0
                  rw [if_neg h0] at hkk
                  split
                  · rfl
                  · rename_i h1
                    rw [if_neg h1] at hkk
                    split
                    · rfl
                    · rename_i h2
                      rw [if_neg h2] at hkk
                      split
                      · rename_i h3; rw [if_pos h3] at hkk; cases hkk
                      · rfl
              rw [this]
              simpa using ho
            · exact .inr hkk
          rw [if_pos (by rcases hoc with h3 | h3; (rw [h3]; simp); simp [h3])]
          left
          refine ⟨?_, rfl⟩
          rw [Bool.not_eq_true] at ho
          cases hem : (peekS (argP p).2).isEmpty
          · have : ∀ x y, ltlS ⟨false, peekS (argP p).2, ⟨[], [x, y]⟩⟩ = false := by
              intro x y
              unfold ltlS compsS
              simp only [hem, ho]
              rfl
            simp [this]
          · simp
theorem moreL_bad (f : Nat) (p : KSt) (out : List Ltl) (h : p.2 = true) : moreL f p out = (out, p) := by
  cases f with
  | zero => rfl
  | succ f => rw [moreL, h]; rfl
theorem rmoreL_bad (f : Nat) (p : RSt) (out : List Ltl) (h : p.2 = true) : rmoreL f p out = (out, p) := by
  cases f with
  | zero => rfl
  | succ f => rw [rmoreL, h]; rfl
theorem moreL_rel (f : Nat) : ∀ (x : List Ltl × KSt) (y : List Ltl × RSt), RA x y → RA (moreL f x.2 x.1) (rmoreL f y.2 y.1) := by
  induction f with
  | zero => intro x y h; exact h
  | succ f ih =>
    intro x y h
    rcases h with ⟨h1, h2⟩ | ⟨h1, h2⟩
    · rw [moreL_bad _ _ _ h1, rmoreL_bad _ _ _ h2]
      exact .inl ⟨h1, h2⟩
    · have ht := take_rel h2 115 [44] (sy _ (by decide)) rfl
      rw [moreL, rmoreL, h2.1, h2.2.1, ← ht.1]
      cases hc : (takeS x.2 [44]).1
      · exact .inr ⟨h1, h2⟩
      · refine ih (_, _) (_, _) ?_
        rcases ltl_rel ht.2 with ha | ⟨ha, hb⟩
        · exact .inl ha
        · exact .inr ⟨by rw [h1]; simp only; rw [ha], hb⟩
theorem rule_rel {p : KSt} {q : RSt} (h : RS p q) : (ruleP p).2 = !(rrule q).2.2 ∧ ((ruleP p).2 = true → (ruleP p).1 = (rrule q).1) := by
  unfold ruleP rrule
  simp only
  rcases atom_rel h with ⟨h1, h2⟩ | ⟨h1, h2⟩
  · -- the head is wrong
    rw [h2]
    simp only [Bool.not_true, Bool.false_and, Bool.false_eq_true, if_false, if_true, h2]
    have hb : ∀ s : KSt, s.2 = true → ((takeS s [46]).1 && (takeS s [46]).2.1.isEmpty && !(takeS s [46]).2.2) = false := by
      intro s hs
      rw [takeS_bad _ hs]; simp
    have ht := takeS_bad [58, 45] h1
    split
    · rw [moreL_bad _ _ _ (ltlP_bad ht)]
      simp only
      rw [hb _ (ltlP_bad ht)]
      exact ⟨rfl, fun h => nomatch h⟩
    · simp only
      rw [hb _ ht]
      exact ⟨rfl, fun h => nomatch h⟩
  · have ht := take_rel h2 115 [58, 45] (sy _ (by decide)) rfl
    rw [h2.2.1, ← ht.1]
    simp only [Bool.not_false, Bool.true_and]
    have hm : RA (if (takeS (atomP p).2 [58, 45]).1 = true then moreL ((takeS (atomP p).2 [58, 45]).2.1.length + 1) (ltlP (takeS (atomP p).2 [58, 45]).2).2 [(ltlP (takeS (atomP p).2 [58, 45]).2).1] else ([], (takeS (atomP p).2 [58, 45]).2))
        (if (takeS (atomP p).2 [58, 45]).1 = true then rmoreL ((ris (ratom q).2 115 [58, 45]).2.1.length + 1) (rltl (ris (ratom q).2 115 [58, 45]).2).2 [(rltl (ris (ratom q).2 115 [58, 45]).2).1] else ([], (ratom q).2)) := by
      cases hc : (takeS (atomP p).2 [58, 45]).1
      · simp only [Bool.false_eq_true, if_false]
        have hr : (ris (ratom q).2 115 [58, 45]).2 = (ratom q).2 := by
          have : (ris (ratom q).2 115 [58, 45]).1 = false := by rw [← ht.1, hc]
          unfold ris at this ⊢
          split
          · rename_i hx; rw [if_pos hx] at this; cases this
          · rfl
        have := ht.2
        rw [hr] at this
        exact .inr ⟨rfl, this⟩
      · simp only [if_true]
        have hlen : (takeS (atomP p).2 [58, 45]).2.1.length = (ris (ratom q).2 115 [58, 45]).2.1.length := by rw [ht.2.2.2.1, List.length_map]
        rw [← hlen]
        refine moreL_rel _ (_, _) (_, _) ?_
        rcases ltl_rel ht.2 with ha | ⟨ha, hb⟩
        · exact .inl ha
        · exact .inr ⟨by simp only; rw [ha], hb⟩
    generalize (if (takeS (atomP p).2 [58, 45]).1 = true then moreL ((takeS (atomP p).2 [58, 45]).2.1.length + 1) (ltlP (takeS (atomP p).2 [58, 45]).2).2 [(ltlP (takeS (atomP p).2 [58, 45]).2).1] else ([], (takeS (atomP p).2 [58, 45]).2)) = m at *
    generalize (if (takeS (atomP p).2 [58, 45]).1 = true then rmoreL ((ris (ratom q).2 115 [58, 45]).2.1.length + 1) (rltl (ris (ratom q).2 115 [58, 45]).2).2 [(rltl (ris (ratom q).2 115 [58, 45]).2).1] else ([], (ratom q).2)) = n at *
    rcases hm with ⟨h3, h4⟩ | ⟨h3, h4⟩
    · rw [h4]
      simp only [if_true, h4]
      rw [takeS_bad _ h3]
      simp
    · have hd := take_rel h4 115 [46] (sy _ (by decide)) rfl
      rw [h4.2.1]
      simp only [Bool.false_eq_true, if_false]
      rw [← hd.1, ← h1, ← h3, hd.2.1]
      have hie : (ris n.2 115 [46]).2.1.isEmpty = (takeS m.2 [46]).2.1.isEmpty := by
        rw [hd.2.2.2.1]; cases (takeS m.2 [46]).2.1 <;> rfl
      rw [hie]
      refine ⟨by simp, fun _ => rfl⟩
theorem parseLine (line : Bs) : ((!(tokensS line).2 || !(ruleP ((tokensS line).1, false)).2) = (!(rtokS line).2 || (rrule ((rtokS line).1, false)).2.2)) ∧
    ((!(tokensS line).2 || !(ruleP ((tokensS line).1, false)).2) = false → (ruleP ((tokensS line).1, false)).1 = (rrule ((rtokS line).1, false)).1) := by
  have ht := rtokS_eq line
  have hr := rule_rel (p := ((tokensS line).1, false)) (q := ((rtokS line).1, false)) ⟨rfl, rfl, by rw [ht.1], ht.2⟩
  rw [hr.1, ht.1]
  refine ⟨by simp, fun h => ?_⟩
  rw [Bool.or_eq_false_iff] at h
  have h2 := hr.2 (by have := h.2; rw [ht.1] at hr; rw [hr.1]; simpa using this)
  rw [h2, ht.1]
theorem comm_eq (s : Bs) : commS s = ((trimS s).isEmpty || (trimS s).headD 0 == 37) := by
  induction s with
  | nil => rfl
  | cons c r ih =>
    rw [commS]
    by_cases h : (c == 32) = true
    · obtain rfl : c = 32 := by simpa using h
      rw [if_pos h, ih, trim_cons]
    · rw [Bool.not_eq_true] at h
      rw [if_neg (by rw [h]; simp), trim_else h]
      rfl
theorem parse_go (l m : List Bs) (h : l = m ∨ l = m ++ [[]]) (i : Nat) (out : List Rul) : parseGo l i out = rparseGo m i out := by
  induction m generalizing l i out with
  | nil =>
    rcases h with rfl | rfl
    · rfl
    · rfl
  | cons line r ih =>
    obtain ⟨l', rfl, hl'⟩ : ∃ l', l = line :: l' ∧ (l' = r ∨ l' = r ++ [[]]) := by
      rcases h with rfl | rfl
      · exact ⟨r, rfl, .inl rfl⟩
      · exact ⟨_, rfl, .inr rfl⟩
    have hp := parseLine line
    rw [parseGo, rparseGo, comm_eq, ih l' hl']
    simp only
    rw [hp.1]
    split
    · rfl
    · split
      · rfl
      · rename_i hx
        split
        · rfl
        · rw [ih l' hl', hp.2 (by rw [hp.1]; simpa using hx)]
theorem split_eq (s : Bs) : ∀ cur : Bs, splitGo cur s = rsplit cur s ∨ splitGo cur s = rsplit cur s ++ [[]] := by
  induction s with
  | nil =>
    intro cur
    rw [splitGo, rsplit]
    cases cur with
    | nil => right; rfl
    | cons a b => left; rfl
  | cons c r ih =>
    intro cur
    rw [splitGo, rsplit]
    split
    · rcases ih [] with h | h
      · left; rw [h]
      · right; rw [h]; rfl
    · exact ih _
theorem parse_eq (s : Bs) : parseS s = rparseS s := by
  unfold parseS rparseS splitS
  rw [parse_go _ (rsplit [] s) (split_eq s [])]
theorem parseAtom_eq (s : Bs) : parseAtomS s = rparseAtomS s := by
  unfold parseAtomS rparseAtomS
  have ht := rtokS_eq s
  have hr := atom_rel (p := ((tokensS s).1, false)) (q := ((rtokS s).1, false)) ⟨rfl, rfl, by rw [ht.1], ht.2⟩
  have h2 : (rtokS s).2 = (tokensS s).2 := by rw [ht.1]
  by_cases h4 : 4096 < s.length
  · simp [h4]
  · rw [if_neg h4]
    simp only
    rw [h2]
    cases hb : (tokensS s).2
    · simp
    · simp only [h4, decide_false, Bool.not_true, Bool.or_false, Bool.false_eq_true, if_false, Bool.false_or]
      rcases hr with ⟨h5, h6⟩ | ⟨h5, h6⟩
      · rw [h5, h6]; rfl
      · rw [h6.1, h6.2.1, h5, h6.2.2.1]
        cases (atomP ((tokensS s).1, false)).2.1 <;> simp
end Go.Proofs.YtjopmgoacncmgaaGreatDoor

namespace Go.Proofs.YtjopmgoacncmgaaGreatDoor

/-- A text spells tokens. -/
def Sp (s : Bs) (ts : List Bs) : Prop := ∀ (G : Nat) (out : List Bs), (trimS s).length < G → tokGo G (trimS s) out = (out ++ ts, true)
theorem Sp.nil : Sp [] [] := by
  intro G out h
  obtain ⟨g, rfl⟩ : ∃ k, G = k + 1 := ⟨G - 1, by omega⟩
  simp [trimS, tokGo]
theorem Sp.blank {s : Bs} {ts : List Bs} (h : Sp s ts) : Sp (32 :: s) ts := by
  intro G out hG
  rw [trim_cons] at hG ⊢
  exact h G out hG
theorem Sp.tok {t s : Bs} {ts : List Bs} (h : Sp s ts) (h0 : t ≠ []) (h32 : (t.headD 0 == 32) = false) (hl : lenS (t ++ s) = t.length) : Sp (t ++ s) (t :: ts) := by
  intro G out hG
  cases t with
  | nil => exact absurd rfl h0
  | cons c r =>
    rw [List.headD_cons] at h32
    rw [List.cons_append, trim_else h32] at hG ⊢
    rw [List.cons_append] at hl
    obtain ⟨g, rfl⟩ : ∃ k, G = k + 1 := ⟨G - 1, by omega⟩
    have hz : lenS (c :: (r ++ s)) ≠ 0 := by rw [hl]; simp
    rw [tokGo, if_neg (by simp), if_neg hz, hl]
    have e1 : (c :: (r ++ s)).drop (c :: r).length = s := by rw [← List.cons_append]; exact List.drop_left
    have e2 : (c :: (r ++ s)).take (c :: r).length = c :: r := by rw [← List.cons_append]; exact List.take_left
    rw [e1, e2]
    have := trim_len s
    rw [h g _ (by simp at hG; omega)]
    simp
theorem Sp.tokens {s : Bs} {ts : List Bs} (h : Sp s ts) : tokensS s = (ts, true) := by
  have := h (s.length + 1) [] (by have := trim_len s; omega)
  exact this
theorem lenS_cons (c : UInt8) (r : Bs) : lenS (c :: r) = (if lowB c || uppB c then 1 + spanS varB r
    else if digB c || (c == 45 && decide (1 < (c :: r).length) && digB (r.headD 0)) then 1 + spanS digB r
    else if c == 34 then (if 1 + spanS (fun c => c != 34) r = (c :: r).length then 0 else 1 + spanS (fun c => c != 34) r + 1)
    else symS syms (c :: r)) := rfl
theorem span_app (p : UInt8 → Bool) (r s : Bs) (hr : ∀ c ∈ r, p c = true) (hs : s = [] ∨ p (s.headD 0) = false) : spanS p (r ++ s) = r.length := by
  unfold spanS
  induction r with
  | nil =>
    rw [List.nil_append]
    cases s with
    | nil => rfl
    | cons a b =>
      have : p a = false := hs.resolve_left (by simp)
      rw [List.takeWhile_cons, this]; rfl
  | cons a t ih =>
    rw [List.cons_append, List.takeWhile_cons, hr a List.mem_cons_self]
    simp [ih (fun c hc => hr c (List.mem_cons_of_mem _ hc))]
/-- The text behind a token begins with a byte that ends words and numbers. -/
def Stop (s : Bs) : Prop := s = [] ∨ (varB (s.headD 0) = false)
theorem dig_var {c : UInt8} (h : varB c = false) : digB c = false := by
  unfold varB varI at h; unfold digB; simp at h; simp [h]
theorem len_word {c : UInt8} {r s : Bs} (hc : (lowB c || uppB c) = true) (hr : ∀ x ∈ r, varB x = true) (hs : Stop s) : lenS ((c :: r) ++ s) = (c :: r).length := by
  rw [List.cons_append, lenS_cons, if_pos hc, span_app varB r s hr hs, List.length_cons, Nat.add_comm]
theorem len_num {c : UInt8} {r s : Bs} (hr : allDig r) (hc : digB c = true ∨ (c = 45 ∧ r ≠ [])) (hs : Stop s) : lenS ((c :: r) ++ s) = (c :: r).length := by
  have h1 : (lowB c || uppB c) = false := by
    rcases hc with h | h
    · exact dig_low h
    · exact min_low (by rw [h.1]; rfl)
  have h2 : (digB c || (c == 45 && decide (1 < (c :: (r ++ s)).length) && digB ((r ++ s).headD 0))) = true := by
    rcases hc with h | ⟨h, h'⟩
    · rw [h]; rfl
    · cases r with
      | nil => exact absurd rfl h'
      | cons a b => simp [h, hr a List.mem_cons_self]
  rw [List.cons_append, lenS_cons, if_neg (by rw [h1]; simp), if_pos h2, span_app digB r s hr (hs.imp id dig_var), List.length_cons, Nat.add_comm]
theorem len_text {t s : Bs} (ht : ∀ x ∈ t, (x != 34) = true) : lenS ((34 :: (t ++ [34])) ++ s) = (34 :: (t ++ [34])).length := by
  have e : (34 :: (t ++ [34])) ++ s = 34 :: (t ++ (34 :: s)) := by simp
  have hq := quo_low (c := 34) rfl
  rw [e, lenS_cons, if_neg (by rw [hq.1]; simp), if_neg (by rw [hq.2.1, hq.2.2]; simp), if_pos (show ((34 : UInt8) == 34) = true from rfl), span_app _ t (34 :: s) ht (.inr rfl)]
  rw [if_neg (by simp; omega)]
  simp
  omega
theorem len_sym {t s : Bs} (ht : t ∈ syms) (hs : t = [60] → (s.headD 0 == 61) = false) : lenS (t ++ s) = t.length := by
  simp only [syms, List.mem_cons, List.not_mem_nil, or_false] at ht
  rcases ht with rfl | rfl | rfl | rfl | rfl | rfl | rfl | rfl | rfl
  · rfl
  · rfl
  · rfl
  · rfl
  · rfl
  · rfl
  · rfl
  · cases s <;> rfl
  · have := hs rfl
    rw [List.cons_append, List.nil_append, lenS_cons]
    cases s with
    | nil => rfl
    | cons a b =>
      rw [List.headD_cons] at this
      have ha : ((61 : UInt8) == a) = false := by rw [beq_eq_false_iff_ne] at this ⊢; exact Ne.symm this
      rw [if_neg (by decide), if_neg (by simp; decide), if_neg (by decide)]
      simp [symS, syms, List.isPrefixOf, ha]

/- What is printed, byte by byte. -/
theorem pre_var {c : UInt8} (h : preB c = true) : varB c = true := by
  unfold preB preI at h; unfold varB varI
  simp at h ⊢
  rcases h with (h | h) | h <;> simp [h]
theorem eachS_cons {c : UInt8} {r : Bs} {f o : Int → Bool} (h : eachS (c :: r) f o = true) : f c.toNat = true ∧ (∀ x ∈ c :: r, o x.toNat = true) ∧ (c :: r).length ≤ 32 := by
  unfold eachS at h
  rw [Bool.and_eq_true, Bool.and_eq_true, Bool.and_eq_true, List.all_eq_true] at h
  exact ⟨h.1.2, h.2, by simpa using h.1.1.2⟩
theorem eachS_ne {s : Bs} {f o : Int → Bool} (h : eachS s f o = true) : s ≠ [] := by
  rintro rfl
  unfold eachS at h
  simp at h
theorem len_pred {s t : Bs} (h : predS s = true) (ht : Stop t) : lenS (s ++ t) = s.length ∧ s ≠ [] ∧ (s.headD 0 == 32) = false := by
  unfold predS at h
  rw [Bool.and_eq_true] at h
  cases s with
  | nil => exact absurd rfl (eachS_ne h.2)
  | cons c r =>
    have := eachS_cons h.2
    have hl : lowB c = true := this.1
    refine ⟨len_word (by rw [hl]; rfl) (fun x hx => pre_var (this.2.1 x (List.mem_cons_of_mem _ hx))) ht, by simp, ?_⟩
    rw [List.headD_cons, beq_eq_false_iff_ne]
    rintro rfl
    exact absurd hl (by decide)
theorem natDig_dig (f n : Nat) : allDig (natDig f n) := by
  induction f generalizing n with
  | zero => intro c hc; cases hc
  | succ f ih =>
    rw [natDig]
    have hd : ∀ k, k < 10 → digB (48 + k).toUInt8 = true := by decide
    split
    · rename_i h
      intro c hc
      rw [List.mem_singleton.1 hc]
      exact hd n h
    · intro c hc
      rcases List.mem_append.1 hc with h1 | h1
      · exact ih _ c h1
      · rw [List.mem_singleton.1 h1]; exact hd _ (Nat.mod_lt _ (by omega))
theorem natDig_ne (f n : Nat) : natDig (f + 1) n ≠ [] := by rw [natDig]; split <;> simp
theorem natDig_back (f : Nat) : ∀ n, n < 10 ^ f → decN 0 (natDig f n) = n := by
  induction f with
  | zero => intro n h; simp at h; subst h; rfl
  | succ f ih =>
    intro n h
    have hd : ∀ k, k < 10 → (48 + k).toUInt8.toNat - 48 = k := by decide
    rw [natDig]
    split
    · rename_i hn
      rw [decN_cons, decN_nil, hd n hn]; omega
    · rw [decN_app, ih (n / 10) (by rw [Nat.pow_succ] at h; omega), hd _ (Nat.mod_lt _ (by omega))]
      omega
theorem itoa_sg (v : Int) (h : v.natAbs < 10 ^ 20) : ∃ neg d, itoaS v = sgB neg ++ d ∧ allDig d ∧ d ≠ [] ∧ sg neg (decN 0 d) = v := by
  unfold itoaS
  by_cases hv : v < 0
  · refine ⟨true, natDig 20 v.natAbs, by rw [if_pos hv]; rfl, natDig_dig _ _, natDig_ne _ _, ?_⟩
    rw [natDig_back 20 _ h]
    unfold sg
    rw [if_pos rfl]
    omega
  · refine ⟨false, natDig 20 v.natAbs, by rw [if_neg hv]; rfl, natDig_dig _ _, natDig_ne _ _, ?_⟩
    rw [natDig_back 20 _ h]
    unfold sg
    rw [if_neg (by simp)]
    omega
/-- A printed argument is one token, which is read as the argument. -/
theorem arg_tok {a : Arg} (h : formedS a = true) : argOf (prArg a) = a ∧ prArg a ≠ [] ∧ ((prArg a).headD 0 == 32) = false ∧ (∀ s, Stop s → lenS (prArg a ++ s) = (prArg a).length) ∧ (∀ t ∈ opsL, prArg a ≠ t) ∧ prArg a ≠ sNot ∧ (lowB ((prArg a).headD 0) = false) ∧ ∀ c ∈ prArg a, c ≠ 10 := by
  obtain ⟨k, t, n⟩ := a
  unfold formedS at h
  simp only at h
  split at h
  · rename_i hk
    subst hk
    rw [Bool.and_eq_true, beq_iff_eq] at h
    obtain ⟨rfl, h⟩ := h
    have hp : prArg ⟨1, t, 0⟩ = t := rfl
    rw [hp]
    unfold varS at h
    cases t with
    | nil => exact absurd rfl (eachS_ne h)
    | cons c r =>
      have he := eachS_cons h
      have hu : uppB c = true := he.1
      have hn := uppI_not hu
      have h34 : ¬ (c = 34) := by have := hn.2.2.2; rw [beq_eq_false_iff_ne] at this; exact this
      have e2 : argOf (c :: r) = if c = 34 then ⟨2, ((c :: r).drop 1).take ((c :: r).length - 2), 0⟩ else if uppB c then ⟨1, c :: r, 0⟩ else match numS (c :: r) with | some n => ⟨3, [], n⟩ | none => default := rfl
      refine ⟨by rw [e2, if_neg h34, if_pos hu], by simp, ?_, fun s hs => len_word (by rw [hu]; simp) (fun x hx => he.2.1 x (List.mem_cons_of_mem _ hx)) hs, ?_, ?_, hn.1, ?_⟩
      · rw [List.headD_cons, beq_eq_false_iff_ne]; rintro rfl; exact absurd hu (by decide)
      · intro t ht e
        have key : ∀ t ∈ opsL, uppB (t.headD 0) = false := by decide
        have := key t ht
        rw [← e, List.headD_cons, hu] at this
        cases this
      · intro e
        have : uppB (sNot.headD 0) = false := by decide
        rw [← e, List.headD_cons, hu] at this
        cases this
      · rintro x hx rfl
        exact absurd (he.2.1 _ hx) (by decide)
  · split at h
    · rename_i hk
      subst hk
      rw [Bool.and_eq_true, beq_iff_eq] at h
      obtain ⟨rfl, h⟩ := h
      have hp : prArg ⟨2, t, 0⟩ = 34 :: (t ++ [34]) := rfl
      rw [hp]
      unfold conS at h
      rw [Bool.and_eq_true, List.all_eq_true] at h
      have hc : ∀ x ∈ t, (x != 34) = true := by
        intro x hx
        have := h.2 x hx
        rw [bne_iff_ne]
        rintro rfl
        exact absurd this (by decide)
      refine ⟨?_, by simp, rfl, fun s hs => len_text hc, ?_, (by intro e; injection e with e _; exact absurd e (by decide)), rfl, ?_⟩
      · have : argOf (34 :: (t ++ [34])) = ⟨2, ((34 :: (t ++ [34])).drop 1).take ((34 :: (t ++ [34])).length - 2), 0⟩ := rfl
        rw [this]
        congr 1
        simp
      · intro s hs e
        have key : ∀ t ∈ opsL, (t.headD 0 == 34) = false := by decide
        have := key s hs
        rw [← e] at this
        cases this
      · intro x hx
        rcases List.mem_cons.1 hx with rfl | hx
        · decide
        · rcases List.mem_append.1 hx with hx | hx
          · rintro rfl; exact absurd (h.2 _ hx) (by decide)
          · rw [List.mem_singleton.1 hx]; decide
    · split at h
      · rename_i hk
        subst hk
        rw [Bool.and_eq_true, Bool.and_eq_true, decide_eq_true_eq, decide_eq_true_eq] at h
        have ht : t = [] := by cases t with | nil => rfl | cons a b => exact absurd h.1.1 (by simp)
        subst ht
        have hp : prArg ⟨3, [], n⟩ = itoaS n := rfl
        rw [hp]
        have hab : n.natAbs < 10 ^ 20 := by omega
        obtain ⟨neg, d, hi, hd, hne, hsg⟩ := itoa_sg n hab
        have hnum : numS (itoaS n) = some n := by
          rw [hi, numS_of neg d hd hne, hsg, if_pos ⟨by omega, by omega, hi⟩]
        have hcons : ∃ c r, itoaS n = c :: r ∧ allDig r ∧ (digB c = true ∨ (c = 45 ∧ r ≠ [])) := by
          rw [hi]
          cases neg
          · cases d with
            | nil => exact absurd rfl hne
            | cons c r => exact ⟨c, r, rfl, hd.tail, .inl (hd c List.mem_cons_self)⟩
          · exact ⟨45, d, rfl, hd, .inr ⟨rfl, hne⟩⟩
        obtain ⟨c, r, hcr, hr, hc⟩ := hcons
        rw [hcr] at hnum ⊢
        have hlu : (lowB c || uppB c) = false := by
          rcases hc with h | h
          · exact dig_low h
          · exact min_low (by rw [h.1]; rfl)
        rw [Bool.or_eq_false_iff] at hlu
        have h34 : ¬ (c = 34) := by
          rintro rfl
          rcases hc with h | h
          · exact absurd h (by decide)
          · exact absurd h.1 (by decide)
        have h45 : c = 45 ∨ digB c = true := hc.elim .inr fun h => .inl h.1
        have e2 : argOf (c :: r) = if c = 34 then ⟨2, ((c :: r).drop 1).take ((c :: r).length - 2), 0⟩ else if uppB c then ⟨1, c :: r, 0⟩ else match numS (c :: r) with | some n => ⟨3, [], n⟩ | none => default := rfl
        refine ⟨by rw [e2, if_neg h34, if_neg (by rw [hlu.2]; simp), hnum], by simp, ?_, fun s hs => len_num hr hc hs, ?_, ?_, hlu.1, ?_⟩
        · rw [List.headD_cons, beq_eq_false_iff_ne]; rintro rfl; rcases h45 with h | h; exact absurd h (by decide); exact absurd h (by decide)
        · intro t ht e
          have key : ∀ t ∈ opsL, (t.headD 0 == 45) = false ∧ digB (t.headD 0) = false := by decide
          have := key t ht
          rw [← e, List.headD_cons] at this
          rcases h45 with h | h
          · rw [h] at this; exact absurd this.1 (by decide)
          · rw [h] at this; cases this.2
        · intro e
          have : lowB (sNot.headD 0) = true := by decide
          rw [← e, List.headD_cons, hlu.1] at this
          cases this
        · intro x hx
          rcases List.mem_cons.1 hx with rfl | hx
          · rintro rfl; rcases h45 with h | h; exact absurd h (by decide); exact absurd h (by decide)
          · rintro rfl; exact absurd (hr _ hx) (by decide)
      · cases h

/- Tokens of what is printed. -/
def tkArgs : List Arg → List Bs
  | [] => []
  | [a] => [prArg a]
  | a :: b :: r => prArg a :: [44] :: tkArgs (b :: r)
def tkAtom (a : Atm) : List Bs := if a.args.length = 0 then [a.name] else a.name :: [40] :: (tkArgs a.args ++ [[41]])
theorem stop_of (c : UInt8) (r : Bs) (h : varB c = false) : Stop (c :: r) := .inr h
theorem sym_spell {t s : Bs} {ts : List Bs} (h : Sp s ts) (ht : t ∈ syms) (hs : t = [60] → (s.headD 0 == 61) = false) : Sp (t ++ s) (t :: ts) := by
  have key : ∀ t ∈ syms, t ≠ [] ∧ (t.headD 0 == 32) = false := by decide
  exact h.tok (key t ht).1 (key t ht).2 (len_sym ht hs)
theorem join_spell (l : List Arg) (hl : ∀ a ∈ l, formedS a = true) {s : Bs} {ts : List Bs} (h : Sp s ts) (hs : Stop s) (hne : l ≠ []) : Sp (joinS (l.map prArg) ++ s) (tkArgs l ++ ts) := by
  induction l with
  | nil => exact absurd rfl hne
  | cons a r ih =>
    have ha := arg_tok (hl a List.mem_cons_self)
    cases r with
    | nil =>
      simp only [List.map_cons, List.map_nil, joinS, tkArgs]
      exact h.tok ha.2.1 ha.2.2.1 (ha.2.2.2.1 s hs)
    | cons b t =>
      have := ih (fun x hx => hl x (List.mem_cons_of_mem _ hx)) (by simp)
      simp only [List.map_cons] at this
      simp only [List.map_cons, joinS, tkArgs, List.cons_append]
      have e : prArg a ++ [44, 32] ++ joinS (prArg b :: t.map prArg) ++ s = prArg a ++ ([44] ++ (32 :: (joinS (prArg b :: t.map prArg) ++ s))) := by simp
      rw [e]
      refine Sp.tok (sym_spell this.blank (by decide) (by simp)) ha.2.1 ha.2.2.1 (ha.2.2.2.1 _ (stop_of _ _ (by decide)))
theorem atom_spell {a : Atm} (ha : atomS a = true) {s : Bs} {ts : List Bs} (h : Sp s ts) (hs : Stop s) : Sp (prAtom a ++ s) (tkAtom a ++ ts) := by
  unfold atomS argsS at ha
  rw [Bool.and_eq_true, Bool.and_eq_true, List.all_eq_true] at ha
  unfold prAtom tkAtom
  by_cases h0 : a.args.length = 0
  · rw [if_pos h0, if_pos h0]
    have := len_pred ha.1.1 hs
    exact h.tok this.2.1 this.2.2 this.1
  · rw [if_neg h0, if_neg h0]
    have hj := join_spell a.args ha.2 (sym_spell (t := [41]) h (by decide) (by simp)) (stop_of _ _ (by decide)) (by intro e; rw [e] at h0; exact h0 rfl)
    have h1 := sym_spell (t := [40]) hj (by decide) (by simp)
    have := len_pred (t := [40] ++ (joinS (a.args.map prArg) ++ ([41] ++ s))) ha.1.1 (stop_of _ _ (by decide))
    have h2 := h1.tok this.2.1 this.2.2 this.1
    have e1 : a.name ++ [40] ++ joinS (a.args.map prArg) ++ [41] ++ s = a.name ++ ([40] ++ (joinS (a.args.map prArg) ++ ([41] ++ s))) := by simp
    have e2 : a.name :: [40] :: (tkArgs a.args ++ [[41]]) ++ ts = a.name :: [40] :: (tkArgs a.args ++ ([41] :: ts)) := by simp
    rw [e1, e2]
    exact h2
def tkLtl (l : Ltl) : List Bs :=
  if compsS l then [prArg (l.atom.args.getD 0 default), l.op, prArg (l.atom.args.getD 1 default)] else if l.neg then sNot :: tkAtom l.atom else tkAtom l.atom
theorem not_len {s : Bs} (hs : Stop s) : lenS (sNot ++ s) = sNot.length := len_word (c := 110) (r := [111, 116]) (by decide) (by decide) hs
theorem ltl_args {l : Ltl} (hl : ltlS l = true) (hc : compsS l = true) : l.op ∈ opsL ∧ l.neg = false ∧ l.atom.name = [] ∧ ∃ x y, l.atom.args = [x, y] ∧ formedS x = true ∧ formedS y = true := by
  unfold ltlS at hl
  rw [hc] at hl
  simp only [Bool.not_true, Bool.false_eq_true, if_false, Bool.and_eq_true, beq_iff_eq, Bool.not_eq_true'] at hl
  obtain ⟨⟨⟨⟨h1, h2⟩, h3⟩, h4⟩, h5⟩ := hl
  refine ⟨List.contains_iff_mem.1 h1, h2, List.isEmpty_iff.1 h3, ?_⟩
  unfold argsS at h5
  match hx : l.atom.args, h4, h5 with
  | [x, y], _, h5 =>
    simp at h5
    exact ⟨x, y, rfl, h5.1, h5.2⟩
theorem ltl_spell {l : Ltl} (hl : ltlS l = true) {s : Bs} {ts : List Bs} (h : Sp s ts) (hs : Stop s) : Sp (prLtl l ++ s) (tkLtl l ++ ts) := by
  unfold prLtl tkLtl
  by_cases hc : compsS l = true
  · rw [if_pos hc, if_pos hc]
    obtain ⟨ho, _, _, x, y, hxy, hx, hy⟩ := ltl_args hl hc
    rw [hxy]
    have ax := arg_tok hx
    have ay := arg_tok hy
    have h1 : Sp (prArg y ++ s) (prArg y :: ts) := h.tok ay.2.1 ay.2.2.1 (ay.2.2.2.1 s hs)
    have hos : l.op ∈ syms := by
      have key : ∀ t ∈ opsL, t ∈ syms := by decide
      exact key _ ho
    have h2 := sym_spell h1.blank hos (fun _ => rfl)
    have hst : Stop (32 :: (l.op ++ (32 :: (prArg y ++ s)))) := stop_of _ _ (by decide)
    have h3 := h2.blank.tok ax.2.1 ax.2.2.1 (ax.2.2.2.1 _ hst)
    have e : prArg ([x, y].getD 0 default) ++ [32] ++ l.op ++ [32] ++ prArg ([x, y].getD 1 default) ++ s = prArg x ++ (32 :: (l.op ++ (32 :: (prArg y ++ s)))) := by simp
    rw [e]
    exact h3
  · rw [if_neg hc, if_neg hc]
    have ha : atomS l.atom = true := by
      unfold ltlS at hl
      rw [Bool.not_eq_true] at hc
      rw [hc] at hl
      exact hl
    split
    · have h1 := (atom_spell ha h hs).blank
      have hst : Stop (32 :: (prAtom l.atom ++ s)) := stop_of _ _ (by decide)
      have h2 := h1.tok (t := sNot) (by decide) (by decide) (not_len hst)
      have e : sNot ++ [32] ++ prAtom l.atom ++ s = sNot ++ (32 :: (prAtom l.atom ++ s)) := by simp
      rw [e]
      exact h2
    · exact atom_spell ha h hs

/- Reading the tokens. -/
theorem arg_read {a : Arg} (h : formedS a = true) (rest : List Bs) : argP (prArg a :: rest, false) = (a, (rest, false)) := by
  have ha := arg_tok h
  have hne : (prArg a).isEmpty = false := by cases hp : prArg a with | nil => exact absurd hp ha.2.1 | cons x y => rfl
  have e : nextS (prArg a :: rest, false) = (prArg a, (rest, false)) := by unfold nextS peekS; simp [hne]
  unfold argP
  rw [e]
  simp only [ha.1, h]
  rfl
theorem take_hit (t : Bs) (rest : List Bs) (h : t.isEmpty = false) : takeS (t :: rest, false) t = (true, (rest, false)) := by
  have : peekS (t :: rest, false) = t := rfl
  unfold takeS
  rw [this, if_neg (by simp)]
  unfold nextS
  rw [this, h]
  rfl
theorem take_miss (p : KSt) (t : Bs) (h : peekS p ≠ t) : takeS p t = (false, p) := by
  unfold takeS; rw [if_pos (by simpa using h)]
theorem more_read (l : List Arg) (hl : ∀ a ∈ l, formedS a = true) (rest : List Bs) (hr : peekS (rest, false) ≠ [44]) : ∀ (f : Nat) (out : List Arg), l.length < f →
    moreP f ((l.flatMap fun a => [[44], prArg a]) ++ rest, false) out = (out ++ l, (rest, false)) := by
  induction l with
  | nil =>
    intro f out hf
    obtain ⟨g, rfl⟩ : ∃ k, f = k + 1 := ⟨f - 1, by omega⟩
    simp only [List.flatMap_nil, List.nil_append, List.append_nil]
    rw [moreP, take_miss _ _ hr]
    rfl
  | cons a r ih =>
    intro f out hf
    obtain ⟨g, rfl⟩ : ∃ k, f = k + 1 := ⟨f - 1, by omega⟩
    rw [List.flatMap_cons]
    simp only [List.cons_append, List.nil_append]
    rw [moreP, take_hit _ _ rfl]
    simp only [Bool.not_false, Bool.true_and, if_true]
    rw [arg_read (hl a List.mem_cons_self)]
    simp only
    rw [ih (fun x hx => hl x (List.mem_cons_of_mem _ hx)) g _ (by simp at hf; omega)]
    simp
theorem tkArgs_cons (a : Arg) (r : List Arg) : tkArgs (a :: r) = prArg a :: (r.flatMap fun a => [[44], prArg a]) := by
  induction r generalizing a with
  | nil => rfl
  | cons b t ih => rw [tkArgs, ih b, List.flatMap_cons]; rfl
theorem flat_len {α : Type} (f : α → Bs) (r : List α) : r.length ≤ (r.flatMap fun a => [[44], f a]).length := by
  induction r with
  | nil => simp
  | cons a t ih => rw [List.flatMap_cons, List.length_append, List.length_cons]; simp only [List.length_cons, List.length_nil]; omega
theorem flat_len2 (r : List Ltl) : r.length ≤ (r.flatMap fun a => [44] :: tkLtl a).length := by
  induction r with
  | nil => simp
  | cons a t ih => rw [List.flatMap_cons, List.length_append, List.length_cons]; simp only [List.length_cons]; omega
theorem atom_read {a : Atm} (ha : atomS a = true) (rest : List Bs) (hr : peekS (rest, false) ≠ [40]) : atomP (tkAtom a ++ rest, false) = (a, (rest, false)) := by
  have ha' := ha
  unfold atomS argsS at ha
  rw [Bool.and_eq_true, Bool.and_eq_true, List.all_eq_true] at ha
  have hne := (len_pred (t := []) ha.1.1 (.inl rfl)).2.1
  have hem : a.name.isEmpty = false := by cases hp : a.name with | nil => exact absurd hp hne | cons x y => rfl
  have hnx : ∀ l, nextS (a.name :: l, false) = (a.name, (l, false)) := fun l => by unfold nextS peekS; simp [hem]
  unfold tkAtom
  by_cases h0 : a.args.length = 0
  · have hnil : a.args = [] := List.eq_nil_of_length_eq_zero h0
    have hae : (⟨a.name, []⟩ : Atm) = a := by cases a; simp only at hnil; subst hnil; rfl
    rw [if_pos h0, List.cons_append, List.nil_append]
    unfold atomP
    rw [hnx]
    simp only
    rw [take_miss _ _ hr]
    simp only [Bool.false_eq_true, if_false, hae, ha']
    rfl
  · rw [if_neg h0]
    cases hx : a.args with
    | nil => rw [hx] at h0; exact absurd rfl h0
    | cons x r =>
      have hae : (⟨a.name, x :: r⟩ : Atm) = a := by cases a; simp only at hx; subst hx; rfl
      rw [hx] at ha
      have hfx := ha.2 x List.mem_cons_self
      have hfr : ∀ y ∈ r, formedS y = true := fun y hy => ha.2 y (List.mem_cons_of_mem _ hy)
      rw [tkArgs_cons]
      have e : a.name :: [40] :: ((prArg x :: (r.flatMap fun a => [[44], prArg a])) ++ [[41]]) ++ rest = a.name :: [40] :: (prArg x :: ((r.flatMap fun a => [[44], prArg a]) ++ ([41] :: rest))) := by simp
      rw [e]
      unfold atomP
      rw [hnx]
      simp only
      rw [take_hit _ _ rfl]
      simp only [if_true]
      rw [arg_read hfx]
      simp only
      have hlen : r.length < (prArg x :: ((r.flatMap fun a => [[44], prArg a]) ++ ([41] :: rest))).length + 1 := by
        have := flat_len (fun a => prArg a) r
        simp only [List.length_cons, List.length_append]
        omega
      rw [more_read r hfr ([41] :: rest) (by show ([41] : Bs) ≠ [44]; decide) _ _ hlen]
      simp only [Bool.false_eq_true, if_false]
      rw [take_hit _ _ rfl]
      have hla : [x] ++ r = x :: r := rfl
      rw [hla, hae]
      simp [ha']
theorem atom_head {a : Atm} (ha : atomS a = true) : ∃ r, tkAtom a = a.name :: r ∧ predS a.name = true := by
  unfold atomS at ha
  rw [Bool.and_eq_true, Bool.and_eq_true] at ha
  unfold tkAtom
  split
  · exact ⟨_, rfl, ha.1.1⟩
  · exact ⟨_, rfl, ha.1.1⟩
theorem ltl_read {l : Ltl} (hl : ltlS l = true) (rest : List Bs) (hr : peekS (rest, false) ≠ [40]) : ltlP (tkLtl l ++ rest, false) = (l, (rest, false)) := by
  have hl' := hl
  unfold tkLtl
  by_cases hc : compsS l = true
  · rw [if_pos hc]
    obtain ⟨ho, hng, hnm, x, y, hxy, hx, hy⟩ := ltl_args hl hc
    rw [hxy]
    have ax := arg_tok hx
    have hop : l.op.isEmpty = false := by
      have key : ∀ t ∈ opsL, t.isEmpty = false := by decide
      exact key _ ho
    have e : [prArg ([x, y].getD 0 default), l.op, prArg ([x, y].getD 1 default)] ++ rest = prArg x :: l.op :: prArg y :: rest := rfl
    rw [e]
    unfold ltlP
    have hp : peekS (prArg x :: l.op :: prArg y :: rest, false) = prArg x := rfl
    simp only
    rw [hp, if_neg ax.2.2.2.2.2.1, if_neg (by rw [ax.2.2.2.2.2.2.1]; simp), arg_read hx]
    have e2 : nextS (l.op :: prArg y :: rest, false) = (l.op, (prArg y :: rest, false)) := by unfold nextS peekS; simp [hop]
    simp only
    rw [e2]
    simp only
    rw [arg_read hy]
    have el : (⟨false, l.op, ⟨[], [x, y]⟩⟩ : Ltl) = l := by
      obtain ⟨n, o, ⟨nm, args⟩⟩ := l
      simp only at hng hnm hxy
      subst hng hnm hxy
      rfl
    simp only
    rw [el, hl', hop]
    rfl
  · rw [if_neg hc]
    have hop : l.op = [] := by
      unfold compsS at hc
      cases ho : l.op with
      | nil => rfl
      | cons a b => rw [ho] at hc; exact absurd rfl hc
    have ha : atomS l.atom = true := by
      unfold ltlS at hl
      rw [Bool.not_eq_true] at hc
      rw [hc] at hl
      exact hl
    by_cases hn : l.neg = true
    · rw [if_pos hn, List.cons_append]
      have el : (⟨true, [], l.atom⟩ : Ltl) = l := by
        obtain ⟨n, o, a⟩ := l
        simp only at hn hop
        subst hn hop
        rfl
      unfold ltlP
      have hp : peekS (sNot :: (tkAtom l.atom ++ rest), false) = sNot := rfl
      have e2 : nextS (sNot :: (tkAtom l.atom ++ rest), false) = (sNot, (tkAtom l.atom ++ rest, false)) := rfl
      simp only
      rw [hp, if_pos rfl, e2]
      simp only
      rw [atom_read ha rest hr]
      simp only
      rw [el]
    · rw [if_neg hn]
      rw [Bool.not_eq_true] at hn
      have el : (⟨false, [], l.atom⟩ : Ltl) = l := by
        obtain ⟨n, o, a⟩ := l
        simp only at hn hop
        subst hn hop
        rfl
      obtain ⟨r, hr2, hp⟩ := atom_head ha
      have hpk : peekS (tkAtom l.atom ++ rest, false) = l.atom.name := by rw [hr2]; rfl
      have hnn : ¬ (l.atom.name = sNot) := by
        intro e; rw [e] at hp; exact absurd hp (by decide)
      have hlow : (!l.atom.name.isEmpty && lowB (l.atom.name.headD 0)) = true := by
        generalize l.atom.name = s at *
        unfold predS at hp
        rw [Bool.and_eq_true] at hp
        cases s with
        | nil => exact absurd rfl (eachS_ne hp.2)
        | cons c r => have : lowB c = true := (eachS_cons hp.2).1; simp [this]
      unfold ltlP
      simp only
      rw [hpk, if_neg hnn, if_pos hlow, atom_read ha rest hr]
      simp only
      rw [el]
theorem moreL_read (l : List Ltl) (hl : ∀ a ∈ l, ltlS a = true) (rest : List Bs) (hr : peekS (rest, false) ≠ [44]) (hr4 : peekS (rest, false) ≠ [40]) : ∀ (f : Nat) (out : List Ltl), l.length < f →
    moreL f ((l.flatMap fun a => [44] :: tkLtl a) ++ rest, false) out = (out ++ l, (rest, false)) := by
  induction l with
  | nil =>
    intro f out hf
    obtain ⟨g, rfl⟩ : ∃ k, f = k + 1 := ⟨f - 1, by omega⟩
    simp only [List.flatMap_nil, List.nil_append, List.append_nil]
    rw [moreL, take_miss _ _ hr]
    rfl
  | cons a r ih =>
    intro f out hf
    obtain ⟨g, rfl⟩ : ∃ k, f = k + 1 := ⟨f - 1, by omega⟩
    rw [List.flatMap_cons]
    simp only [List.cons_append, List.append_assoc]
    rw [moreL, take_hit _ _ rfl]
    simp only [Bool.not_false, Bool.true_and, if_true]
    rw [ltl_read (hl a List.mem_cons_self)]
    · simp only
      rw [ih (fun x hx => hl x (List.mem_cons_of_mem _ hx)) g _ (by simp at hf; omega)]
      simp
    · cases r with
      | nil => simpa using hr4
      | cons b t => rw [List.flatMap_cons]; show ([44] : Bs) ≠ [40]; decide
def tkBody : List Ltl → List Bs
  | [] => []
  | l :: r => [58, 45] :: (tkLtl l ++ (r.flatMap fun a => [44] :: tkLtl a))
def tkRule (r : Rul) : List Bs := tkAtom r.head ++ (tkBody r.body ++ [[46]])
theorem rule_read {r : Rul} (h : ruleS r = true) : ruleP (tkRule r, false) = (r, true) := by
  have h' := h
  unfold ruleS at h
  rw [Bool.and_eq_true, Bool.and_eq_true, Bool.and_eq_true, List.all_eq_true] at h
  obtain ⟨⟨⟨h1, _⟩, h2⟩, _⟩ := h
  have hok : ∀ x : KSt, ruleS r = true := fun _ => h'
  unfold ruleP tkRule
  rw [atom_read h1 _ (by cases r.body with | nil => decide | cons a b => unfold tkBody; simp [peekS])]
  simp only
  cases hb : r.body with
  | nil =>
    have er : (⟨r.head, []⟩ : Rul) = r := by cases r; simp only at hb; subst hb; rfl
    simp only [tkBody, List.nil_append]
    have e1 : takeS ([[46]], false) [58, 45] = (false, ([[46]], false)) := take_miss _ _ (by decide)
    have e2 : takeS ([[46]], false) [46] = (true, ([], false)) := take_hit _ _ rfl
    simp only [e1, Bool.false_eq_true, if_false, e2, er, h']
    rfl
  | cons l t =>
    have er : (⟨r.head, l :: t⟩ : Rul) = r := by cases r; simp only at hb; subst hb; rfl
    rw [hb] at h2
    simp only [tkBody, List.cons_append]
    have e1 : ∀ x : List Bs, takeS ([58, 45] :: x, false) [58, 45] = (true, (x, false)) := fun x => take_hit _ _ rfl
    simp only [e1, if_true]
    rw [List.append_assoc, ltl_read (h2 l List.mem_cons_self)]
    · simp only
      rw [moreL_read t (fun x hx => h2 x (List.mem_cons_of_mem _ hx)) [[46]] (by decide) (by decide)]
      · simp only
        have e : [l] ++ t = l :: t := rfl
        rw [take_hit _ _ rfl, e, er, h']
        rfl
      · have := flat_len2 t
        simp only [List.length_cons, List.length_append]
        omega
    · cases t with
      | nil => decide
      | cons b u => rw [List.flatMap_cons]; simp [peekS]
/- A printed line spells its rule. -/
def lineOf (r : Rul) : Bs := prBody (prAtom r.head) r.body true ++ [46]
theorem prBody_app (l : List Ltl) : ∀ (out : Bs) (b : Bool), prBody out l b = out ++ prBody [] l b := by
  induction l with
  | nil => intro out b; simp [prBody]
  | cons a r ih => intro out b; rw [prBody, ih, prBody, ih ([] ++ _)]; simp
theorem body_spell (l : List Ltl) (hl : ∀ a ∈ l, ltlS a = true) {s : Bs} {ts : List Bs} (h : Sp s ts) (hs : Stop s) : Sp (prBody [] l false ++ s) ((l.flatMap fun a => [44] :: tkLtl a) ++ ts) ∧ Stop (prBody [] l false ++ s) := by
  induction l with
  | nil => exact ⟨h, hs⟩
  | cons a r ih =>
    have := ih (fun x hx => hl x (List.mem_cons_of_mem _ hx))
    rw [prBody, prBody_app, List.flatMap_cons]
    have h1 := ltl_spell (hl a List.mem_cons_self) this.1 this.2
    have h2 := sym_spell (t := [44]) h1.blank (by decide) (by simp)
    have e1 : [] ++ ((if false = true then [32, 58, 45, 32] else [44, 32]) ++ prLtl a) ++ prBody [] r false ++ s = [44] ++ (32 :: (prLtl a ++ (prBody [] r false ++ s))) := by simp
    have e2 : [44] :: tkLtl a ++ (r.flatMap fun a => [44] :: tkLtl a) ++ ts = [44] :: (tkLtl a ++ ((r.flatMap fun a => [44] :: tkLtl a) ++ ts)) := by simp
    rw [e1, e2]
    exact ⟨h2, stop_of _ _ (by decide)⟩
theorem line_spell {r : Rul} (h : ruleS r = true) : Sp (lineOf r) (tkRule r) := by
  unfold ruleS at h
  rw [Bool.and_eq_true, Bool.and_eq_true, Bool.and_eq_true, List.all_eq_true] at h
  obtain ⟨⟨⟨h1, _⟩, h2⟩, _⟩ := h
  have hdot : Sp ([46] ++ []) ([46] :: []) := sym_spell (t := [46]) Sp.nil (by decide) (by simp)
  have hst : Stop ([46] ++ []) := stop_of _ _ (by decide)
  unfold lineOf tkRule
  rw [prBody_app, List.append_assoc]
  cases hb : r.body with
  | nil => exact atom_spell h1 hdot hst
  | cons l t =>
    rw [hb] at h2
    have hbs := body_spell t (fun x hx => h2 x (List.mem_cons_of_mem _ hx)) hdot hst
    have hl := ltl_spell (h2 l List.mem_cons_self) hbs.1 hbs.2
    have hs := (sym_spell (t := [58, 45]) hl.blank (by decide) (by simp)).blank
    have := atom_spell h1 hs (stop_of _ _ (by decide))
    have e1 : prAtom r.head ++ (prBody [] (l :: t) true ++ [46]) = prAtom r.head ++ (32 :: ([58, 45] ++ (32 :: (prLtl l ++ (prBody [] t false ++ ([46] ++ [])))))) := by
      rw [prBody, prBody_app]; simp
    have e2 : tkAtom r.head ++ (tkBody (l :: t) ++ [[46]]) = tkAtom r.head ++ ([58, 45] :: (tkLtl l ++ ((t.flatMap fun a => [44] :: tkLtl a) ++ [[46]]))) := by simp [tkBody]
    rw [e1, e2]
    exact this
/- No newline in a line. -/
theorem pred_nl {s : Bs} (h : predS s = true) : ∀ c ∈ s, c ≠ 10 := by
  unfold predS at h
  rw [Bool.and_eq_true] at h
  cases s with
  | nil => intro c hc; cases hc
  | cons a r => rintro c hc rfl; exact absurd ((eachS_cons h.2).2.1 _ hc) (by decide)
theorem join_nl (l : List Arg) (hl : ∀ a ∈ l, formedS a = true) : ∀ c ∈ joinS (l.map prArg), c ≠ 10 := by
  induction l with
  | nil => intro c hc; cases hc
  | cons a r ih =>
    have ha := (arg_tok (hl a List.mem_cons_self)).2.2.2.2.2.2.2
    cases r with
    | nil => exact ha
    | cons b t =>
      have := ih (fun x hx => hl x (List.mem_cons_of_mem _ hx))
      intro c hc
      simp only [List.map_cons, joinS, List.mem_append] at hc
      rcases hc with (hc | hc) | hc
      · exact ha c hc
      · rintro rfl; exact absurd hc (by decide)
      · exact this c hc
theorem atom_nl {a : Atm} (ha : atomS a = true) : ∀ c ∈ prAtom a, c ≠ 10 := by
  unfold atomS argsS at ha
  rw [Bool.and_eq_true, Bool.and_eq_true, List.all_eq_true] at ha
  unfold prAtom
  split
  · exact pred_nl ha.1.1
  · intro c hc
    simp only [List.mem_append] at hc
    rcases hc with ((hc | hc) | hc) | hc
    · exact pred_nl ha.1.1 c hc
    · rintro rfl; exact absurd hc (by decide)
    · exact join_nl _ ha.2 c hc
    · rintro rfl; exact absurd hc (by decide)
theorem ltl_nl {l : Ltl} (hl : ltlS l = true) : ∀ c ∈ prLtl l, c ≠ 10 := by
  unfold prLtl
  by_cases hc : compsS l = true
  · rw [if_pos hc]
    obtain ⟨ho, _, _, x, y, hxy, hx, hy⟩ := ltl_args hl hc
    have hop : ∀ t ∈ opsL, ∀ c ∈ t, c ≠ 10 := by decide
    rw [hxy]
    intro c hc
    simp only [List.mem_append] at hc
    rcases hc with (((hc | hc) | hc) | hc) | hc
    · exact (arg_tok hx).2.2.2.2.2.2.2 c hc
    · rintro rfl; exact absurd hc (by decide)
    · exact hop _ ho c hc
    · rintro rfl; exact absurd hc (by decide)
    · exact (arg_tok hy).2.2.2.2.2.2.2 c hc
  · rw [if_neg hc]
    have ha : atomS l.atom = true := by
      unfold ltlS at hl
      rw [Bool.not_eq_true] at hc
      rw [hc] at hl
      exact hl
    split
    · intro c hc
      simp only [List.mem_append] at hc
      rcases hc with (hc | hc) | hc
      · rintro rfl; exact absurd hc (by decide)
      · rintro rfl; exact absurd hc (by decide)
      · exact atom_nl ha c hc
    · exact atom_nl ha
theorem body_nl (l : List Ltl) (hl : ∀ a ∈ l, ltlS a = true) : ∀ b, ∀ c ∈ prBody [] l b, c ≠ 10 := by
  induction l with
  | nil => intro b c hc; cases hc
  | cons a r ih =>
    intro b c hc
    rw [prBody, prBody_app] at hc
    simp only [List.nil_append, List.mem_append] at hc
    rcases hc with (hc | hc) | hc
    · rintro rfl; cases b <;> exact absurd hc (by decide)
    · exact ltl_nl (hl a List.mem_cons_self) c hc
    · exact ih (fun x hx => hl x (List.mem_cons_of_mem _ hx)) _ c hc
theorem line_nl {r : Rul} (h : ruleS r = true) : ∀ c ∈ lineOf r, c ≠ 10 := by
  unfold ruleS at h
  rw [Bool.and_eq_true, Bool.and_eq_true, Bool.and_eq_true, List.all_eq_true] at h
  obtain ⟨⟨⟨h1, _⟩, h2⟩, _⟩ := h
  unfold lineOf
  rw [prBody_app]
  intro c hc
  simp only [List.mem_append] at hc
  rcases hc with (hc | hc) | hc
  · exact atom_nl h1 c hc
  · exact body_nl _ h2 _ c hc
  · rintro rfl; exact absurd hc (by decide)
theorem split_line (s rest : Bs) (hs : ∀ c ∈ s, c ≠ 10) : ∀ cur, splitGo cur (s ++ [10] ++ rest) = (cur ++ s) :: splitGo [] rest := by
  induction s with
  | nil => intro cur; simp [splitGo]
  | cons a r ih =>
    intro cur
    have ha : (a == 10) = false := by rw [beq_eq_false_iff_ne]; exact hs a List.mem_cons_self
    have := ih (fun x hx => hs x (List.mem_cons_of_mem _ hx)) (cur ++ [a])
    simp only [List.append_assoc, List.cons_append, List.nil_append] at this ⊢
    rw [splitGo, ha, if_neg (by simp), this]
theorem prRules_app (l : List Rul) : ∀ out, prRules out l = out ++ (l.flatMap fun r => lineOf r ++ [10]) := by
  induction l with
  | nil => intro out; simp [prRules]
  | cons r t ih =>
    intro out
    rw [prRules, ih, List.flatMap_cons]
    unfold lineOf
    rw [prBody_app, prBody_app _ (prAtom r.head)]
    simp
theorem line_some {r : Rul} (h : ruleS r = true) : ((trimS (lineOf r)).isEmpty || (trimS (lineOf r)).headD 0 == 37) = false := by
  unfold ruleS at h
  rw [Bool.and_eq_true, Bool.and_eq_true, Bool.and_eq_true] at h
  have ha := h.1.1.1
  unfold atomS at ha
  rw [Bool.and_eq_true, Bool.and_eq_true] at ha
  have hp := ha.1.1
  have hx : ∃ c t, lineOf r = c :: t ∧ lowB c = true := by
    unfold lineOf
    rw [prBody_app]
    unfold predS at hp
    rw [Bool.and_eq_true] at hp
    have hn : ∃ t, prAtom r.head = r.head.name ++ t := by
      unfold prAtom
      split
      · exact ⟨[], by simp⟩
      · exact ⟨[40] ++ joinS (r.head.args.map prArg) ++ [41], by simp⟩
    obtain ⟨t, ht⟩ := hn
    rw [ht]
    cases hs : r.head.name with
    | nil => rw [hs] at hp; exact absurd rfl (eachS_ne hp.2)
    | cons c u =>
      rw [hs] at hp
      exact ⟨c, _, rfl, (eachS_cons hp.2).1⟩
  obtain ⟨c, t, hc, hl⟩ := hx
  have h32 : (c == 32) = false := by rw [beq_eq_false_iff_ne]; rintro rfl; exact absurd hl (by decide)
  have h37 : (c == 37) = false := by rw [beq_eq_false_iff_ne]; rintro rfl; exact absurd hl (by decide)
  rw [hc, trim_else h32]
  simpa using h37
theorem go_read (l : List Rul) (hl : ∀ r ∈ l, ruleS r = true) : ∀ (i : Nat) (out : List Rul), out.length + l.length ≤ 64 → parseGo (splitGo [] (l.flatMap fun r => lineOf r ++ [10])) i out = (out ++ l, 0, 0) := by
  induction l with
  | nil => intro i out _; simp [splitGo, parseGo, trimS]
  | cons r t ih =>
    intro i out hlen
    have hr := hl r List.mem_cons_self
    simp only [List.length_cons] at hlen
    rw [List.flatMap_cons, split_line _ _ (line_nl hr), List.nil_append, parseGo, line_some hr]
    simp only [Bool.false_eq_true, if_false]
    rw [(line_spell hr).tokens]
    simp only
    rw [rule_read hr]
    simp only [Bool.not_true, Bool.or_self, Bool.false_eq_true, if_false]
    rw [if_neg (by omega), ih (fun x hx => hl x (List.mem_cons_of_mem _ hx)) _ _ (by simp; omega)]
    simp
theorem trip (l : List Rul) (h : (printS l).2 = 0) (hlen : (printS l).1.length ≤ 65536) : parseS (printS l).1 = (l, 0, 0) := by
  unfold printS at h hlen ⊢
  by_cases hc : (64 < l.length || !l.all ruleS) = true
  · rw [if_pos hc] at h; cases h
  · rw [if_neg hc] at hlen ⊢
    rw [Bool.not_eq_true, Bool.or_eq_false_iff, decide_eq_false_iff_not, Bool.not_eq_false', List.all_eq_true] at hc
    rw [prRules_app, List.nil_append] at hlen ⊢
    unfold parseS splitS
    simp only at hlen ⊢
    rw [if_neg (by omega), go_read l hc.2 0 [] (by simp; omega)]
    rfl
theorem trip_atom (a : Atm) (h : (printAtomS a).2 = 0) (hlen : (printAtomS a).1.length ≤ 4096) : parseAtomS (printAtomS a).1 = (a, 0) := by
  unfold printAtomS at h hlen ⊢
  cases ha : atomS a
  · rw [ha] at h; cases h
  · rw [ha] at hlen
    simp only [Bool.not_true, Bool.false_eq_true, if_false] at hlen ⊢
    have hs := atom_spell ha Sp.nil (.inl rfl)
    rw [List.append_nil, List.append_nil] at hs
    have hr := atom_read ha [] (by decide)
    rw [List.append_nil] at hr
    unfold parseAtomS
    rw [hs.tokens]
    simp only
    rw [hr]
    have : ¬ (4096 < (prAtom a).length) := by omega
    simp [this]
end Go.Proofs.YtjopmgoacncmgaaGreatDoor

namespace Go.Proofs.YtjopmgoacncmgaaGreatDoor

def rprGo (out : Bs) : List Arg → Bool → Bs
  | [], _ => out
  | a :: r, first => rprGo ((out ++ (if first then [40] else [44, 32])) ++ prArg a) r false
def rprAtom (a : Atm) : Bs := if 0 < a.args.length then rprGo a.name a.args true ++ [41] else rprGo a.name a.args true
theorem rpr_rest (r : List Arg) : ∀ (o : Bs) (a : Arg), rprGo (o ++ prArg a) r false = o ++ joinS ((a :: r).map prArg) := by
  induction r with
  | nil => intro o a; rfl
  | cons b t ih =>
    intro o a
    rw [rprGo, ih]
    simp [joinS]
theorem rpr_atom (a : Atm) : rprAtom a = prAtom a := by
  unfold rprAtom prAtom
  obtain ⟨nm, args⟩ := a
  cases args with
  | nil => rfl
  | cons x r =>
    simp only [List.length_cons]
    rw [if_pos (by omega), if_neg (by omega), rprGo, if_pos rfl, rpr_rest]

/- Lengths. -/
theorem natDig_lenP (f : Nat) : ∀ n, (natDig f n).length ≤ f := by
  induction f with
  | zero => intro n; simp [natDig]
  | succ f ih =>
    intro n
    unfold natDig
    split
    · simp
    · have := ih (n / 10); simp; omega
theorem itoa_len (n : Int) : (itoaS n).length ≤ 21 := by
  unfold itoaS
  split
  · have := natDig_lenP 20 n.natAbs; simp; omega
  · have := natDig_lenP 20 n.natAbs; omega
theorem prArg_len {a : Arg} (h : formedS a = true) : (prArg a).length ≤ 130 := by
  unfold formedS at h
  unfold prArg
  split at h
  · rename_i hk
    rw [hk]
    simp only [varS, eachS, Bool.and_eq_true, decide_eq_true_eq] at h
    rw [if_neg (by decide), if_neg (by decide)]
    omega
  · split at h
    · rename_i _ hk
      rw [hk]
      simp only [conS, Bool.and_eq_true, decide_eq_true_eq] at h
      rw [if_neg (by decide), if_pos rfl]
      simp
      omega
    · split at h
      · rename_i _ _ hk
        rw [if_pos hk]
        have := itoa_len a.num
        omega
      · cases h
theorem join_len (l : List Arg) (h : ∀ a ∈ l, formedS a = true) : (joinS (l.map prArg)).length ≤ 132 * l.length := by
  induction l with
  | nil => simp [joinS]
  | cons a r ih =>
    have h1 := prArg_len (h a List.mem_cons_self)
    have h2 := ih (fun x hx => h x (List.mem_cons_of_mem _ hx))
    cases r with
    | nil => simp [joinS]; omega
    | cons b t =>
      simp only [List.map_cons, joinS] at h2 ⊢
      simp only [List.length_append, List.length_cons, List.length_nil] at h2 ⊢
      omega
theorem atomS_parts {a : Atm} (h : atomS a = true) : a.name.length ≤ 32 ∧ a.args.length ≤ 6 ∧ ∀ x ∈ a.args, formedS x = true := by
  unfold atomS at h
  rw [Bool.and_eq_true, Bool.and_eq_true, decide_eq_true_eq] at h
  obtain ⟨⟨h1, h2⟩, h3⟩ := h
  unfold predS eachS at h1
  simp only [Bool.and_eq_true, decide_eq_true_eq] at h1
  exact ⟨h1.2.1.1.2, h2, List.all_eq_true.1 h3⟩
theorem prAtom_len {a : Atm} (h : atomS a = true) : (prAtom a).length ≤ 830 := by
  obtain ⟨h1, h2, h3⟩ := atomS_parts h
  unfold prAtom
  split
  · omega
  · have := join_len a.args h3
    simp only [List.length_append, List.length_cons, List.length_nil]
    omega
theorem ltl_argsP {l : Ltl} (h : ltlS l = true) (hc : compsS l = true) : l.op.length ≤ 2 ∧ l.atom.args.length = 2 ∧ ∀ x ∈ l.atom.args, formedS x = true := by
  unfold ltlS at h
  rw [hc] at h
  simp only [Bool.not_true, Bool.false_eq_true, if_false, Bool.and_eq_true, beq_iff_eq] at h
  obtain ⟨⟨⟨⟨h1, -⟩, -⟩, h2⟩, h3⟩ := h
  refine ⟨?_, h2, List.all_eq_true.1 h3⟩
  rw [List.contains_iff_mem] at h1
  simp [opsL] at h1
  rcases h1 with e | e | e | e <;> rw [e] <;> decide
theorem prLtl_len {l : Ltl} (h : ltlS l = true) : (prLtl l).length ≤ 840 := by
  unfold prLtl
  cases hc : compsS l with
  | true =>
    obtain ⟨h1, h2, h3⟩ := ltl_argsP h hc
    rw [if_pos rfl]
    match ha : l.atom.args with
    | [x, y] =>
      have hx := prArg_len (h3 x (by rw [ha]; simp))
      have hy := prArg_len (h3 y (by rw [ha]; simp))
      simp [List.getD]
      omega
    | [] => rw [ha] at h2; cases h2
    | [_] => rw [ha] at h2; cases h2
    | _ :: _ :: _ :: _ => rw [ha] at h2; simp at h2
  | false =>
    unfold ltlS at h
    rw [hc] at h
    simp only [Bool.not_false, if_true] at h
    have := prAtom_len h
    simp only [Bool.false_eq_true, if_false]
    split
    · simp [sNot]; omega
    · omega
theorem prBody_len (b : List Ltl) : ∀ (o : Bs) (f : Bool), (∀ x ∈ b, ltlS x = true) → (prBody o b f).length ≤ o.length + 844 * b.length := by
  induction b with
  | nil => intro o f _; simp [prBody]
  | cons x r ih =>
    intro o f h
    have h1 := prLtl_len (h x List.mem_cons_self)
    rw [prBody]
    have := ih (o ++ ((if f then [32, 58, 45, 32] else [44, 32]) ++ prLtl x)) false (fun y hy => h y (List.mem_cons_of_mem _ hy))
    simp only [List.length_append, List.length_cons] at this ⊢
    have h2 : ((if f then [32, 58, 45, 32] else [44, 32] : Bs)).length ≤ 4 := by cases f <;> decide
    omega
theorem rule_parts {r : Rul} (h : ruleS r = true) : atomS r.head = true ∧ r.body.length ≤ 4 ∧ ∀ x ∈ r.body, ltlS x = true := by
  unfold ruleS at h
  rw [Bool.and_eq_true, Bool.and_eq_true, Bool.and_eq_true, decide_eq_true_eq] at h
  exact ⟨h.1.1.1, h.1.1.2, List.all_eq_true.1 h.1.2⟩
theorem prRule_len {r : Rul} (h : ruleS r = true) (o : Bs) : (prBody (o ++ prAtom r.head) r.body true ++ [46, 10]).length ≤ o.length + 5000 := by
  obtain ⟨h1, h2, h3⟩ := rule_parts h
  have h4 := prAtom_len h1
  have h5 := prBody_len r.body (o ++ prAtom r.head) true h3
  simp only [List.length_append, List.length_cons, List.length_nil] at h5 ⊢
  omega
end Go.Proofs.YtjopmgoacncmgaaGreatDoor

namespace Go.Proofs.YtjopmgoacncmgaaGreatDoor

theorem natDig_lib (f : Nat) : ∀ n, n < 10 ^ (f + 1) → natDig (f + 1) n = Lib.decDigits n := by
  induction f with
  | zero =>
    intro n hn
    have hn : n < 10 := by simpa using hn
    rw [natDig, if_pos hn, Lib.decDigits, dif_pos hn]
  | succ f ih =>
    intro n hn
    rw [natDig, Lib.decDigits]
    by_cases h : n < 10
    · rw [if_pos h, dif_pos h]
    · rw [if_neg h, dif_neg h, ih (n / 10) (by rw [Nat.pow_succ] at hn; omega)]
theorem itoa_lib (n : Int) (h0 : -9223372036854775808 ≤ n) (h1 : n ≤ 9223372036854775807) : Lib.itoa n = itoaS n := by
  unfold Lib.itoa itoaS
  have hb : n.natAbs < 10 ^ 20 := by omega
  rw [natDig_lib 19 _ hb]
  by_cases h : n < 0
  · rw [if_pos h, if_pos h]
  · rw [if_neg h, if_neg h]
    congr 1
    omega
theorem digB_iff (c : UInt8) : digB c = true ↔ (48 ≤ c.toNat ∧ c.toNat ≤ 57) := by
  unfold digB digI
  simp only [Bool.and_eq_true, decide_eq_true_eq]
  omega
theorem digVal_ge (l : Bs) : ∀ acc u, digVal acc l = some u → acc ≤ u := by
  induction l with
  | nil => intro acc u h; rw [digVal] at h; injection h with h; omega
  | cons c r ih =>
    intro acc u h
    rw [digVal] at h
    split at h
    · have := ih _ _ h; omega
    · cases h
theorem parse_dig (l : Bs) : ∀ acc u, acc < 18446744073709551616 → (Lib.parseUint10 acc l = .ok u ↔ digVal acc l = some u ∧ u < 18446744073709551616) := by
  induction l with
  | nil =>
    intro acc u ha
    rw [Lib.parseUint10, digVal]
    constructor
    · intro h; injection h with h; exact ⟨by rw [h], by omega⟩
    · intro h; have := h.1; injection this with h; rw [h]
  | cons c r ih =>
    intro acc u ha
    rw [Lib.parseUint10, digVal]
    by_cases hc : 48 ≤ c.toNat ∧ c.toNat ≤ 57
    · rw [if_pos hc, if_pos ((digB_iff c).2 hc)]
      have e : 10 * acc + (c.toNat - 48) = acc * 10 + (c.toNat - 48) := by omega
      rw [e]
      by_cases h1 : 1844674407370955162 ≤ acc
      · rw [if_pos h1]
        constructor
        · intro h; cases h
        · intro h; have := digVal_ge _ _ _ h.1; omega
      · rw [if_neg h1]
        by_cases h2 : 18446744073709551616 ≤ acc * 10 + (c.toNat - 48)
        · rw [if_pos h2]
          constructor
          · intro h; cases h
          · intro h; have := digVal_ge _ _ _ h.1; omega
        · rw [if_neg h2]
          exact ih _ _ (by omega)
    · rw [if_neg hc, if_neg (fun h => hc ((digB_iff c).1 h))]
      constructor
      · intro h; cases h
      · intro h; cases h.1
theorem itoa_head (v : Int) (c : UInt8) (r : Bs) (h : itoaS v = c :: r) : c = 45 ∨ digB c = true := by
  unfold itoaS at h
  split at h
  · injection h with h; exact .inl h.symm
  · exact .inr (natDig_dig 20 v.natAbs c (by rw [h]; exact List.mem_cons_self))
/-- strconv.Atoi, held against what the text of its number is. -/
theorem num_lib (s : Bs) : numS s = (match Lib.atoiAll s with | .ok v => if itoaS v = s then some v else none | _ => none) := by
  cases s with
  | nil => decide +kernel
  | cons c r =>
    have hneg : ((c :: r).headD 0 = 45) ↔ c.toNat = 45 := by
      show c = 45 ↔ _
      constructor
      · intro e; rw [e]; rfl
      · intro e; exact UInt8.toNat_inj.1 e
    by_cases h43 : c.toNat = 43
    · have hn : numS (c :: r) = none := numS_none (by have : c = 43 := UInt8.toNat_inj.1 h43; subst this; rfl) (by have : c = 43 := UInt8.toNat_inj.1 h43; subst this; rfl)
      rw [hn]
      split
      · rename_i v _
        rw [if_neg]
        intro e
        rcases itoa_head v c r e with h | h
        · rw [h] at h43; cases h43
        · have := (digB_iff c).1 h; omega
      · rfl
    · unfold numS Lib.atoiAll
      simp only [h43, false_or]
      by_cases h45 : c.toNat = 45
      · have h45' := hneg.2 h45
        rw [if_pos h45']
        simp only [h45', if_true, h45, List.drop_one, List.tail_cons, not_true, false_and, true_and, if_false]
        by_cases hr : r = []
        · subst hr
          have : c = 45 := UInt8.toNat_inj.1 h45
          subst this
          decide +kernel
        · unfold Lib.parseMag
          rw [if_neg hr]
          cases hp : Lib.parseUint10 0 r with
          | ok u =>
            have hd := (parse_dig r 0 u (by omega)).1 hp
            rw [hd.1]
            simp only
            by_cases hu : 9223372036854775808 < u
            · rw [if_pos hu, if_neg (by omega)]
            · rw [if_neg hu]
              simp only
              by_cases he : itoaS (-(u : Int)) = c :: r
              · rw [if_pos ⟨by omega, by omega, he⟩, if_pos he]
              · rw [if_neg (fun x => he x.2.2), if_neg he]
          | _ =>
            simp only
            cases hd : digVal 0 r with
            | none => rfl
            | some n =>
              simp only
              by_cases hb : n < 18446744073709551616
              · have := (parse_dig r 0 n (by omega)).2 ⟨hd, hb⟩; rw [hp] at this; cases this
              · rw [if_neg (by omega)]
      · have h45' : ¬ ((c :: r).headD 0 = 45) := fun e => h45 (hneg.1 e)
        rw [if_neg h45']
        simp only [h45', h45, if_false, not_false_eq_true, true_and, false_and]
        unfold Lib.parseMag
        rw [if_neg (by simp)]
        cases hp : Lib.parseUint10 0 (c :: r) with
        | ok u =>
          have hd := (parse_dig (c :: r) 0 u (by omega)).1 hp
          rw [hd.1]
          simp only
          by_cases hu : 9223372036854775808 ≤ u
          · rw [if_pos hu, if_neg (by omega)]
          · rw [if_neg hu]
            simp only
            by_cases he : itoaS (u : Int) = c :: r
            · rw [if_pos ⟨by omega, by omega, he⟩, if_pos he]
            · rw [if_neg (fun x => he x.2.2), if_neg he]
        | _ =>
          simp only
          cases hd : digVal 0 (c :: r) with
          | none => rfl
          | some n =>
            simp only
            by_cases hb : n < 18446744073709551616
            · have := (parse_dig (c :: r) 0 n (by omega)).2 ⟨hd, hb⟩; rw [hp] at this; cases this
            · rw [if_neg (by omega)]
end Go.Proofs.YtjopmgoacncmgaaGreatDoor

namespace Go.Proofs.YtjopmgoacncmgaaGreatDoor

theorem ixb (c : UInt8) (l : Bs) : (Lib.indexByte l c = -1 ∧ ∀ x ∈ l, x ≠ c) ∨ ∃ a b, l = a ++ [c] ++ b ∧ Lib.indexByte l c = a.length ∧ ∀ x ∈ a, x ≠ c := by
  induction l with
  | nil => exact .inl ⟨rfl, fun x h => nomatch h⟩
  | cons x r ih =>
    by_cases hx : x = c
    · subst hx
      exact .inr ⟨[], r, rfl, by simp [Lib.indexByte], fun y h => nomatch h⟩
    · rcases ih with ⟨h1, h2⟩ | ⟨a, b, h1, h2, h3⟩
      · refine .inl ⟨by simp [Lib.indexByte, hx, h1], fun y hy => ?_⟩
        rcases List.mem_cons.1 hy with rfl | hy
        · exact hx
        · exact h2 y hy
      · refine .inr ⟨x :: a, b, by rw [h1]; rfl, ?_, fun y hy => ?_⟩
        · have hne : ¬ ((a.length : Int) = -1) := by omega
          simp [Lib.indexByte, hx, h2, hne]
        · rcases List.mem_cons.1 hy with rfl | hy
          · exact hx
          · exact h3 y hy
theorem splitGo_all (l : Bs) : ∀ cur, (∀ x ∈ l, x ≠ 10) → splitGo cur l = [cur ++ l] := by
  induction l with
  | nil => intro cur _; simp [splitGo]
  | cons c r ih =>
    intro cur h
    rw [splitGo, if_neg (by simpa using h c List.mem_cons_self), ih _ (fun x hx => h x (List.mem_cons_of_mem _ hx))]
    simp
theorem split_lib (n : Nat) : ∀ s : Bs, s.length ≤ n → Lib.splitK [10] 0 (Lib.count s [10]) s = splitS s := by
  induction n with
  | zero =>
    intro s hs
    have : s = [] := List.eq_nil_of_length_eq_zero (by omega)
    subst this
    decide +kernel
  | succ n ih =>
    intro s hs
    have hone : Lib.index s [10] = Lib.indexByte s 10 := by
      have := Lib.index_one s 10
      exact this
    rcases ixb 10 s with ⟨h1, h2⟩ | ⟨a, b, h1, h2, h3⟩
    · rw [Lib.count_miss (by rw [hone, h1]), Lib.splitK]
      unfold splitS
      rw [splitGo_all s [] h2]; rfl
    · have hi : Lib.index s [10] = (a.length : Nat) := by rw [hone, h2]
      rw [Lib.count_hit (by simp) hi]
      have hd : s.drop (a.length + ([10] : Bs).length) = b := by rw [h1]; simp
      rw [hd, Nat.add_comm, Lib.splitK, hi]
      have hne : ¬ (((a.length : Nat) : Int) == -1) = true := by simp
      rw [if_neg hne]
      have hd2 : s.drop (((a.length : Nat) : Int).toNat + ([10] : Bs).length) = b := hd
      have ht : s.take (((a.length : Nat) : Int).toNat + 0) = a := by rw [h1]; simp
      rw [hd2, ht, ih b (by rw [h1] at hs; simp at hs; omega)]
      unfold splitS
      rw [h1, split_line a b h3 []]
      rfl
theorem splitB_lib (s : Bs) : (Lib.splitB ⟨#[10]⟩ 0 (Lib.countB ⟨s.toArray⟩ ⟨#[10]⟩) ⟨s.toArray⟩).map (fun x => x.data.toList) = splitS s := by
  rw [Lib.splitB_data]
  exact split_lib s.length s (Nat.le_refl _)
theorem splitB_len (s : Bs) : Lib.countB ⟨s.toArray⟩ ⟨#[10]⟩ + 1 = (splitS s).length := by
  rw [← splitB_lib, List.length_map, Lib.splitB_all ⟨#[10]⟩ (by decide) 0 _ _ rfl]
theorem splitB_vals (s : Bs) : (Lib.splitB ⟨#[10]⟩ 0 (Lib.countB ⟨s.toArray⟩ ⟨#[10]⟩) ⟨s.toArray⟩).map Value.string = (splitS s).map (fun x => Value.string ⟨x.toArray⟩) := by
  rw [← splitB_lib, List.map_map]
  exact List.map_congr_left (fun x _ => by simp)
theorem join_lib (l : List Bs) : Lib.join l [44, 32] = joinS l := by
  induction l with
  | nil => rfl
  | cons a r ih =>
    cases r with
    | nil => rw [Lib.join_one]; rfl
    | cons b t =>
      rw [Lib.join_cons] at ih ⊢
      show a ++ Lib.joinTail [44, 32] (b :: t) = a ++ [44, 32] ++ joinS (b :: t)
      rw [← ih]
      simp [Lib.joinTail]
theorem trim_lib (s : Bs) : Lib.trimLeftB s 32 = trimS s := rfl
end Go.Proofs.YtjopmgoacncmgaaGreatDoor
