/- Expressions: parsing what Print makes of a valid formula gives the formula, or it is too deep; plain. -/
import Derived.Test.YtchdpjgncojhaaaRun1
import Derived.Test.YtchdpjgncojhaaaR2
import Derived.Test.YtchdpjgncojhaaaExprSpec3
set_option linter.unusedVariables false
set_option linter.unusedSimpArgs false
namespace Go.Proofs.Ytchdpjgncojhaaa

theorem level_mem {op : Bs} (h : 0 < level op) : op ∈ binOps := by
  refine Classical.byContradiction fun hn => ?_
  have := level_none op hn
  omega
theorem valid_bin : ∀ op ∈ binOps, validT ⟨3, op⟩ = true := by decide
theorem valid_un {op : Bs} (h : isUn op = true) : validT ⟨3, op⟩ = true := by
  rcases (isUn_iff op).1 h with rfl | rfl | rfl <;> decide

/- Numbers. -/
theorem decF_dig (k n : Nat) : (decF k n).all digB = true := by
  induction k generalizing n with
  | zero => rfl
  | succ k ih =>
    have hd : ∀ m, m < 10 → digB ((48 + m).toUInt8) = true := by decide
    unfold decF
    split
    · rename_i h; simpa using hd n h
    · rw [List.all_append, ih, Bool.true_and]; simpa using hd (n % 10) (by omega)
theorem dig_val : ∀ m, m < 10 → ((48 + m).toUInt8).toNat - 48 = m := by decide
theorem tnum_append (a b : Bs) (n : Nat) (h : (tnum a n).2 = 0) : tnum (a ++ b) n = tnum b (tnum a n).1 := by
  induction a generalizing n with
  | nil => rfl
  | cons c r ih =>
    rw [List.cons_append]
    rw [tnum] at h
    rw [tnum, tnum]
    split at h
    · cases h
    · rename_i hc
      rw [if_neg hc, if_neg hc]
      exact ih _ h
theorem decF_val (k n : Nat) (h : n < 10 ^ k) (h32 : n ≤ 4294967295) : tnum (decF k n) 0 = (n, 0) := by
  induction k generalizing n with
  | zero => simp at h; subst h; rfl
  | succ k ih =>
    unfold decF
    split
    · rename_i hn
      rw [tnum, tnum, dig_val n hn, if_neg (by omega)]
      simp
    · rename_i hn
      have h1 := ih (n / 10) (by rw [Nat.pow_succ] at h; omega) (by omega)
      rw [tnum_append _ _ _ (by rw [h1]), h1]
      simp only
      rw [tnum, tnum, dig_val (n % 10) (by omega), if_neg (by omega)]
      congr 1
      omega
theorem decF_head (k n : Nat) (hk : n < 10 ^ k) (h : 10 ≤ n) : (decF k n).headD 0 ≠ 48 ∧ (decF k n).length ≠ 0 := by
  induction k generalizing n with
  | zero => simp at hk; omega
  | succ k ih =>
    unfold decF
    rw [if_neg (by omega)]
    have hk' : n / 10 < 10 ^ k := by rw [Nat.pow_succ] at hk; omega
    by_cases h' : n / 10 < 10
    · have h1 : ∃ j, k = j + 1 := by
        cases k with
        | zero => simp at hk'; omega
        | succ j => exact ⟨j, rfl⟩
      obtain ⟨j, rfl⟩ := h1
      rw [decF_small h']
      simp only [List.cons_append, List.headD_cons, List.length_cons]
      refine ⟨?_, by omega⟩
      have : ∀ m, m < 10 → 1 ≤ m → (48 + m).toUInt8 ≠ 48 := by decide
      exact this _ h' (by omega)
    · obtain ⟨h1, h2⟩ := ih (n / 10) hk' (by omega)
      cases hd : decF k (n / 10) with
      | nil => rw [hd] at h2; simp at h2
      | cons a r => rw [hd] at h1; exact ⟨by simpa using h1, by simp⟩
theorem decF_bad (n : Nat) (h : n ≤ 4294967295) : bad0 (decF 10 n) = false := by
  unfold bad0
  by_cases hn : n < 10
  · rw [decF_small hn]; simp
  · obtain ⟨h1, h2⟩ := decF_head 10 n (by omega) (by omega)
    cases hd : decF 10 n with
    | nil => rw [hd] at h2; simp at h2
    | cons a r => rw [hd] at h1; simp at h1 ⊢; intro _; exact h1
theorem decF_number (n : Nat) (h : n ≤ 4294967295) : number (decF 10 n) = (n, 0) := by
  unfold number
  rw [decF_bad n h, decF_dig, decF_val 10 n (by omega) h]
  rfl
theorem dig_letr : ∀ c : UInt8, digB c = true → letr c.toNat = false := by
  intro c h
  simp only [digB, digt, letr, Bool.and_eq_true, decide_eq_true_eq, Bool.or_eq_false_iff, Bool.and_eq_false_iff, decide_eq_false_iff_not, beq_eq_false_iff_ne] at *
  omega
theorem takeWhile_all {p : UInt8 → Bool} {s : Bs} (h : s.all p = true) : s.takeWhile p = s := by
  induction s with
  | nil => rfl
  | cons a r ih =>
    simp only [List.all_cons, Bool.and_eq_true] at h
    rw [List.takeWhile_cons, if_pos h.1, ih h.2]
theorem valid_num (n : Nat) (h : n ≤ 4294967295) : validT ⟨2, decF 10 n⟩ = true := by
  have hb := decF_bad n h
  have hd := decF_dig 10 n
  have hn := decF_number n h
  have ht := takeWhile_all hd
  have hne : (decF 10 n).isEmpty = false := by unfold bad0 at hb; simp only [Bool.or_eq_false_iff] at hb; exact hb.1
  unfold validT
  have hx : nextOf symT (decF 10 n) = (⟨2, decF 10 n⟩, 0) := by
    generalize decF 10 n = s at *
    cases s with
    | nil => cases hne
    | cons a r =>
      have ha : digB a = true := by simp only [List.all_cons, Bool.and_eq_true] at hd; exact hd.1
      unfold nextOf
      simp only [List.headD_cons, dig_letr a ha]
      have ha' : digt a.toNat = true := ha
      simp only [ha', ht, List.take_length, hn, if_true, Bool.false_eq_true, if_false, ne_eq, not_true, Nat.lt_irrefl, decide_false, Bool.false_and]
  simp only [hne, hx]
  simp

/- Parts. -/
structure Reads (t : Txt) (ops : List Opn) : Prop where
  lo : 1 ≤ t.lev
  hi : t.lev ≤ 11
  valid : ∀ k ∈ t.toks, validT k = true
  head : ∃ k r, t.toks = k :: r ∧ k ≠ ⟨3, [41]⟩
  run : ∀ l : Nat, 1 ≤ l → (l : Int) ≤ t.lev → ∀ st r, st.err = 0 → st.rest = t.toks ++ r → stops (l + 1) r →
    Deep (.bin l) st ∨ (l = 11 ∧ ∃ n, Run (.bin 11) st (true, ext st r ops, n)) ∨ (l ≤ 10 ∧ ∀ x, Run (.loop l) (ext st r ops) x → Run (.bin l) st x)
theorem Reads.bin {t : Txt} {ops : List Opn} (h : Reads t ops) {l : Nat} (h1 : 1 ≤ l) (h2 : (l : Int) ≤ t.lev) {st : PSt} {r : List Tok} (he : st.err = 0) (hr : st.rest = t.toks ++ r) (hs : stops l r) :
    Deep (.bin l) st ∨ ∃ n, Run (.bin l) st (true, ext st r ops, n) := by
  rcases h.run l h1 h2 st r he hr (hs.up (by omega)) with h | ⟨rfl, n, h⟩ | ⟨_, h⟩
  · exact .inl h
  · exact .inr ⟨n, h⟩
  · exact .inr ⟨0, h _ (run_stop hs)⟩
/-- The top level is enough. -/
theorem Reads.top {t : Txt} {ops : List Opn} (L : Nat) (hL : t.lev = L) (lo : 1 ≤ L) (hi : L ≤ 11) (valid : ∀ k ∈ t.toks, validT k = true) (head : ∃ k r, t.toks = k :: r ∧ k ≠ ⟨3, [41]⟩)
    (h : ∀ st r, st.err = 0 → st.rest = t.toks ++ r → stops (L + 1) r →
      Deep (.bin L) st ∨ (L = 11 ∧ ∃ n, Run (.bin 11) st (true, ext st r ops, n)) ∨ (L ≤ 10 ∧ ∀ x, Run (.loop L) (ext st r ops) x → Run (.bin L) st x)) : Reads t ops := by
  refine ⟨by omega, by omega, valid, head, ?_⟩
  have key : ∀ d l : Nat, 1 ≤ l → l + d = L → ∀ st r, st.err = 0 → st.rest = t.toks ++ r → stops (l + 1) r →
      Deep (.bin l) st ∨ (l = 11 ∧ ∃ n, Run (.bin 11) st (true, ext st r ops, n)) ∨ (l ≤ 10 ∧ ∀ x, Run (.loop l) (ext st r ops) x → Run (.bin l) st x) := by
    intro d
    induction d with
    | zero => intro l _ hl; (obtain rfl : l = L := (by omega)); exact h
    | succ d ih =>
      intro l h1 hl st r he hr hs
      rcases ih (l + 1) (by omega) (by omega) st r he hr (hs.up (by omega)) with k | ⟨hl', n, k⟩ | ⟨_, k⟩
      · exact .inl (deep_bin (by omega) k)
      · refine .inr (.inr ⟨by omega, fun x hx => run_bin (by omega) (n := n) ?_ hx⟩)
        rw [hl']; exact k
      · exact .inr (.inr ⟨by omega, fun x hx => run_bin (by omega) (n := 0) (k _ (run_stop hs)) hx⟩)
  exact fun l h1 h2 => key (L - l) l h1 (by omega)

/-- An atom: what single takes. -/
theorem Reads.atom {toks : List Tok} {ops : List Opn} (valid : ∀ k ∈ toks, validT k = true) (head : ∃ k r, toks = k :: r ∧ k ≠ ⟨3, [41]⟩)
    (h : ∀ st r, st.err = 0 → st.rest = toks ++ r → stops 12 r → Deep .single st ∨ ∃ n, Run .single st (true, ext st r ops, n)) : Reads ⟨toks, 11⟩ ops := by
  refine Reads.top 11 rfl (by omega) (by omega) valid head ?_
  intro st r he hr hs
  rcases h st r he hr hs with k | ⟨n, k⟩
  · exact .inl (deep_bin11 k)
  · exact .inr (.inl ⟨rfl, n, run_bin11 k⟩)

theorem valid_open : validT ⟨3, [40]⟩ = true := by decide
theorem valid_close : validT ⟨3, [41]⟩ = true := by decide
theorem valid_comma : validT ⟨3, [44]⟩ = true := by decide

/-- One deeper: what a part takes behind a token. -/
theorem within_of {p : Part} {st : PSt} {t : Tok} {rr r : List Tok} {ops : List Opn} {N : Int → Prop} (he : st.err = 0) (hr : st.rest = t :: rr)
    (h : ∀ st', st'.err = 0 → st'.rest = rr → (∃ s m, p st' = some (false, s, m) ∧ s.err = 11) ∨ ∃ n, N n ∧ p st' = some (true, ext st' r ops, n)) :
    (∃ s m, pwithin p st = some (false, s, m) ∧ s.err = 11) ∨ ∃ n, N n ∧ pwithin p st = some (true, ext st r ops, n) := by
  unfold pwithin
  by_cases hd : 24 < st.depth
  · rw [if_pos hd]
    exact .inl ⟨_, _, rfl, pfail_deep he⟩
  · rw [if_neg hd]
    have ht : st.rest.tail = rr := by rw [hr]; rfl
    rcases h { st with depth := st.depth + 1, rest := st.rest.tail } he ht with ⟨s, m, h1, h2⟩ | ⟨n, hn, h1⟩
    · exact .inl ⟨{ s with depth := s.depth - 1 }, m, by rw [h1]; rfl, h2⟩
    · refine .inr ⟨n, hn, ?_⟩
      rw [h1]
      simp only [pdown, Option.map_some, ext]
      congr 3
      simp only [PSt.mk.injEq, true_and, and_true]
      omega
/-- A tag's run, at the state behind the token. -/
theorem fuel_of {tg : PTag} {st1 : PSt} {r : List Tok} {ops : List Opn} {N : Int → Prop} (h : Deep tg st1 ∨ ∃ n, N n ∧ Run tg st1 (true, ext st1 r ops, n)) :
    ∃ f, (∃ s m, pr f tg st1 = some (false, s, m) ∧ s.err = 11) ∨ ∃ n, N n ∧ pr f tg st1 = some (true, ext st1 r ops, n) := by
  rcases h with ⟨s, m, ⟨f, h1⟩, h2⟩ | ⟨n, hn, f, h1⟩
  · exact ⟨f, .inl ⟨s, m, h1, h2⟩⟩
  · exact ⟨f, .inr ⟨n, hn, h1⟩⟩
theorem deeper_of {tg : PTag} {st : PSt} {t : Tok} {rr r : List Tok} {ops : List Opn} {N : Int → Prop} (he : st.err = 0) (hr : st.rest = t :: rr)
    (h : ∀ st', st'.err = 0 → st'.rest = rr → Deep tg st' ∨ ∃ n, N n ∧ Run tg st' (true, ext st' r ops, n)) :
    ∃ f, (∃ s m, pwithin (pr f tg) st = some (false, s, m) ∧ s.err = 11) ∨ ∃ n, N n ∧ pwithin (pr f tg) st = some (true, ext st r ops, n) := by
  obtain ⟨f, hf⟩ := fuel_of (h { st with depth := st.depth + 1, rest := rr } he rfl)
  refine ⟨f, ?_⟩
  unfold pwithin
  by_cases hd : 24 < st.depth
  · rw [if_pos hd]
    exact .inl ⟨_, _, rfl, pfail_deep he⟩
  · rw [if_neg hd]
    have ht : st.rest.tail = rr := by rw [hr]; rfl
    rw [ht]
    rcases hf with ⟨s, m, h1, h2⟩ | ⟨n, hn, h1⟩
    · exact .inl ⟨{ s with depth := s.depth - 1 }, m, by rw [h1]; rfl, h2⟩
    · refine .inr ⟨n, hn, ?_⟩
      rw [h1]
      simp only [pdown, Option.map_some, ext]
      congr 3
      simp only [PSt.mk.injEq, true_and, and_true]
      omega
/-- Parentheses about what a tag takes. -/
theorem parens_of {tg : PTag} {st : PSt} {body r : List Tok} {ops : List Opn} {N : Int → Prop} (he : st.err = 0) (hr : st.rest = ⟨3, [40]⟩ :: (body ++ ⟨3, [41]⟩ :: r))
    (h : ∀ st', st'.err = 0 → st'.rest = body ++ ⟨3, [41]⟩ :: r → Deep tg st' ∨ ∃ n, N n ∧ Run tg st' (true, ext st' (⟨3, [41]⟩ :: r) ops, n)) :
    ∃ f, (∃ s m, pparens (pr f tg) st = some (false, s, m) ∧ s.err = 11) ∨ ∃ n, N n ∧ pparens (pr f tg) st = some (true, ext st r ops, n) := by
  obtain ⟨f, hf⟩ := fuel_of (h { st with depth := st.depth + 1, rest := body ++ ⟨3, [41]⟩ :: r } he rfl)
  refine ⟨f, ?_⟩
  unfold pparens pwithin
  rw [if_pos (by simp [pnext, hr])]
  by_cases hd : 24 < st.depth
  · rw [if_pos hd]
    exact .inl ⟨_, _, rfl, pfail_deep he⟩
  · rw [if_neg hd]
    have ht : st.rest.tail = body ++ ⟨3, [41]⟩ :: r := by rw [hr]; rfl
    rw [ht]
    rcases hf with ⟨s, m, h1, h2⟩ | ⟨n, hn, h1⟩
    · exact .inl ⟨{ s with depth := s.depth - 1 }, m, by show pdown (pclose (pr f tg _)) = _; rw [h1]; rfl, h2⟩
    · refine .inr ⟨n, hn, ?_⟩
      show pdown (pclose (pr f tg _)) = _
      rw [h1]
      simp only [pdown, pclose, ptake, pnext, Option.map_some, ext, if_true, decide_true, List.tail_cons]
      congr 3
      simp only [PSt.mk.injEq, true_and, and_true]
      omega

theorem stops_close (r : List Tok) : stops 1 (⟨3, [41]⟩ :: r) := by
  intro t r' e
  injection e with e1 e2
  subst e1
  exact ⟨by decide, fun _ => by decide⟩
theorem stops_comma (r : List Tok) : stops 1 (⟨3, [44]⟩ :: r) := by
  intro t r' e
  injection e with e1 e2
  subst e1
  exact ⟨by decide, fun _ => by decide⟩

/-- A part in its parentheses, if it wants them. -/
theorem Reads.at_ {t : Txt} {ops : List Opn} (h : Reads t ops) (l : Int) : Reads ⟨atS t l, if l ≤ t.lev then t.lev else 11⟩ ops := by
  unfold atS
  by_cases hl : l ≤ t.lev
  · rw [if_pos hl, if_pos hl]; exact h
  · rw [if_neg hl, if_neg hl]
    refine Reads.atom ?_ ⟨symK [40], _, rfl, by decide⟩ ?_
    · intro k hk
      simp only [List.mem_append, List.mem_singleton] at hk
      rcases hk with (rfl | hk) | rfl
      · exact valid_open
      · exact h.valid k hk
      · exact valid_close
    · intro st r he hr _
      have hr' : st.rest = ⟨3, [40]⟩ :: (t.toks ++ ⟨3, [41]⟩ :: r) := by rw [hr]; simp [symK]
      obtain ⟨f, hf⟩ := parens_of (tg := .bin 1) (ops := ops) (N := fun _ => True) he hr' (fun st' he' hr'' => by
        rcases h.bin (l := 1) (by omega) h.lo he' hr'' (stops_close r) with h | ⟨n, h⟩
        · exact .inl h
        · exact .inr ⟨n, trivial, h⟩)
      have hs : pr (f + 1) .single st = pzero (pparens (pr f (.bin 1)) st) := by
        rw [pr, hr']
        simp only
        simp only [show ¬ ((3 : Int) = 2) by decide, if_false, if_true, show isUn [40] = false by decide, Bool.false_eq_true]
      rcases hf with ⟨s, m, h1, h2⟩ | ⟨n, -, h1⟩
      · exact .inl ⟨s, 0, ⟨f + 1, by rw [hs, h1]; rfl⟩, h2⟩
      · exact .inr ⟨0, f + 1, by rw [hs, h1]; rfl⟩

/-- The parts of a stack and what they read. -/
inductive RS : List Txt → List (List Opn) → Prop
  | nil : RS [] []
  | cons {t : Txt} {o : List Opn} {r : List Txt} {s : List (List Opn)} : Reads t o → RS r s → RS (t :: r) (o :: s)
theorem RS.len {a : List Txt} {s : List (List Opn)} (h : RS a s) : s.length = a.length := by
  induction h with
  | nil => rfl
  | cons _ _ ih => simp [ih]
theorem RS.append {a b : List Txt} {s t : List (List Opn)} (h : RS a s) (k : RS b t) : RS (a ++ b) (s ++ t) := by
  induction h with
  | nil => exact k
  | cons h _ ih => exact .cons h ih
theorem RS.take {a : List Txt} {s : List (List Opn)} (h : RS a s) (k : Nat) : RS (a.take k) (s.take k) := by
  induction h generalizing k with
  | nil => simp; exact .nil
  | cons h _ ih =>
    cases k with
    | zero => exact .nil
    | succ k => exact .cons h (ih k)
theorem RS.drop {a : List Txt} {s : List (List Opn)} (h : RS a s) (k : Nat) : RS (a.drop k) (s.drop k) := by
  induction h generalizing k with
  | nil => simp; exact .nil
  | cons h h' ih =>
    cases k with
    | zero => exact .cons h h'
    | succ k => exact ih k

theorem argsGo_comma (b : Txt) (r : List Txt) : argsGo (b :: r) false = ⟨3, [44]⟩ :: argsGo (b :: r) true := by simp [argsGo, symK]
theorem args_valid {args : List Txt} {segs : List (List Opn)} (h : RS args segs) (first : Bool) : ∀ k ∈ argsGo args first, validT k = true := by
  induction h generalizing first with
  | nil => intro k hk; simp [argsGo] at hk
  | cons h _ ih =>
    intro k hk
    simp only [argsGo, List.mem_append] at hk
    rcases hk with (hk | hk) | hk
    · cases first
      · simp only [Bool.false_eq_true, if_false, List.mem_singleton] at hk; subst hk; exact valid_comma
      · simp at hk
    · exact h.valid k hk
    · exact ih _ k hk
theorem ext_ext (st : PSt) (r r' : List Tok) (a b : List Opn) : ext (ext st r a) r' b = ext st r' (a ++ b) := by simp [ext]
theorem more_run {args : List Txt} {segs : List (List Opn)} (h : RS args segs) : args ≠ [] → ∀ (n : Int) (st : PSt) (r : List Tok), st.err = 0 → n + args.length ≤ 8 → st.rest = argsGo args true ++ ⟨3, [41]⟩ :: r →
    Deep (.more n) st ∨ Run (.more n) st (true, ext st (⟨3, [41]⟩ :: r) segs.flatten, n + args.length) := by
  induction h with
  | nil => intro h; exact absurd rfl h
  | @cons t o rest s h hrest ih =>
    intro _ n st r he hl hr
    cases rest with
    | nil =>
      cases hrest
      have hr' : st.rest = t.toks ++ ⟨3, [41]⟩ :: r := by rw [hr]; simp [argsGo]
      rcases h.bin (l := 1) (by omega) h.lo he hr' (stops_close r) with ⟨s, m, ⟨f, h1⟩, h2⟩ | ⟨m, f, h1⟩
      · exact .inl ⟨s, n, ⟨f + 1, by rw [pr, h1]; rfl⟩, h2⟩
      · refine .inr ⟨f + 1, ?_⟩
        rw [pr, h1]
        simp [pnext, ext]
    | cons b rest =>
      have hr' : st.rest = t.toks ++ ⟨3, [44]⟩ :: (argsGo (b :: rest) true ++ ⟨3, [41]⟩ :: r) := by
        rw [hr]
        show ([] ++ t.toks ++ argsGo (b :: rest) false) ++ _ = _
        rw [argsGo_comma]; simp
      simp only [List.length_cons] at hl
      have hn : n + 1 ≠ 8 := by omega
      rcases h.bin (l := 1) (by omega) h.lo he hr' (stops_comma _) with ⟨s, m, ⟨f, h1⟩, h2⟩ | ⟨m, f, h1⟩
      · exact .inl ⟨s, n, ⟨f + 1, by rw [pr, h1]; rfl⟩, h2⟩
      · rcases ih (by simp) (n + 1) (ext st (argsGo (b :: rest) true ++ ⟨3, [41]⟩ :: r) o) r he (by simp only [List.length_cons]; omega) rfl with ⟨s', m', ⟨g, k1⟩, k2⟩ | ⟨g, k1⟩
        · refine .inl ⟨s', m', ⟨max f g + 1, ?_⟩, k2⟩
          rw [pr, pr_le (Nat.le_max_left f g) _ _ _ h1]
          simp only [Option.bind_some, if_true]
          rw [if_pos (by simp [pnext, ext]), if_neg hn]
          exact pr_le (Nat.le_max_right f g) _ _ _ k1
        · refine .inr ⟨max f g + 1, ?_⟩
          rw [pr, pr_le (Nat.le_max_left f g) _ _ _ h1]
          simp only [Option.bind_some, if_true]
          rw [if_pos (by simp [pnext, ext]), if_neg hn]
          have := pr_le (Nat.le_max_right f g) _ _ _ k1
          rw [ext_ext] at this
          rw [show n + ((t :: b :: rest).length : Int) = n + 1 + ((b :: rest).length : Int) by simp only [List.length_cons]; omega]
          exact this
theorem args_head {args : List Txt} {segs : List (List Opn)} (h : RS args segs) (hne : args ≠ []) : ∃ k r, argsGo args true = k :: r ∧ k ≠ ⟨3, [41]⟩ := by
  cases h with
  | nil => exact absurd rfl hne
  | cons h _ =>
    obtain ⟨k, r, h1, h2⟩ := h.head
    exact ⟨k, _, by simp [argsGo, h1]; rfl, h2⟩
theorem args_run {args : List Txt} {segs : List (List Opn)} (h : RS args segs) (hl : args.length ≤ 8) (st : PSt) (r : List Tok) (he : st.err = 0) (hr : st.rest = argsGo args true ++ ⟨3, [41]⟩ :: r) :
    Deep (.args 0) st ∨ Run (.args 0) st (true, ext st (⟨3, [41]⟩ :: r) segs.flatten, args.length) := by
  by_cases hne : args = []
  · subst hne
    cases h
    refine .inr ⟨1, ?_⟩
    have hr' : st.rest = ⟨3, [41]⟩ :: r := hr
    rw [pr, if_pos (by simp [pnext, hr'])]
    simp [ext, ← hr']
  · obtain ⟨k, rr, h1, h2⟩ := args_head h hne
    have hp : pnext st [41] = false := by
      unfold pnext
      rw [hr, h1]
      simpa using h2
    rcases more_run h hne 0 st r he (by omega) hr with ⟨s', m', ⟨g, k1⟩, k2⟩ | ⟨g, k1⟩
    · exact .inl ⟨s', m', ⟨g + 1, by rw [pr, if_neg (by rw [hp]; decide)]; exact k1⟩, k2⟩
    · refine .inr ⟨g + 1, ?_⟩
      rw [pr, if_neg (by rw [hp]; decide), k1]
      simp
end Go.Proofs.Ytchdpjgncojhaaa
