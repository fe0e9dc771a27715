/- Rules: parsing what was printed gives the rules back. Plain law. -/
import Derived.Test.YtjopmgoacncmgaaGreatDoorRfEq
set_option linter.unusedVariables false
set_option linter.unusedSimpArgs false
namespace Go.Proofs.YtjopmgoacncmgaaGreatDoor

/-- A text spells tokens. -/
def Sp (s : Bs) (ts : List Bs) : Prop := ∀ (G : Nat) (out : List Bs), (trimS s).length < G → tokGo G (trimS s) out = (out ++ ts, true)
theorem Sp.nil : Sp [] [] := by
  intro G out h
  obtain ⟨g, rfl⟩ : ∃ k, G = k + 1 := ⟨G - 1, by omega⟩
  simp [trimS, tokGo]
theorem Sp.blank {s : Bs} {ts : List Bs} (h : Sp s ts) : Sp (32 :: s) ts := by
  intro G out hG
  rw [trim_cons] at hG ⊢
  exact h G out hG
theorem Sp.tok {t s : Bs} {ts : List Bs} (h : Sp s ts) (h0 : t ≠ []) (h32 : (t.headD 0 == 32) = false) (hl : lenS (t ++ s) = t.length) : Sp (t ++ s) (t :: ts) := by
  intro G out hG
  cases t with
  | nil => exact absurd rfl h0
  | cons c r =>
    rw [List.headD_cons] at h32
    rw [List.cons_append, trim_else h32] at hG ⊢
    rw [List.cons_append] at hl
    obtain ⟨g, rfl⟩ : ∃ k, G = k + 1 := ⟨G - 1, by omega⟩
    have hz : lenS (c :: (r ++ s)) ≠ 0 := by rw [hl]; simp
    rw [tokGo, if_neg (by simp), if_neg hz, hl]
    have e1 : (c :: (r ++ s)).drop (c :: r).length = s := by rw [← List.cons_append]; exact List.drop_left
    have e2 : (c :: (r ++ s)).take (c :: r).length = c :: r := by rw [← List.cons_append]; exact List.take_left
    rw [e1, e2]
    have := trim_len s
    rw [h g _ (by simp at hG; omega)]
    simp
theorem Sp.tokens {s : Bs} {ts : List Bs} (h : Sp s ts) : tokensS s = (ts, true) := by
  have := h (s.length + 1) [] (by have := trim_len s; omega)
  exact this
theorem lenS_cons (c : UInt8) (r : Bs) : lenS (c :: r) = (if lowB c || uppB c then 1 + spanS varB r
    else if digB c || (c == 45 && decide (1 < (c :: r).length) && digB (r.headD 0)) then 1 + spanS digB r
    else if c == 34 then (if 1 + spanS (fun c => c != 34) r = (c :: r).length then 0 else 1 + spanS (fun c => c != 34) r + 1)
    else symS syms (c :: r)) := rfl
theorem span_app (p : UInt8 → Bool) (r s : Bs) (hr : ∀ c ∈ r, p c = true) (hs : s = [] ∨ p (s.headD 0) = false) : spanS p (r ++ s) = r.length := by
  unfold spanS
  induction r with
  | nil =>
    rw [List.nil_append]
    cases s with
    | nil => rfl
    | cons a b =>
      have : p a = false := hs.resolve_left (by simp)
      rw [List.takeWhile_cons, this]; rfl
  | cons a t ih =>
    rw [List.cons_append, List.takeWhile_cons, hr a List.mem_cons_self]
    simp [ih (fun c hc => hr c (List.mem_cons_of_mem _ hc))]
/-- The text behind a token begins with a byte that ends words and numbers. -/
def Stop (s : Bs) : Prop := s = [] ∨ (varB (s.headD 0) = false)
theorem dig_var {c : UInt8} (h : varB c = false) : digB c = false := by
  unfold varB varI at h; unfold digB; simp at h; simp [h]
theorem len_word {c : UInt8} {r s : Bs} (hc : (lowB c || uppB c) = true) (hr : ∀ x ∈ r, varB x = true) (hs : Stop s) : lenS ((c :: r) ++ s) = (c :: r).length := by
  rw [List.cons_append, lenS_cons, if_pos hc, span_app varB r s hr hs, List.length_cons, Nat.add_comm]
theorem len_num {c : UInt8} {r s : Bs} (hr : allDig r) (hc : digB c = true ∨ (c = 45 ∧ r ≠ [])) (hs : Stop s) : lenS ((c :: r) ++ s) = (c :: r).length := by
  have h1 : (lowB c || uppB c) = false := by
    rcases hc with h | h
    · exact dig_low h
    · exact min_low (by rw [h.1]; rfl)
  have h2 : (digB c || (c == 45 && decide (1 < (c :: (r ++ s)).length) && digB ((r ++ s).headD 0))) = true := by
    rcases hc with h | ⟨h, h'⟩
    · rw [h]; rfl
    · cases r with
      | nil => exact absurd rfl h'
      | cons a b => simp [h, hr a List.mem_cons_self]
  rw [List.cons_append, lenS_cons, if_neg (by rw [h1]; simp), if_pos h2, span_app digB r s hr (hs.imp id dig_var), List.length_cons, Nat.add_comm]
theorem len_text {t s : Bs} (ht : ∀ x ∈ t, (x != 34) = true) : lenS ((34 :: (t ++ [34])) ++ s) = (34 :: (t ++ [34])).length := by
  have e : (34 :: (t ++ [34])) ++ s = 34 :: (t ++ (34 :: s)) := by simp
  have hq := quo_low (c := 34) rfl
  rw [e, lenS_cons, if_neg (by rw [hq.1]; simp), if_neg (by rw [hq.2.1, hq.2.2]; simp), if_pos (show ((34 : UInt8) == 34) = true from rfl), span_app _ t (34 :: s) ht (.inr rfl)]
  rw [if_neg (by simp; omega)]
  simp
  omega
theorem len_sym {t s : Bs} (ht : t ∈ syms) (hs : t = [60] → (s.headD 0 == 61) = false) : lenS (t ++ s) = t.length := by
  simp only [syms, List.mem_cons, List.not_mem_nil, or_false] at ht
  rcases ht with rfl | rfl | rfl | rfl | rfl | rfl | rfl | rfl | rfl
  · rfl
  · rfl
  · rfl
  · rfl
  · rfl
  · rfl
  · rfl
  · cases s <;> rfl
  · have := hs rfl
    rw [List.cons_append, List.nil_append, lenS_cons]
    cases s with
    | nil => rfl
    | cons a b =>
      rw [List.headD_cons] at this
      have ha : ((61 : UInt8) == a) = false := by rw [beq_eq_false_iff_ne] at this ⊢; exact Ne.symm this
      rw [if_neg (by decide), if_neg (by simp; decide), if_neg (by decide)]
      simp [symS, syms, List.isPrefixOf, ha]

/- What is printed, byte by byte. -/
theorem pre_var {c : UInt8} (h : preB c = true) : varB c = true := by
  unfold preB preI at h; unfold varB varI
  simp at h ⊢
  rcases h with (h | h) | h <;> simp [h]
theorem eachS_cons {c : UInt8} {r : Bs} {f o : Int → Bool} (h : eachS (c :: r) f o = true) : f c.toNat = true ∧ (∀ x ∈ c :: r, o x.toNat = true) ∧ (c :: r).length ≤ 32 := by
  unfold eachS at h
  rw [Bool.and_eq_true, Bool.and_eq_true, Bool.and_eq_true, List.all_eq_true] at h
  exact ⟨h.1.2, h.2, by simpa using h.1.1.2⟩
theorem eachS_ne {s : Bs} {f o : Int → Bool} (h : eachS s f o = true) : s ≠ [] := by
  rintro rfl
  unfold eachS at h
  simp at h
theorem len_pred {s t : Bs} (h : predS s = true) (ht : Stop t) : lenS (s ++ t) = s.length ∧ s ≠ [] ∧ (s.headD 0 == 32) = false := by
  unfold predS at h
  rw [Bool.and_eq_true] at h
  cases s with
  | nil => exact absurd rfl (eachS_ne h.2)
  | cons c r =>
    have := eachS_cons h.2
    have hl : lowB c = true := this.1
    refine ⟨len_word (by rw [hl]; rfl) (fun x hx => pre_var (this.2.1 x (List.mem_cons_of_mem _ hx))) ht, by simp, ?_⟩
    rw [List.headD_cons, beq_eq_false_iff_ne]
    rintro rfl
    exact absurd hl (by decide)
theorem natDig_dig (f n : Nat) : allDig (natDig f n) := by
  induction f generalizing n with
  | zero => intro c hc; cases hc
  | succ f ih =>
    rw [natDig]
    have hd : ∀ k, k < 10 → digB (48 + k).toUInt8 = true := by decide
    split
    · rename_i h
      intro c hc
      rw [List.mem_singleton.1 hc]
      exact hd n h
    · intro c hc
      rcases List.mem_append.1 hc with h1 | h1
      · exact ih _ c h1
      · rw [List.mem_singleton.1 h1]; exact hd _ (Nat.mod_lt _ (by omega))
theorem natDig_ne (f n : Nat) : natDig (f + 1) n ≠ [] := by rw [natDig]; split <;> simp
theorem natDig_back (f : Nat) : ∀ n, n < 10 ^ f → decN 0 (natDig f n) = n := by
  induction f with
  | zero => intro n h; simp at h; subst h; rfl
  | succ f ih =>
    intro n h
    have hd : ∀ k, k < 10 → (48 + k).toUInt8.toNat - 48 = k := by decide
    rw [natDig]
    split
    · rename_i hn
      rw [decN_cons, decN_nil, hd n hn]; omega
    · rw [decN_app, ih (n / 10) (by rw [Nat.pow_succ] at h; omega), hd _ (Nat.mod_lt _ (by omega))]
      omega
theorem itoa_sg (v : Int) (h : v.natAbs < 10 ^ 20) : ∃ neg d, itoaS v = sgB neg ++ d ∧ allDig d ∧ d ≠ [] ∧ sg neg (decN 0 d) = v := by
  unfold itoaS
  by_cases hv : v < 0
  · refine ⟨true, natDig 20 v.natAbs, by rw [if_pos hv]; rfl, natDig_dig _ _, natDig_ne _ _, ?_⟩
    rw [natDig_back 20 _ h]
    unfold sg
    rw [if_pos rfl]
    omega
  · refine ⟨false, natDig 20 v.natAbs, by rw [if_neg hv]; rfl, natDig_dig _ _, natDig_ne _ _, ?_⟩
    rw [natDig_back 20 _ h]
    unfold sg
    rw [if_neg (by simp)]
    omega
/-- A printed argument is one token, which is read as the argument. -/
theorem arg_tok {a : Arg} (h : formedS a = true) : argOf (prArg a) = a ∧ prArg a ≠ [] ∧ ((prArg a).headD 0 == 32) = false ∧ (∀ s, Stop s → lenS (prArg a ++ s) = (prArg a).length) ∧ (∀ t ∈ opsL, prArg a ≠ t) ∧ prArg a ≠ sNot ∧ (lowB ((prArg a).headD 0) = false) ∧ ∀ c ∈ prArg a, c ≠ 10 := by
  obtain ⟨k, t, n⟩ := a
  unfold formedS at h
  simp only at h
  split at h
  · rename_i hk
    subst hk
    rw [Bool.and_eq_true, beq_iff_eq] at h
    obtain ⟨rfl, h⟩ := h
    have hp : prArg ⟨1, t, 0⟩ = t := rfl
    rw [hp]
    unfold varS at h
    cases t with
    | nil => exact absurd rfl (eachS_ne h)
    | cons c r =>
      have he := eachS_cons h
      have hu : uppB c = true := he.1
      have hn := uppI_not hu
      have h34 : ¬ (c = 34) := by have := hn.2.2.2; rw [beq_eq_false_iff_ne] at this; exact this
      have e2 : argOf (c :: r) = if c = 34 then ⟨2, ((c :: r).drop 1).take ((c :: r).length - 2), 0⟩ else if uppB c then ⟨1, c :: r, 0⟩ else match numS (c :: r) with | some n => ⟨3, [], n⟩ | none => default := rfl
      refine ⟨by rw [e2, if_neg h34, if_pos hu], by simp, ?_, fun s hs => len_word (by rw [hu]; simp) (fun x hx => he.2.1 x (List.mem_cons_of_mem _ hx)) hs, ?_, ?_, hn.1, ?_⟩
      · rw [List.headD_cons, beq_eq_false_iff_ne]; rintro rfl; exact absurd hu (by decide)
      · intro t ht e
        have key : ∀ t ∈ opsL, uppB (t.headD 0) = false := by decide
        have := key t ht
        rw [← e, List.headD_cons, hu] at this
        cases this
      · intro e
        have : uppB (sNot.headD 0) = false := by decide
        rw [← e, List.headD_cons, hu] at this
        cases this
      · rintro x hx rfl
        exact absurd (he.2.1 _ hx) (by decide)
  · split at h
    · rename_i hk
      subst hk
      rw [Bool.and_eq_true, beq_iff_eq] at h
      obtain ⟨rfl, h⟩ := h
      have hp : prArg ⟨2, t, 0⟩ = 34 :: (t ++ [34]) := rfl
      rw [hp]
      unfold conS at h
      rw [Bool.and_eq_true, List.all_eq_true] at h
      have hc : ∀ x ∈ t, (x != 34) = true := by
        intro x hx
        have := h.2 x hx
        rw [bne_iff_ne]
        rintro rfl
        exact absurd this (by decide)
      refine ⟨?_, by simp, rfl, fun s hs => len_text hc, ?_, (by intro e; injection e with e _; exact absurd e (by decide)), rfl, ?_⟩
      · have : argOf (34 :: (t ++ [34])) = ⟨2, ((34 :: (t ++ [34])).drop 1).take ((34 :: (t ++ [34])).length - 2), 0⟩ := rfl
        rw [this]
        congr 1
        simp
      · intro s hs e
        have key : ∀ t ∈ opsL, (t.headD 0 == 34) = false := by decide
        have := key s hs
        rw [← e] at this
        cases this
      · intro x hx
        rcases List.mem_cons.1 hx with rfl | hx
        · decide
        · rcases List.mem_append.1 hx with hx | hx
          · rintro rfl; exact absurd (h.2 _ hx) (by decide)
          · rw [List.mem_singleton.1 hx]; decide
    · split at h
      · rename_i hk
        subst hk
        rw [Bool.and_eq_true, Bool.and_eq_true, decide_eq_true_eq, decide_eq_true_eq] at h
        have ht : t = [] := by cases t with | nil => rfl | cons a b => exact absurd h.1.1 (by simp)
        subst ht
        have hp : prArg ⟨3, [], n⟩ = itoaS n := rfl
        rw [hp]
        have hab : n.natAbs < 10 ^ 20 := by omega
        obtain ⟨neg, d, hi, hd, hne, hsg⟩ := itoa_sg n hab
        have hnum : numS (itoaS n) = some n := by
          rw [hi, numS_of neg d hd hne, hsg, if_pos ⟨by omega, by omega, hi⟩]
        have hcons : ∃ c r, itoaS n = c :: r ∧ allDig r ∧ (digB c = true ∨ (c = 45 ∧ r ≠ [])) := by
          rw [hi]
          cases neg
          · cases d with
            | nil => exact absurd rfl hne
            | cons c r => exact ⟨c, r, rfl, hd.tail, .inl (hd c List.mem_cons_self)⟩
          · exact ⟨45, d, rfl, hd, .inr ⟨rfl, hne⟩⟩
        obtain ⟨c, r, hcr, hr, hc⟩ := hcons
        rw [hcr] at hnum ⊢
        have hlu : (lowB c || uppB c) = false := by
          rcases hc with h | h
          · exact dig_low h
          · exact min_low (by rw [h.1]; rfl)
        rw [Bool.or_eq_false_iff] at hlu
        have h34 : ¬ (c = 34) := by
          rintro rfl
          rcases hc with h | h
          · exact absurd h (by decide)
          · exact absurd h.1 (by decide)
        have h45 : c = 45 ∨ digB c = true := hc.elim .inr fun h => .inl h.1
        have e2 : argOf (c :: r) = if c = 34 then ⟨2, ((c :: r).drop 1).take ((c :: r).length - 2), 0⟩ else if uppB c then ⟨1, c :: r, 0⟩ else match numS (c :: r) with | some n => ⟨3, [], n⟩ | none => default := rfl
        refine ⟨by rw [e2, if_neg h34, if_neg (by rw [hlu.2]; simp), hnum], by simp, ?_, fun s hs => len_num hr hc hs, ?_, ?_, hlu.1, ?_⟩
        · rw [List.headD_cons, beq_eq_false_iff_ne]; rintro rfl; rcases h45 with h | h; exact absurd h (by decide); exact absurd h (by decide)
        · intro t ht e
          have key : ∀ t ∈ opsL, (t.headD 0 == 45) = false ∧ digB (t.headD 0) = false := by decide
          have := key t ht
          rw [← e, List.headD_cons] at this
          rcases h45 with h | h
          · rw [h] at this; exact absurd this.1 (by decide)
          · rw [h] at this; cases this.2
        · intro e
          have : lowB (sNot.headD 0) = true := by decide
          rw [← e, List.headD_cons, hlu.1] at this
          cases this
        · intro x hx
          rcases List.mem_cons.1 hx with rfl | hx
          · rintro rfl; rcases h45 with h | h; exact absurd h (by decide); exact absurd h (by decide)
          · rintro rfl; exact absurd (hr _ hx) (by decide)
      · cases h

/- Tokens of what is printed. -/
def tkArgs : List Arg → List Bs
  | [] => []
  | [a] => [prArg a]
  | a :: b :: r => prArg a :: [44] :: tkArgs (b :: r)
def tkAtom (a : Atm) : List Bs := if a.args.length = 0 then [a.name] else a.name :: [40] :: (tkArgs a.args ++ [[41]])
theorem stop_of (c : UInt8) (r : Bs) (h : varB c = false) : Stop (c :: r) := .inr h
theorem sym_spell {t s : Bs} {ts : List Bs} (h : Sp s ts) (ht : t ∈ syms) (hs : t = [60] → (s.headD 0 == 61) = false) : Sp (t ++ s) (t :: ts) := by
  have key : ∀ t ∈ syms, t ≠ [] ∧ (t.headD 0 == 32) = false := by decide
  exact h.tok (key t ht).1 (key t ht).2 (len_sym ht hs)
theorem join_spell (l : List Arg) (hl : ∀ a ∈ l, formedS a = true) {s : Bs} {ts : List Bs} (h : Sp s ts) (hs : Stop s) (hne : l ≠ []) : Sp (joinS (l.map prArg) ++ s) (tkArgs l ++ ts) := by
  induction l with
  | nil => exact absurd rfl hne
  | cons a r ih =>
    have ha := arg_tok (hl a List.mem_cons_self)
    cases r with
    | nil =>
      simp only [List.map_cons, List.map_nil, joinS, tkArgs]
      exact h.tok ha.2.1 ha.2.2.1 (ha.2.2.2.1 s hs)
    | cons b t =>
      have := ih (fun x hx => hl x (List.mem_cons_of_mem _ hx)) (by simp)
      simp only [List.map_cons] at this
      simp only [List.map_cons, joinS, tkArgs, List.cons_append]
      have e : prArg a ++ [44, 32] ++ joinS (prArg b :: t.map prArg) ++ s = prArg a ++ ([44] ++ (32 :: (joinS (prArg b :: t.map prArg) ++ s))) := by simp
      rw [e]
      refine Sp.tok (sym_spell this.blank (by decide) (by simp)) ha.2.1 ha.2.2.1 (ha.2.2.2.1 _ (stop_of _ _ (by decide)))
theorem atom_spell {a : Atm} (ha : atomS a = true) {s : Bs} {ts : List Bs} (h : Sp s ts) (hs : Stop s) : Sp (prAtom a ++ s) (tkAtom a ++ ts) := by
  unfold atomS argsS at ha
  rw [Bool.and_eq_true, Bool.and_eq_true, List.all_eq_true] at ha
  unfold prAtom tkAtom
  by_cases h0 : a.args.length = 0
  · rw [if_pos h0, if_pos h0]
    have := len_pred ha.1.1 hs
    exact h.tok this.2.1 this.2.2 this.1
  · rw [if_neg h0, if_neg h0]
    have hj := join_spell a.args ha.2 (sym_spell (t := [41]) h (by decide) (by simp)) (stop_of _ _ (by decide)) (by intro e; rw [e] at h0; exact h0 rfl)
    have h1 := sym_spell (t := [40]) hj (by decide) (by simp)
    have := len_pred (t := [40] ++ (joinS (a.args.map prArg) ++ ([41] ++ s))) ha.1.1 (stop_of _ _ (by decide))
    have h2 := h1.tok this.2.1 this.2.2 this.1
    have e1 : a.name ++ [40] ++ joinS (a.args.map prArg) ++ [41] ++ s = a.name ++ ([40] ++ (joinS (a.args.map prArg) ++ ([41] ++ s))) := by simp
    have e2 : a.name :: [40] :: (tkArgs a.args ++ [[41]]) ++ ts = a.name :: [40] :: (tkArgs a.args ++ ([41] :: ts)) := by simp
    rw [e1, e2]
    exact h2
def tkLtl (l : Ltl) : List Bs :=
  if compsS l then [prArg (l.atom.args.getD 0 default), l.op, prArg (l.atom.args.getD 1 default)] else if l.neg then sNot :: tkAtom l.atom else tkAtom l.atom
theorem not_len {s : Bs} (hs : Stop s) : lenS (sNot ++ s) = sNot.length := len_word (c := 110) (r := [111, 116]) (by decide) (by decide) hs
theorem ltl_args {l : Ltl} (hl : ltlS l = true) (hc : compsS l = true) : l.op ∈ opsL ∧ l.neg = false ∧ l.atom.name = [] ∧ ∃ x y, l.atom.args = [x, y] ∧ formedS x = true ∧ formedS y = true := by
  unfold ltlS at hl
  rw [hc] at hl
  simp only [Bool.not_true, Bool.false_eq_true, if_false, Bool.and_eq_true, beq_iff_eq, Bool.not_eq_true'] at hl
  obtain ⟨⟨⟨⟨h1, h2⟩, h3⟩, h4⟩, h5⟩ := hl
  refine ⟨List.contains_iff_mem.1 h1, h2, List.isEmpty_iff.1 h3, ?_⟩
  unfold argsS at h5
  match hx : l.atom.args, h4, h5 with
  | [x, y], _, h5 =>
    simp at h5
    exact ⟨x, y, rfl, h5.1, h5.2⟩
theorem ltl_spell {l : Ltl} (hl : ltlS l = true) {s : Bs} {ts : List Bs} (h : Sp s ts) (hs : Stop s) : Sp (prLtl l ++ s) (tkLtl l ++ ts) := by
  unfold prLtl tkLtl
  by_cases hc : compsS l = true
  · rw [if_pos hc, if_pos hc]
    obtain ⟨ho, _, _, x, y, hxy, hx, hy⟩ := ltl_args hl hc
    rw [hxy]
    have ax := arg_tok hx
    have ay := arg_tok hy
    have h1 : Sp (prArg y ++ s) (prArg y :: ts) := h.tok ay.2.1 ay.2.2.1 (ay.2.2.2.1 s hs)
    have hos : l.op ∈ syms := by
      have key : ∀ t ∈ opsL, t ∈ syms := by decide
      exact key _ ho
    have h2 := sym_spell h1.blank hos (fun _ => rfl)
    have hst : Stop (32 :: (l.op ++ (32 :: (prArg y ++ s)))) := stop_of _ _ (by decide)
    have h3 := h2.blank.tok ax.2.1 ax.2.2.1 (ax.2.2.2.1 _ hst)
    have e : prArg ([x, y].getD 0 default) ++ [32] ++ l.op ++ [32] ++ prArg ([x, y].getD 1 default) ++ s = prArg x ++ (32 :: (l.op ++ (32 :: (prArg y ++ s)))) := by simp
    rw [e]
    exact h3
  · rw [if_neg hc, if_neg hc]
    have ha : atomS l.atom = true := by
      unfold ltlS at hl
      rw [Bool.not_eq_true] at hc
      rw [hc] at hl
      exact hl
    split
    · have h1 := (atom_spell ha h hs).blank
      have hst : Stop (32 :: (prAtom l.atom ++ s)) := stop_of _ _ (by decide)
      have h2 := h1.tok (t := sNot) (by decide) (by decide) (not_len hst)
      have e : sNot ++ [32] ++ prAtom l.atom ++ s = sNot ++ (32 :: (prAtom l.atom ++ s)) := by simp
      rw [e]
      exact h2
    · exact atom_spell ha h hs

/- Reading the tokens. -/
theorem arg_read {a : Arg} (h : formedS a = true) (rest : List Bs) : argP (prArg a :: rest, false) = (a, (rest, false)) := by
  have ha := arg_tok h
  have hne : (prArg a).isEmpty = false := by cases hp : prArg a with | nil => exact absurd hp ha.2.1 | cons x y => rfl
  have e : nextS (prArg a :: rest, false) = (prArg a, (rest, false)) := by unfold nextS peekS; simp [hne]
  unfold argP
  rw [e]
  simp only [ha.1, h]
  rfl
theorem take_hit (t : Bs) (rest : List Bs) (h : t.isEmpty = false) : takeS (t :: rest, false) t = (true, (rest, false)) := by
  have : peekS (t :: rest, false) = t := rfl
  unfold takeS
  rw [this, if_neg (by simp)]
  unfold nextS
  rw [this, h]
  rfl
theorem take_miss (p : KSt) (t : Bs) (h : peekS p ≠ t) : takeS p t = (false, p) := by
  unfold takeS; rw [if_pos (by simpa using h)]
theorem more_read (l : List Arg) (hl : ∀ a ∈ l, formedS a = true) (rest : List Bs) (hr : peekS (rest, false) ≠ [44]) : ∀ (f : Nat) (out : List Arg), l.length < f →
    moreP f ((l.flatMap fun a => [[44], prArg a]) ++ rest, false) out = (out ++ l, (rest, false)) := by
  induction l with
  | nil =>
    intro f out hf
    obtain ⟨g, rfl⟩ : ∃ k, f = k + 1 := ⟨f - 1, by omega⟩
    simp only [List.flatMap_nil, List.nil_append, List.append_nil]
    rw [moreP, take_miss _ _ hr]
    rfl
  | cons a r ih =>
    intro f out hf
    obtain ⟨g, rfl⟩ : ∃ k, f = k + 1 := ⟨f - 1, by omega⟩
    rw [List.flatMap_cons]
    simp only [List.cons_append, List.nil_append]
    rw [moreP, take_hit _ _ rfl]
    simp only [Bool.not_false, Bool.true_and, if_true]
    rw [arg_read (hl a List.mem_cons_self)]
    simp only
    rw [ih (fun x hx => hl x (List.mem_cons_of_mem _ hx)) g _ (by simp at hf; omega)]
    simp
theorem tkArgs_cons (a : Arg) (r : List Arg) : tkArgs (a :: r) = prArg a :: (r.flatMap fun a => [[44], prArg a]) := by
  induction r generalizing a with
  | nil => rfl
  | cons b t ih => rw [tkArgs, ih b, List.flatMap_cons]; rfl
theorem flat_len {α : Type} (f : α → Bs) (r : List α) : r.length ≤ (r.flatMap fun a => [[44], f a]).length := by
  induction r with
  | nil => simp
  | cons a t ih => rw [List.flatMap_cons, List.length_append, List.length_cons]; simp only [List.length_cons, List.length_nil]; omega
theorem flat_len2 (r : List Ltl) : r.length ≤ (r.flatMap fun a => [44] :: tkLtl a).length := by
  induction r with
  | nil => simp
  | cons a t ih => rw [List.flatMap_cons, List.length_append, List.length_cons]; simp only [List.length_cons]; omega
theorem atom_read {a : Atm} (ha : atomS a = true) (rest : List Bs) (hr : peekS (rest, false) ≠ [40]) : atomP (tkAtom a ++ rest, false) = (a, (rest, false)) := by
  have ha' := ha
  unfold atomS argsS at ha
  rw [Bool.and_eq_true, Bool.and_eq_true, List.all_eq_true] at ha
  have hne := (len_pred (t := []) ha.1.1 (.inl rfl)).2.1
  have hem : a.name.isEmpty = false := by cases hp : a.name with | nil => exact absurd hp hne | cons x y => rfl
  have hnx : ∀ l, nextS (a.name :: l, false) = (a.name, (l, false)) := fun l => by unfold nextS peekS; simp [hem]
  unfold tkAtom
  by_cases h0 : a.args.length = 0
  · have hnil : a.args = [] := List.eq_nil_of_length_eq_zero h0
    have hae : (⟨a.name, []⟩ : Atm) = a := by cases a; simp only at hnil; subst hnil; rfl
    rw [if_pos h0, List.cons_append, List.nil_append]
    unfold atomP
    rw [hnx]
    simp only
    rw [take_miss _ _ hr]
    simp only [Bool.false_eq_true, if_false, hae, ha']
    rfl
  · rw [if_neg h0]
    cases hx : a.args with
    | nil => rw [hx] at h0; exact absurd rfl h0
    | cons x r =>
      have hae : (⟨a.name, x :: r⟩ : Atm) = a := by cases a; simp only at hx; subst hx; rfl
      rw [hx] at ha
      have hfx := ha.2 x List.mem_cons_self
      have hfr : ∀ y ∈ r, formedS y = true := fun y hy => ha.2 y (List.mem_cons_of_mem _ hy)
      rw [tkArgs_cons]
      have e : a.name :: [40] :: ((prArg x :: (r.flatMap fun a => [[44], prArg a])) ++ [[41]]) ++ rest = a.name :: [40] :: (prArg x :: ((r.flatMap fun a => [[44], prArg a]) ++ ([41] :: rest))) := by simp
      rw [e]
      unfold atomP
      rw [hnx]
      simp only
      rw [take_hit _ _ rfl]
      simp only [if_true]
      rw [arg_read hfx]
      simp only
      have hlen : r.length < (prArg x :: ((r.flatMap fun a => [[44], prArg a]) ++ ([41] :: rest))).length + 1 := by
        have := flat_len (fun a => prArg a) r
        simp only [List.length_cons, List.length_append]
        omega
      rw [more_read r hfr ([41] :: rest) (by show ([41] : Bs) ≠ [44]; decide) _ _ hlen]
      simp only [Bool.false_eq_true, if_false]
      rw [take_hit _ _ rfl]
      have hla : [x] ++ r = x :: r := rfl
      rw [hla, hae]
      simp [ha']
theorem atom_head {a : Atm} (ha : atomS a = true) : ∃ r, tkAtom a = a.name :: r ∧ predS a.name = true := by
  unfold atomS at ha
  rw [Bool.and_eq_true, Bool.and_eq_true] at ha
  unfold tkAtom
  split
  · exact ⟨_, rfl, ha.1.1⟩
  · exact ⟨_, rfl, ha.1.1⟩
theorem ltl_read {l : Ltl} (hl : ltlS l = true) (rest : List Bs) (hr : peekS (rest, false) ≠ [40]) : ltlP (tkLtl l ++ rest, false) = (l, (rest, false)) := by
  have hl' := hl
  unfold tkLtl
  by_cases hc : compsS l = true
  · rw [if_pos hc]
    obtain ⟨ho, hng, hnm, x, y, hxy, hx, hy⟩ := ltl_args hl hc
    rw [hxy]
    have ax := arg_tok hx
    have hop : l.op.isEmpty = false := by
      have key : ∀ t ∈ opsL, t.isEmpty = false := by decide
      exact key _ ho
    have e : [prArg ([x, y].getD 0 default), l.op, prArg ([x, y].getD 1 default)] ++ rest = prArg x :: l.op :: prArg y :: rest := rfl
    rw [e]
    unfold ltlP
    have hp : peekS (prArg x :: l.op :: prArg y :: rest, false) = prArg x := rfl
    simp only
    rw [hp, if_neg ax.2.2.2.2.2.1, if_neg (by rw [ax.2.2.2.2.2.2.1]; simp), arg_read hx]
    have e2 : nextS (l.op :: prArg y :: rest, false) = (l.op, (prArg y :: rest, false)) := by unfold nextS peekS; simp [hop]
    simp only
    rw [e2]
    simp only
    rw [arg_read hy]
    have el : (⟨false, l.op, ⟨[], [x, y]⟩⟩ : Ltl) = l := by
      obtain ⟨n, o, ⟨nm, args⟩⟩ := l
      simp only at hng hnm hxy
      subst hng hnm hxy
      rfl
    simp only
    rw [el, hl', hop]
    rfl
  · rw [if_neg hc]
    have hop : l.op = [] := by
      unfold compsS at hc
      cases ho : l.op with
      | nil => rfl
      | cons a b => rw [ho] at hc; exact absurd rfl hc
    have ha : atomS l.atom = true := by
      unfold ltlS at hl
      rw [Bool.not_eq_true] at hc
      rw [hc] at hl
      exact hl
    by_cases hn : l.neg = true
    · rw [if_pos hn, List.cons_append]
      have el : (⟨true, [], l.atom⟩ : Ltl) = l := by
        obtain ⟨n, o, a⟩ := l
        simp only at hn hop
        subst hn hop
        rfl
      unfold ltlP
      have hp : peekS (sNot :: (tkAtom l.atom ++ rest), false) = sNot := rfl
      have e2 : nextS (sNot :: (tkAtom l.atom ++ rest), false) = (sNot, (tkAtom l.atom ++ rest, false)) := rfl
      simp only
      rw [hp, if_pos rfl, e2]
      simp only
      rw [atom_read ha rest hr]
      simp only
      rw [el]
    · rw [if_neg hn]
      rw [Bool.not_eq_true] at hn
      have el : (⟨false, [], l.atom⟩ : Ltl) = l := by
        obtain ⟨n, o, a⟩ := l
        simp only at hn hop
        subst hn hop
        rfl
      obtain ⟨r, hr2, hp⟩ := atom_head ha
      have hpk : peekS (tkAtom l.atom ++ rest, false) = l.atom.name := by rw [hr2]; rfl
      have hnn : ¬ (l.atom.name = sNot) := by
        intro e; rw [e] at hp; exact absurd hp (by decide)
      have hlow : (!l.atom.name.isEmpty && lowB (l.atom.name.headD 0)) = true := by
        generalize l.atom.name = s at *
        unfold predS at hp
        rw [Bool.and_eq_true] at hp
        cases s with
        | nil => exact absurd rfl (eachS_ne hp.2)
        | cons c r => have : lowB c = true := (eachS_cons hp.2).1; simp [this]
      unfold ltlP
      simp only
      rw [hpk, if_neg hnn, if_pos hlow, atom_read ha rest hr]
      simp only
      rw [el]
theorem moreL_read (l : List Ltl) (hl : ∀ a ∈ l, ltlS a = true) (rest : List Bs) (hr : peekS (rest, false) ≠ [44]) (hr4 : peekS (rest, false) ≠ [40]) : ∀ (f : Nat) (out : List Ltl), l.length < f →
    moreL f ((l.flatMap fun a => [44] :: tkLtl a) ++ rest, false) out = (out ++ l, (rest, false)) := by
  induction l with
  | nil =>
    intro f out hf
    obtain ⟨g, rfl⟩ : ∃ k, f = k + 1 := ⟨f - 1, by omega⟩
    simp only [List.flatMap_nil, List.nil_append, List.append_nil]
    rw [moreL, take_miss _ _ hr]
    rfl
  | cons a r ih =>
    intro f out hf
    obtain ⟨g, rfl⟩ : ∃ k, f = k + 1 := ⟨f - 1, by omega⟩
    rw [List.flatMap_cons]
    simp only [List.cons_append, List.append_assoc]
    rw [moreL, take_hit _ _ rfl]
    simp only [Bool.not_false, Bool.true_and, if_true]
    rw [ltl_read (hl a List.mem_cons_self)]
    · simp only
      rw [ih (fun x hx => hl x (List.mem_cons_of_mem _ hx)) g _ (by simp at hf; omega)]
      simp
    · cases r with
      | nil => simpa using hr4
      | cons b t => rw [List.flatMap_cons]; show ([44] : Bs) ≠ [40]; decide
def tkBody : List Ltl → List Bs
  | [] => []
  | l :: r => [58, 45] :: (tkLtl l ++ (r.flatMap fun a => [44] :: tkLtl a))
def tkRule (r : Rul) : List Bs := tkAtom r.head ++ (tkBody r.body ++ [[46]])
theorem rule_read {r : Rul} (h : ruleS r = true) : ruleP (tkRule r, false) = (r, true) := by
  have h' := h
  unfold ruleS at h
  rw [Bool.and_eq_true, Bool.and_eq_true, Bool.and_eq_true, List.all_eq_true] at h
  obtain ⟨⟨⟨h1, _⟩, h2⟩, _⟩ := h
  have hok : ∀ x : KSt, ruleS r = true := fun _ => h'
  unfold ruleP tkRule
  rw [atom_read h1 _ (by cases r.body with | nil => decide | cons a b => unfold tkBody; simp [peekS])]
  simp only
  cases hb : r.body with
  | nil =>
    have er : (⟨r.head, []⟩ : Rul) = r := by cases r; simp only at hb; subst hb; rfl
    simp only [tkBody, List.nil_append]
    have e1 : takeS ([[46]], false) [58, 45] = (false, ([[46]], false)) := take_miss _ _ (by decide)
    have e2 : takeS ([[46]], false) [46] = (true, ([], false)) := take_hit _ _ rfl
    simp only [e1, Bool.false_eq_true, if_false, e2, er, h']
    rfl
  | cons l t =>
    have er : (⟨r.head, l :: t⟩ : Rul) = r := by cases r; simp only at hb; subst hb; rfl
    rw [hb] at h2
    simp only [tkBody, List.cons_append]
    have e1 : ∀ x : List Bs, takeS ([58, 45] :: x, false) [58, 45] = (true, (x, false)) := fun x => take_hit _ _ rfl
    simp only [e1, if_true]
    rw [List.append_assoc, ltl_read (h2 l List.mem_cons_self)]
    · simp only
      rw [moreL_read t (fun x hx => h2 x (List.mem_cons_of_mem _ hx)) [[46]] (by decide) (by decide)]
      · simp only
        have e : [l] ++ t = l :: t := rfl
        rw [take_hit _ _ rfl, e, er, h']
        rfl
      · have := flat_len2 t
        simp only [List.length_cons, List.length_append]
        omega
    · cases t with
      | nil => decide
      | cons b u => rw [List.flatMap_cons]; simp [peekS]
/- A printed line spells its rule. -/
def lineOf (r : Rul) : Bs := prBody (prAtom r.head) r.body true ++ [46]
theorem prBody_app (l : List Ltl) : ∀ (out : Bs) (b : Bool), prBody out l b = out ++ prBody [] l b := by
  induction l with
  | nil => intro out b; simp [prBody]
  | cons a r ih => intro out b; rw [prBody, ih, prBody, ih ([] ++ _)]; simp
theorem body_spell (l : List Ltl) (hl : ∀ a ∈ l, ltlS a = true) {s : Bs} {ts : List Bs} (h : Sp s ts) (hs : Stop s) : Sp (prBody [] l false ++ s) ((l.flatMap fun a => [44] :: tkLtl a) ++ ts) ∧ Stop (prBody [] l false ++ s) := by
  induction l with
  | nil => exact ⟨h, hs⟩
  | cons a r ih =>
    have := ih (fun x hx => hl x (List.mem_cons_of_mem _ hx))
    rw [prBody, prBody_app, List.flatMap_cons]
    have h1 := ltl_spell (hl a List.mem_cons_self) this.1 this.2
    have h2 := sym_spell (t := [44]) h1.blank (by decide) (by simp)
    have e1 : [] ++ ((if false = true then [32, 58, 45, 32] else [44, 32]) ++ prLtl a) ++ prBody [] r false ++ s = [44] ++ (32 :: (prLtl a ++ (prBody [] r false ++ s))) := by simp
    have e2 : [44] :: tkLtl a ++ (r.flatMap fun a => [44] :: tkLtl a) ++ ts = [44] :: (tkLtl a ++ ((r.flatMap fun a => [44] :: tkLtl a) ++ ts)) := by simp
    rw [e1, e2]
    exact ⟨h2, stop_of _ _ (by decide)⟩
theorem line_spell {r : Rul} (h : ruleS r = true) : Sp (lineOf r) (tkRule r) := by
  unfold ruleS at h
  rw [Bool.and_eq_true, Bool.and_eq_true, Bool.and_eq_true, List.all_eq_true] at h
  obtain ⟨⟨⟨h1, _⟩, h2⟩, _⟩ := h
  have hdot : Sp ([46] ++ []) ([46] :: []) := sym_spell (t := [46]) Sp.nil (by decide) (by simp)
  have hst : Stop ([46] ++ []) := stop_of _ _ (by decide)
  unfold lineOf tkRule
  rw [prBody_app, List.append_assoc]
  cases hb : r.body with
  | nil => exact atom_spell h1 hdot hst
  | cons l t =>
    rw [hb] at h2
    have hbs := body_spell t (fun x hx => h2 x (List.mem_cons_of_mem _ hx)) hdot hst
    have hl := ltl_spell (h2 l List.mem_cons_self) hbs.1 hbs.2
    have hs := (sym_spell (t := [58, 45]) hl.blank (by decide) (by simp)).blank
    have := atom_spell h1 hs (stop_of _ _ (by decide))
    have e1 : prAtom r.head ++ (prBody [] (l :: t) true ++ [46]) = prAtom r.head ++ (32 :: ([58, 45] ++ (32 :: (prLtl l ++ (prBody [] t false ++ ([46] ++ [])))))) := by
      rw [prBody, prBody_app]; simp
    have e2 : tkAtom r.head ++ (tkBody (l :: t) ++ [[46]]) = tkAtom r.head ++ ([58, 45] :: (tkLtl l ++ ((t.flatMap fun a => [44] :: tkLtl a) ++ [[46]]))) := by simp [tkBody]
    rw [e1, e2]
    exact this
/- No newline in a line. -/
theorem pred_nl {s : Bs} (h : predS s = true) : ∀ c ∈ s, c ≠ 10 := by
  unfold predS at h
  rw [Bool.and_eq_true] at h
  cases s with
  | nil => intro c hc; cases hc
  | cons a r => rintro c hc rfl; exact absurd ((eachS_cons h.2).2.1 _ hc) (by decide)
theorem join_nl (l : List Arg) (hl : ∀ a ∈ l, formedS a = true) : ∀ c ∈ joinS (l.map prArg), c ≠ 10 := by
  induction l with
  | nil => intro c hc; cases hc
  | cons a r ih =>
    have ha := (arg_tok (hl a List.mem_cons_self)).2.2.2.2.2.2.2
    cases r with
    | nil => exact ha
    | cons b t =>
      have := ih (fun x hx => hl x (List.mem_cons_of_mem _ hx))
      intro c hc
      simp only [List.map_cons, joinS, List.mem_append] at hc
      rcases hc with (hc | hc) | hc
      · exact ha c hc
      · rintro rfl; exact absurd hc (by decide)
      · exact this c hc
theorem atom_nl {a : Atm} (ha : atomS a = true) : ∀ c ∈ prAtom a, c ≠ 10 := by
  unfold atomS argsS at ha
  rw [Bool.and_eq_true, Bool.and_eq_true, List.all_eq_true] at ha
  unfold prAtom
  split
  · exact pred_nl ha.1.1
  · intro c hc
    simp only [List.mem_append] at hc
    rcases hc with ((hc | hc) | hc) | hc
    · exact pred_nl ha.1.1 c hc
    · rintro rfl; exact absurd hc (by decide)
    · exact join_nl _ ha.2 c hc
    · rintro rfl; exact absurd hc (by decide)
theorem ltl_nl {l : Ltl} (hl : ltlS l = true) : ∀ c ∈ prLtl l, c ≠ 10 := by
  unfold prLtl
  by_cases hc : compsS l = true
  · rw [if_pos hc]
    obtain ⟨ho, _, _, x, y, hxy, hx, hy⟩ := ltl_args hl hc
    have hop : ∀ t ∈ opsL, ∀ c ∈ t, c ≠ 10 := by decide
    rw [hxy]
    intro c hc
    simp only [List.mem_append] at hc
    rcases hc with (((hc | hc) | hc) | hc) | hc
    · exact (arg_tok hx).2.2.2.2.2.2.2 c hc
    · rintro rfl; exact absurd hc (by decide)
    · exact hop _ ho c hc
    · rintro rfl; exact absurd hc (by decide)
    · exact (arg_tok hy).2.2.2.2.2.2.2 c hc
  · rw [if_neg hc]
    have ha : atomS l.atom = true := by
      unfold ltlS at hl
      rw [Bool.not_eq_true] at hc
      rw [hc] at hl
      exact hl
    split
    · intro c hc
      simp only [List.mem_append] at hc
      rcases hc with (hc | hc) | hc
      · rintro rfl; exact absurd hc (by decide)
      · rintro rfl; exact absurd hc (by decide)
      · exact atom_nl ha c hc
    · exact atom_nl ha
theorem body_nl (l : List Ltl) (hl : ∀ a ∈ l, ltlS a = true) : ∀ b, ∀ c ∈ prBody [] l b, c ≠ 10 := by
  induction l with
  | nil => intro b c hc; cases hc
  | cons a r ih =>
    intro b c hc
    rw [prBody, prBody_app] at hc
    simp only [List.nil_append, List.mem_append] at hc
    rcases hc with (hc | hc) | hc
    · rintro rfl; cases b <;> exact absurd hc (by decide)
    · exact ltl_nl (hl a List.mem_cons_self) c hc
    · exact ih (fun x hx => hl x (List.mem_cons_of_mem _ hx)) _ c hc
theorem line_nl {r : Rul} (h : ruleS r = true) : ∀ c ∈ lineOf r, c ≠ 10 := by
  unfold ruleS at h
  rw [Bool.and_eq_true, Bool.and_eq_true, Bool.and_eq_true, List.all_eq_true] at h
  obtain ⟨⟨⟨h1, _⟩, h2⟩, _⟩ := h
  unfold lineOf
  rw [prBody_app]
  intro c hc
  simp only [List.mem_append] at hc
  rcases hc with (hc | hc) | hc
  · exact atom_nl h1 c hc
  · exact body_nl _ h2 _ c hc
  · rintro rfl; exact absurd hc (by decide)
theorem split_line (s rest : Bs) (hs : ∀ c ∈ s, c ≠ 10) : ∀ cur, splitGo cur (s ++ [10] ++ rest) = (cur ++ s) :: splitGo [] rest := by
  induction s with
  | nil => intro cur; simp [splitGo]
  | cons a r ih =>
    intro cur
    have ha : (a == 10) = false := by rw [beq_eq_false_iff_ne]; exact hs a List.mem_cons_self
    have := ih (fun x hx => hs x (List.mem_cons_of_mem _ hx)) (cur ++ [a])
    simp only [List.append_assoc, List.cons_append, List.nil_append] at this ⊢
    rw [splitGo, ha, if_neg (by simp), this]
theorem prRules_app (l : List Rul) : ∀ out, prRules out l = out ++ (l.flatMap fun r => lineOf r ++ [10]) := by
  induction l with
  | nil => intro out; simp [prRules]
  | cons r t ih =>
    intro out
    rw [prRules, ih, List.flatMap_cons]
    unfold lineOf
    rw [prBody_app, prBody_app _ (prAtom r.head)]
    simp
theorem line_some {r : Rul} (h : ruleS r = true) : ((trimS (lineOf r)).isEmpty || (trimS (lineOf r)).headD 0 == 37) = false := by
  unfold ruleS at h
  rw [Bool.and_eq_true, Bool.and_eq_true, Bool.and_eq_true] at h
  have ha := h.1.1.1
  unfold atomS at ha
  rw [Bool.and_eq_true, Bool.and_eq_true] at ha
  have hp := ha.1.1
  have hx : ∃ c t, lineOf r = c :: t ∧ lowB c = true := by
    unfold lineOf
    rw [prBody_app]
    unfold predS at hp
    rw [Bool.and_eq_true] at hp
    have hn : ∃ t, prAtom r.head = r.head.name ++ t := by
      unfold prAtom
      split
      · exact ⟨[], by simp⟩
      · exact ⟨[40] ++ joinS (r.head.args.map prArg) ++ [41], by simp⟩
    obtain ⟨t, ht⟩ := hn
    rw [ht]
    cases hs : r.head.name with
    | nil => rw [hs] at hp; exact absurd rfl (eachS_ne hp.2)
    | cons c u =>
      rw [hs] at hp
      exact ⟨c, _, rfl, (eachS_cons hp.2).1⟩
  obtain ⟨c, t, hc, hl⟩ := hx
  have h32 : (c == 32) = false := by rw [beq_eq_false_iff_ne]; rintro rfl; exact absurd hl (by decide)
  have h37 : (c == 37) = false := by rw [beq_eq_false_iff_ne]; rintro rfl; exact absurd hl (by decide)
  rw [hc, trim_else h32]
  simpa using h37
theorem go_read (l : List Rul) (hl : ∀ r ∈ l, ruleS r = true) : ∀ (i : Nat) (out : List Rul), out.length + l.length ≤ 64 → parseGo (splitGo [] (l.flatMap fun r => lineOf r ++ [10])) i out = (out ++ l, 0, 0) := by
  induction l with
  | nil => intro i out _; simp [splitGo, parseGo, trimS]
  | cons r t ih =>
    intro i out hlen
    have hr := hl r List.mem_cons_self
    simp only [List.length_cons] at hlen
    rw [List.flatMap_cons, split_line _ _ (line_nl hr), List.nil_append, parseGo, line_some hr]
    simp only [Bool.false_eq_true, if_false]
    rw [(line_spell hr).tokens]
    simp only
    rw [rule_read hr]
    simp only [Bool.not_true, Bool.or_self, Bool.false_eq_true, if_false]
    rw [if_neg (by omega), ih (fun x hx => hl x (List.mem_cons_of_mem _ hx)) _ _ (by simp; omega)]
    simp
theorem trip (l : List Rul) (h : (printS l).2 = 0) (hlen : (printS l).1.length ≤ 65536) : parseS (printS l).1 = (l, 0, 0) := by
  unfold printS at h hlen ⊢
  by_cases hc : (64 < l.length || !l.all ruleS) = true
  · rw [if_pos hc] at h; cases h
  · rw [if_neg hc] at hlen ⊢
    rw [Bool.not_eq_true, Bool.or_eq_false_iff, decide_eq_false_iff_not, Bool.not_eq_false', List.all_eq_true] at hc
    rw [prRules_app, List.nil_append] at hlen ⊢
    unfold parseS splitS
    simp only at hlen ⊢
    rw [if_neg (by omega), go_read l hc.2 0 [] (by simp; omega)]
    rfl
theorem trip_atom (a : Atm) (h : (printAtomS a).2 = 0) (hlen : (printAtomS a).1.length ≤ 4096) : parseAtomS (printAtomS a).1 = (a, 0) := by
  unfold printAtomS at h hlen ⊢
  cases ha : atomS a
  · rw [ha] at h; cases h
  · rw [ha] at hlen
    simp only [Bool.not_true, Bool.false_eq_true, if_false] at hlen ⊢
    have hs := atom_spell ha Sp.nil (.inl rfl)
    rw [List.append_nil, List.append_nil] at hs
    have hr := atom_read ha [] (by decide)
    rw [List.append_nil] at hr
    unfold parseAtomS
    rw [hs.tokens]
    simp only
    rw [hr]
    have : ¬ (4096 < (prAtom a).length) := by omega
    simp [this]
end Go.Proofs.YtjopmgoacncmgaaGreatDoor
