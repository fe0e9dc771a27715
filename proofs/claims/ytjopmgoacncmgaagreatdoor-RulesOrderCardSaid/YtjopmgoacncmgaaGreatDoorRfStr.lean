/- Rules: Check, Strata and safe of both sides agree; strata are layers. Plain law. -/
import Derived.Test.YtjopmgoacncmgaaGreatDoorRfLev
set_option linter.unusedVariables false
set_option linter.unusedSimpArgs false
namespace Go.Proofs.YtjopmgoacncmgaaGreatDoor

/- Safe. -/
def rsafeGo (bound asked : List Bs) : List Ltl → List Bs × List Bs
  | [] => (bound, asked)
  | x :: t => if posS x then rsafeGo (addV bound x.atom.args) asked t else rsafeGo bound (addV asked x.atom.args) t
def rsafeS (r : Rul) : Bool := let p := rsafeGo [] (addV [] r.head.args) r.body; p.2.all fun s => p.1.contains s
def hasV (l : List Arg) (s : Bs) : Prop := ∃ a ∈ l, a.kind = 1 ∧ a.text = s
theorem mem_addV (l : List Arg) (s : Bs) : ∀ out, s ∈ addV out l ↔ s ∈ out ∨ hasV l s := by
  induction l with
  | nil => intro out; simp [addV, hasV]
  | cons a r ih =>
    intro out
    rw [addV, ih]
    have e : hasV (a :: r) s ↔ (a.kind = 1 ∧ a.text = s) ∨ hasV r s := by
      unfold hasV
      constructor
      · rintro ⟨b, hb, h⟩
        rcases List.mem_cons.1 hb with rfl | hb
        · exact .inl h
        · exact .inr ⟨b, hb, h⟩
      · rintro (h | ⟨b, hb, h⟩)
        · exact ⟨a, List.mem_cons_self, h⟩
        · exact ⟨b, List.mem_cons_of_mem _ hb, h⟩
    rw [e]
    split
    · rename_i h
      rw [List.mem_append, List.mem_singleton]
      constructor
      · rintro ((h1 | h1) | h1)
        · exact .inl h1
        · exact .inr (.inl ⟨h.1, h1.symm⟩)
        · exact .inr (.inr h1)
      · rintro (h1 | h1 | h1)
        · exact .inl (.inl h1)
        · exact .inl (.inr h1.2.symm)
        · exact .inr h1
    · rename_i h
      constructor
      · rintro (h1 | h1)
        · exact .inl h1
        · exact .inr (.inr h1)
      · rintro (h1 | h1 | h1)
        · exact .inl h1
        · have : out.contains a.text = true := by
            cases hc : out.contains a.text
            · exact absurd ⟨h1.1, hc⟩ h
            · rfl
          exact .inl (by rw [← h1.2]; exact List.contains_iff_mem.1 this)
        · exact .inr h1
theorem mem_addB (l : List Ltl) (s : Bs) : ∀ out, s ∈ addB out l ↔ s ∈ out ∨ ∃ x ∈ l, hasV x.atom.args s := by
  induction l with
  | nil => intro out; simp [addB]
  | cons a r ih =>
    intro out
    rw [addB, ih, mem_addV]
    constructor
    · rintro ((h | h) | ⟨x, hx, h⟩)
      · exact .inl h
      · exact .inr ⟨a, List.mem_cons_self, h⟩
      · exact .inr ⟨x, List.mem_cons_of_mem _ hx, h⟩
    · rintro (h | ⟨x, hx, h⟩)
      · exact .inl (.inl h)
      · rcases List.mem_cons.1 hx with rfl | hx
        · exact .inl (.inr h)
        · exact .inr ⟨x, hx, h⟩
theorem mem_rsafe (l : List Ltl) (s : Bs) : ∀ b a, (s ∈ (rsafeGo b a l).1 ↔ s ∈ b ∨ ∃ x ∈ l, posS x = true ∧ hasV x.atom.args s) ∧ (s ∈ (rsafeGo b a l).2 ↔ s ∈ a ∨ ∃ x ∈ l, posS x = false ∧ hasV x.atom.args s) := by
  induction l with
  | nil => intro b a; simp [rsafeGo]
  | cons y r ih =>
    intro b a
    rw [rsafeGo]
    cases hy : posS y
    · rw [if_neg (by simp)]
      rw [(ih _ _).1, (ih _ _).2, mem_addV]
      constructor
      · constructor
        · rintro (h | ⟨x, hx, h⟩)
          · exact .inl h
          · exact .inr ⟨x, List.mem_cons_of_mem _ hx, h⟩
        · rintro (h | ⟨x, hx, h⟩)
          · exact .inl h
          · rcases List.mem_cons.1 hx with rfl | hx
            · rw [hy] at h; cases h.1
            · exact .inr ⟨x, hx, h⟩
      · constructor
        · rintro ((h | h) | ⟨x, hx, h⟩)
          · exact .inl h
          · exact .inr ⟨y, List.mem_cons_self, hy, h⟩
          · exact .inr ⟨x, List.mem_cons_of_mem _ hx, h⟩
        · rintro (h | ⟨x, hx, h⟩)
          · exact .inl (.inl h)
          · rcases List.mem_cons.1 hx with rfl | hx
            · exact .inl (.inr h.2)
            · exact .inr ⟨x, hx, h⟩
    · rw [if_pos rfl]
      rw [(ih _ _).1, (ih _ _).2, mem_addV]
      constructor
      · constructor
        · rintro ((h | h) | ⟨x, hx, h⟩)
          · exact .inl h
          · exact .inr ⟨y, List.mem_cons_self, hy, h⟩
          · exact .inr ⟨x, List.mem_cons_of_mem _ hx, h⟩
        · rintro (h | ⟨x, hx, h⟩)
          · exact .inl (.inl h)
          · rcases List.mem_cons.1 hx with rfl | hx
            · exact .inl (.inr h.2)
            · exact .inr ⟨x, hx, h⟩
      · constructor
        · rintro (h | ⟨x, hx, h⟩)
          · exact .inl h
          · exact .inr ⟨x, List.mem_cons_of_mem _ hx, h⟩
        · rintro (h | ⟨x, hx, h⟩)
          · exact .inl h
          · rcases List.mem_cons.1 hx with rfl | hx
            · rw [hy] at h; cases h.1
            · exact .inr ⟨x, hx, h⟩
theorem safe_eq (r : Rul) : rsafeS r = safeS r := by
  have hb : ∀ s, s ∈ (rsafeGo [] (addV [] r.head.args) r.body).1 ↔ s ∈ boundS r := by
    intro s
    rw [(mem_rsafe r.body s _ _).1]
    unfold boundS
    rw [mem_addB]
    constructor
    · rintro (h | ⟨x, hx, h⟩)
      · exact .inl h
      · exact .inr ⟨x, List.mem_filter.2 ⟨hx, h.1⟩, h.2⟩
    · rintro (h | ⟨x, hx, h⟩)
      · exact .inl h
      · exact .inr ⟨x, (List.mem_filter.1 hx).1, (List.mem_filter.1 hx).2, h⟩
  unfold rsafeS safeS
  rw [Bool.eq_iff_iff, List.all_eq_true, List.all_eq_true]
  constructor
  · intro h s hs
    rw [List.contains_iff_mem, ← hb]
    have : s ∈ (rsafeGo [] (addV [] r.head.args) r.body).2 ∨ s ∈ (rsafeGo [] (addV [] r.head.args) r.body).1 := by
      unfold varsS at hs
      rw [mem_addB] at hs
      rw [(mem_rsafe r.body s _ _).2, (mem_rsafe r.body s _ _).1]
      rcases hs with hs | ⟨x, hx, hs⟩
      · exact .inl (.inl hs)
      · cases hp : posS x
        · exact .inl (.inr ⟨x, hx, hp, hs⟩)
        · exact .inr (.inr ⟨x, hx, hp, hs⟩)
    rcases this with h1 | h1
    · exact List.contains_iff_mem.1 (h s h1)
    · exact h1
  · intro h s hs
    rw [List.contains_iff_mem, hb, ← List.contains_iff_mem]
    refine h s ?_
    unfold varsS
    rw [mem_addB]
    rw [(mem_rsafe r.body s _ _).2] at hs
    rcases hs with hs | ⟨x, hx, _, hs⟩
    · exact .inl hs
    · exact .inr ⟨x, hx, hs⟩

/- Arities. -/
def Inv (m : KMap) (seen : List Atm) : Prop := (∀ b ∈ seen, getK m b.name = some (b.args.length : Int)) ∧ ∀ s v, getK m s = some v → ∃ b ∈ seen, b.name = s
theorem Inv.bad {m : KMap} {seen : List Atm} (h : Inv m seen) (a : Atm) : seenBad seen a = (match getK m a.name with | some n => decide (n ≠ a.args.length) | none => false) := by
  unfold seenBad
  cases hg : getK m a.name with
  | none =>
    simp only [List.any_eq_false, Bool.and_eq_true, beq_iff_eq]
    rintro b hb ⟨h1, _⟩
    have := h.1 b hb
    rw [h1, hg] at this
    cases this
  | some n =>
    obtain ⟨b, hb, h1⟩ := h.2 _ _ hg
    have hbn := h.1 b hb
    rw [h1, hg] at hbn
    injection hbn with hbn
    rw [Bool.eq_iff_iff, List.any_eq_true]
    simp only [Bool.and_eq_true, beq_iff_eq, bne_iff_ne, decide_eq_true_eq]
    constructor
    · rintro ⟨c, hc, h2, h3⟩
      have := h.1 c hc
      rw [h2, hg] at this
      injection this with this
      omega
    · intro h3
      exact ⟨b, hb, h1, by omega⟩
theorem Inv.add {m : KMap} {seen : List Atm} (h : Inv m seen) (a : Atm) (hb : seenBad seen a = false) : Inv (setK m a.name a.args.length) (seen ++ [a]) := by
  constructor
  · intro b hm
    rw [getK_set]
    split
    · rename_i e
      rcases List.mem_append.1 hm with h1 | h1
      · unfold seenBad at hb
        rw [List.any_eq_false] at hb
        have := hb b h1
        simp only [Bool.and_eq_true, beq_iff_eq, bne_iff_ne, not_and, Classical.not_not] at this
        rw [this e.symm]
      · rw [List.mem_singleton.1 h1]
    · rename_i e
      rcases List.mem_append.1 hm with h1 | h1
      · exact h.1 b h1
      · exact absurd (by rw [List.mem_singleton.1 h1]) e
  · intro s v hs
    rw [getK_set] at hs
    split at hs
    · rename_i e
      exact ⟨a, by simp, e⟩
    · obtain ⟨b, hb, h1⟩ := h.2 s v hs
      exact ⟨b, List.mem_append_left _ hb, h1⟩
theorem ar_atoms (aa : List Atm) : ∀ (m : KMap) (seen : List Atm), Inv m seen → (arGo m aa = none ∧ rarA seen aa = none) ∨ ∃ m' s', arGo m aa = some m' ∧ rarA seen aa = some s' ∧ Inv m' s' := by
  induction aa with
  | nil => intro m seen h; exact .inr ⟨m, seen, rfl, rfl, h⟩
  | cons a r ih =>
    intro m seen h
    have hb := h.bad a
    rw [arGo, rarA]
    cases hc : seenBad seen a
    · have h2 := ih _ _ (h.add a hc)
      rw [hc] at hb
      rw [if_neg (by simp)]
      cases hg : getK m a.name with
      | none => exact h2
      | some n =>
        rw [hg] at hb
        have hb := hb.symm
        rw [decide_eq_false_iff_not] at hb
        simp only
        rw [if_neg hb]
        exact h2
    · rw [hc] at hb
      rw [if_pos rfl]
      cases hg : getK m a.name with
      | none => rw [hg] at hb; cases hb
      | some n =>
        rw [hg] at hb
        have hb := hb.symm
        rw [decide_eq_true_eq] at hb
        simp only
        rw [if_pos hb]
        left; simp
theorem ar_rules (l : List Rul) : ∀ (m : KMap) (seen : List Atm) (i : Int), Inv m seen → arRules m l i = rarR seen l i := by
  induction l with
  | nil => intro m seen i _; rfl
  | cons r t ih =>
    intro m seen i h
    rw [arRules, rarR]
    rcases ar_atoms (atomsS r) m seen h with ⟨h1, h2⟩ | ⟨m', s', h1, h2, h3⟩
    · rw [h1, h2]
    · rw [h1, h2]; exact ih m' s' _ h3
theorem check_eq (l : List Rul) : checkS53 l = rcheckS l := by
  have ha : arRules [] l 0 = rarR [] l 0 := ar_rules l [] [] 0 ⟨(fun b hb => nomatch hb), fun s v h => by simp [getK] at h⟩
  unfold checkS53 rcheckS check0S
  simp only
  by_cases h64 : 64 < l.length
  · rw [if_pos h64, if_pos h64]; rfl
  · rw [if_neg h64, if_neg h64]
    cases hf : firstBad l 0 with
    | some e =>
      have : e.2 ≠ 0 := by
        clear ha h64
        have key : ∀ (l : List Rul) i e, firstBad l i = some e → e.2 ≠ 0 := by
          intro l
          induction l with
          | nil => intro i e h; cases h
          | cons r t ih =>
            intro i e h
            rw [firstBad] at h
            split at h
            · injection h with h; subst h; simp
            · split at h
              · injection h with h; subst h; simp
              · exact ih _ _ h
        exact key l 0 e hf
      simp only [this, ne_eq, not_false_eq_true, if_true]
    | none =>
      simp only
      rw [← ha]
      cases arRules [] l 0 with
      | some i => rfl
      | none =>
        simp only [ne_eq, not_true_eq_false, if_false]
        rcases levels_sim l with ⟨h1, h2⟩ | ⟨m, lv, h1, h2, _⟩
        · rw [h1, h2]
        · rw [h1, h2]

/- Strata. -/
def Lv (m : KMap) (s : Bs) : Nat := (getV m s).toNat
structure SG (m : KMap) (P : List Bs) (out : List (List Bs)) : Prop where
  lt : ∀ s ∈ P, Lv m s < out.length
  row : ∀ n, out.getD n [] = P.filter fun s => Lv m s == n
  top : out.length = 0 ∨ ∃ s ∈ P, Lv m s + 1 = out.length
theorem SG.step {m : KMap} {P : List Bs} {out : List (List Bs)} (h : SG m P out) (s : Bs) :
    SG m (P ++ [s]) ((out ++ List.replicate (Lv m s + 1 - out.length) []).set (Lv m s) ((out ++ List.replicate (Lv m s + 1 - out.length) []).getD (Lv m s) [] ++ [s])) := by
  have hl : (out ++ List.replicate (Lv m s + 1 - out.length) []).length = max out.length (Lv m s + 1) := by
    rw [List.length_append, List.length_replicate]; omega
  have hrow : ∀ n, (out ++ List.replicate (Lv m s + 1 - out.length) []).getD n [] = out.getD n [] := by
    intro n
    rw [List.getD_eq_getElem?_getD, List.getD_eq_getElem?_getD]
    by_cases hn : n < out.length
    · rw [List.getElem?_append_left hn]
    · rw [List.getElem?_append_right (by omega), List.getElem?_replicate, List.getElem?_eq_none (l := out) (by omega)]
      split <;> rfl
  refine ⟨fun t ht => ?_, fun n => ?_, .inr ?_⟩
  · rw [List.length_set, hl]
    rcases List.mem_append.1 ht with h1 | h1
    · have := h.lt t h1; omega
    · rw [List.mem_singleton.1 h1]; omega
  · rw [List.filter_append]
    by_cases hn : Lv m s = n
    · subst hn
      rw [List.getD_eq_getElem?_getD, List.getElem?_set_self (by rw [hl]; omega), Option.getD_some, hrow, h.row]
      simp
    · have e : [s].filter (fun t => Lv m t == n) = [] := by simp [hn]
      rw [e, List.append_nil, List.getD_eq_getElem?_getD, List.getElem?_set_ne hn, ← List.getD_eq_getElem?_getD, hrow, h.row]
  · rw [List.length_set, hl]
    by_cases hb : Lv m s + 1 ≤ out.length
    · rcases h.top with h1 | ⟨t, ht, h1⟩
      · omega
      · exact ⟨t, List.mem_append_left _ ht, by omega⟩
    · exact ⟨s, by simp, by omega⟩
theorem strGo_law (m : KMap) (ss : List Bs) : ∀ (P : List Bs) (out : List (List Bs)), SG m P out → SG m (P ++ ss) (strGo m out ss) := by
  induction ss with
  | nil => intro P out h; rw [List.append_nil]; exact h
  | cons s r ih =>
    intro P out h
    have := ih (P ++ [s]) _ (h.step s)
    rw [List.append_assoc] at this
    exact this
theorem oneL_law (m : KMap) (lv : List Int) (n : Nat) (rest : List Bs) : ∀ i, (∀ j (h : j < rest.length), getV m rest[j] = lv.getD (i + j) 0) → (∀ s ∈ rest, 0 ≤ getV m s) → oneL lv (n : Int) rest i = rest.filter fun s => Lv m s == n := by
  induction rest with
  | nil => intro i _ _; rfl
  | cons s r ih =>
    intro i h h0
    have hs : getV m s = lv.getD i 0 := h 0 (by simp)
    have h0s := h0 s List.mem_cons_self
    have hr := ih (i + 1) (fun j hj => by have := h (j + 1) (by simp; omega); simp at this; rw [this]; simp; congr 2; omega) (fun t ht => h0 t (List.mem_cons_of_mem _ ht))
    rw [oneL, ← hs, hr]
    unfold Lv
    by_cases hn : getV m s = (n : Int)
    · rw [if_pos hn, List.filter_cons, if_pos (by rw [hn]; simp)]
    · rw [if_neg hn, List.filter_cons, if_neg (by rw [beq_iff_eq]; omega)]
/-- The strata of rules that have levels. -/
theorem strata_rows (l : List Rul) (m : KMap) (hm : levelsS l = some m) :
    SG m (insNames [] l) (strGo m [] (sortB (m.map (·.1)))) ∧ (∀ n, n < (strGo m [] (sortB (m.map (·.1)))).length → ∃ s ∈ insNames [] l, Lv m s = n) := by
  have hl := levels_law l m hm
  have hk : sortB (m.map (·.1)) = insNames [] l := by rw [names_eq, ← hl.1]; rfl
  have hmem : ∀ s, s ∈ keysK m ↔ s ∈ insNames [] l := fun s => by rw [← hk, mem_sortB]; rfl
  have h0 : SG m [] ([] : List (List Bs)) := ⟨(fun s hs => nomatch hs), fun n => rfl, .inl rfl⟩
  have h1 := strGo_law m (insNames [] l) [] [] h0
  rw [List.nil_append] at h1
  rw [hk]
  refine ⟨h1, fun n hn => ?_⟩
  rcases h1.top with h2 | ⟨t, ht, h2⟩
  · omega
  · have key : ∀ k, k ≤ Lv m t → ∃ s ∈ keysK m, getV m s = ((Lv m t - k : Nat) : Int) := by
      intro k
      induction k with
      | zero => intro _; exact ⟨t, (hmem t).2 ht, by have := (hl.2.1 t).1; unfold Lv; omega⟩
      | succ k ih =>
        intro hk
        obtain ⟨s, hs, h3⟩ := ih (by omega)
        obtain ⟨u, hu, h4⟩ := hl.2.2.2 ((Lv m t - k : Nat) : Int) (by omega) ⟨s, hs, h3⟩
        exact ⟨u, hu, by rw [h4]; omega⟩
    obtain ⟨s, hs, h3⟩ := key (Lv m t - n) (by omega)
    refine ⟨s, (hmem s).1 hs, ?_⟩
    unfold Lv at h3 h2 ⊢
    rw [h3]
    omega
theorem out_eq (m : KMap) (lv : List Int) (names : List Bs) (R : List (List Bs)) (hR : SG m names R) (hne : ∀ n, n < R.length → ∃ s ∈ names, Lv m s = n)
    (hv : ∀ j (h : j < names.length), getV m names[j] = lv.getD j 0) (h0 : ∀ s ∈ names, 0 ≤ getV m s) : ∀ f n, R.length ≤ n + f → outL names lv f n = R.drop n := by
  intro f
  induction f with
  | zero => intro n h; rw [List.drop_of_length_le (by omega)]; rfl
  | succ f ih =>
    intro n h
    have ho : oneL lv (n : Int) names 0 = R.getD n [] := by rw [hR.row, oneL_law m lv n names 0 (fun j hj => by rw [hv j hj]; simp) h0]
    rw [outL, ho, ih (n + 1) (by omega)]
    by_cases hn : n < R.length
    · have e : R.getD n [] = R[n] := by rw [List.getD_eq_getElem?_getD, List.getElem?_eq_getElem hn]; rfl
      obtain ⟨s, hs, h1⟩ := hne n hn
      have h2 : s ∈ R.getD n [] := by rw [hR.row]; exact List.mem_filter.2 ⟨hs, by rw [h1]; simp⟩
      have h3 : (R.getD n []).isEmpty = false := by cases hx : R.getD n [] with | nil => rw [hx] at h2; cases h2 | cons a b => rfl
      rw [h3, if_neg (by simp), e, ← List.drop_eq_getElem_cons hn]
    · have e : R.getD n [] = [] := by rw [List.getD_eq_getElem?_getD, List.getElem?_eq_none (by omega)]; rfl
      rw [e, List.drop_of_length_le (by omega), List.drop_of_length_le (by omega)]
      rfl
theorem strata_some (l : List Rul) (m : KMap) (hm : levelsS l = some m) : rstrata l = some (strGo m [] (sortB (m.map (·.1)))) := by
  rcases levels_sim l with ⟨h1, h2⟩ | ⟨m', lv, h1, h2, h3⟩
  · rw [h1] at hm; cases hm
  · rw [h1] at hm
    injection hm with hm
    subst hm
    have hr := strata_rows l m' h1
    have hl := levels_law l m' h1
    rw [h2]
    congr 1
    have hlen : (strGo m' [] (sortB (m'.map (·.1)))).length ≤ (insNames [] l).length + 1 := by
      rcases hr.1.top with h4 | ⟨s, _, h4⟩
      · omega
      · have := (hl.2.1 s).2
        rw [h3.len] at this
        unfold Lv at h4
        omega
    rw [out_eq m' lv (insNames [] l) _ hr.1 hr.2 h3.val (fun s _ => (hl.2.1 s).1) _ 0 (by omega)]
    rfl
theorem strata_eq (l : List Rul) : strataS l = rstrataS l := by
  unfold strataS rstrataS
  rw [check_eq]
  simp only
  split
  · rfl
  · rcases levels_sim l with ⟨h1, h2⟩ | ⟨m, lv, h1, h2, _⟩
    · rw [h1, h2]
    · rw [h1, strata_some l m h1]

/- The stratum of a predicate, as the statement counts it. -/
def lvlOne (name : Bs) (i : Int) : List Bs → Int × Int → Int × Int
  | [], p => p
  | s :: r, p => lvlOne name i r (if s == name then (i, p.2 + 1) else p)
def lvlGo (name : Bs) : List (List Bs) → Int → Int × Int → Int × Int
  | [], _, p => p
  | l :: r, i, p => lvlGo name r (i + 1) (lvlOne name i l p)
def levelOf (strata : List (List Bs)) (name : Bs) : Int := let p := lvlGo name strata 0 (-1, 0); if p.2 ≠ 1 then -1 else p.1
theorem lvlOne_no (name : Bs) (i : Int) (l : List Bs) : ∀ p, name ∉ l → lvlOne name i l p = p := by
  induction l with
  | nil => intro p _; rfl
  | cons s r ih =>
    intro p h
    rw [List.mem_cons, not_or] at h
    rw [lvlOne, if_neg (by rw [beq_iff_eq]; exact fun e => h.1 e.symm), ih p h.2]
theorem lvlOne_yes (name : Bs) (i : Int) (l : List Bs) : ∀ p, l.Nodup → name ∈ l → lvlOne name i l p = (i, p.2 + 1) := by
  induction l with
  | nil => intro p _ h; cases h
  | cons s r ih =>
    intro p hn h
    have hn' := List.nodup_cons.1 hn
    rw [lvlOne]
    by_cases hs : (s == name) = true
    · rw [if_pos hs]
      rw [beq_iff_eq] at hs
      rw [lvlOne_no name i r _ (by rw [← hs]; exact hn'.1)]
    · rw [if_neg hs]
      rw [beq_iff_eq] at hs
      exact ih p hn'.2 ((List.mem_cons.1 h).resolve_left (fun e => hs e.symm))
theorem lvlGo_law (m : KMap) (names : List Bs) (R : List (List Bs)) (hR : SG m names R) (hn : names.Nodup) (name : Bs) (hm : name ∈ names) : ∀ k n p, R.length = n + k →
    lvlGo name (R.drop n) (n : Int) p = if n ≤ Lv m name then ((Lv m name : Int), p.2 + 1) else p := by
  intro k
  induction k with
  | zero =>
    intro n p h
    have := hR.lt name hm
    rw [List.drop_of_length_le (by omega), if_neg (by omega)]
    rfl
  | succ k ih =>
    intro n p h
    have hlt : n < R.length := by omega
    have e : R[n] = names.filter fun s => Lv m s == n := by
      rw [← hR.row, List.getD_eq_getElem?_getD, List.getElem?_eq_getElem hlt]; rfl
    rw [List.drop_eq_getElem_cons hlt, lvlGo, e]
    have hi := ih (n + 1)
    rw [show ((n : Int) + 1) = ((n + 1 : Nat) : Int) from rfl, hi _ (by omega)]
    by_cases hx : Lv m name = n
    · have hmem : name ∈ names.filter fun s => Lv m s == n := List.mem_filter.2 ⟨hm, by rw [hx]; simp⟩
      rw [lvlOne_yes name n _ p (hn.filter _) hmem, if_neg (by omega), if_pos (by omega), hx]
    · have hmem : name ∉ names.filter fun s => Lv m s == n := fun h => hx (by simpa using (List.mem_filter.1 h).2)
      rw [lvlOne_no name n _ p hmem]
      by_cases h3 : n ≤ Lv m name
      · rw [if_pos h3, if_pos (by omega)]
      · rw [if_neg h3, if_neg (by omega)]
theorem levelOf_law (m : KMap) (names : List Bs) (R : List (List Bs)) (hR : SG m names R) (hn : names.Nodup) (name : Bs) (hm : name ∈ names) : levelOf R name = (Lv m name : Int) := by
  have := lvlGo_law m names R hR hn name hm R.length 0 (-1, 0) (by omega)
  rw [List.drop_zero, if_pos (by omega)] at this
  unfold levelOf
  have this : lvlGo name R 0 (-1, 0) = ((Lv m name : Int), (0 : Int) + 1) := this
  rw [this]
  simp
/-- The layers of rules. -/
def layX (R : List (List Bs)) (h : Int) (x : Ltl) : Bool :=
  if compsS x then true else
    let b := levelOf R x.atom.name
    !(decide (b < 0) || decide (h < b) || (x.neg && h == b))
def layR (R : List (List Bs)) (r : Rul) : Bool := let h := levelOf R r.head.name; if h < 0 then false else r.body.all (layX R h)
def layS (R : List (List Bs)) (l : List Rul) : Bool := (R.all fun s => !s.isEmpty) && l.all (layR R)
theorem layered (l : List Rul) (h : (strataS l).2.2 = 0) : (∀ s ∈ (strataS l).1, s.isEmpty = false ∧ SortB s) ∧ l.all (layR (strataS l).1) = true := by
  unfold strataS at h ⊢
  simp only at h ⊢
  split at h
  · rename_i hc; exact absurd h hc
  · rename_i hc
    rw [if_neg hc]
    cases hm : levelsS l with
    | none =>
      exfalso
      apply hc
      unfold checkS53
      simp only
      rw [hm]
      split
      · assumption
      · decide
    | some m =>
      simp only
      have hr := strata_rows l m hm
      have hl := levels_law l m hm
      have hs1 := (insNames_mem l [] (by simp [SortB])).1
      have hkn := known_all l
      generalize strGo m [] (sortB (m.map (·.1))) = R at *
      constructor
      · intro s hs
        obtain ⟨n, hn, rfl⟩ := List.mem_iff_getElem.1 hs
        have e : R[n] = (insNames [] l).filter fun s => Lv m s == n := by
          rw [← hr.1.row, List.getD_eq_getElem?_getD, List.getElem?_eq_getElem hn]; rfl
        rw [e]
        obtain ⟨t, ht, h1⟩ := hr.2 n hn
        have h2 : t ∈ (insNames [] l).filter fun s => Lv m s == n := List.mem_filter.2 ⟨ht, by rw [h1]; simp⟩
        refine ⟨by cases hx : (insNames [] l).filter fun s => Lv m s == n with | nil => rw [hx] at h2; cases h2 | cons a b => rfl, hs1.filter _⟩
      · rw [List.all_eq_true]
        intro r hrl
        have hk := hkn r hrl
        have hlo : ∀ s ∈ insNames [] l, levelOf R s = getV m s := by
          intro s hs
          rw [levelOf_law m _ R hr.1 (sort_nodup hs1) s hs]
          have := (hl.2.1 s).1
          unfold Lv
          omega
        unfold layR
        simp only
        rw [hlo _ hk.1]
        have h0 := (hl.2.1 r.head.name).1
        rw [if_neg (by omega), List.all_eq_true]
        intro x hx
        unfold layX
        split
        · rfl
        · rename_i hcx
          rw [Bool.not_eq_true] at hcx
          simp only
          rw [hlo _ (hk.2 x hx hcx)]
          have h1 := hl.2.2.1 r hrl x hx hcx
          have h2 := (hl.2.1 x.atom.name).1
          generalize getV m x.atom.name = b at *
          generalize getV m r.head.name = g at *
          cases hng : x.neg
          · rw [hng] at h1
            simp at h1 ⊢
            omega
          · rw [hng] at h1
            simp at h1 ⊢
            omega
theorem strata_none (l : List Rul) (h : (strataS l).2.2 ≠ 0) : (strataS l).1 = [] := by
  unfold strataS at h ⊢
  simp only at h ⊢
  split
  · rfl
  · rename_i hc
    rw [if_neg hc] at h
    cases hm : levelsS l with
    | none => rfl
    | some m => rw [hm] at h; exact absurd rfl h
end Go.Proofs.YtjopmgoacncmgaaGreatDoor
