/- Query (package licitlaw54): a part of the proofs of its laws; see the law's own text, which comes last in 'order'. No conditions of its own. -/
import Derived.Test.YtkjoaodoioicpaaGreatDoorWA11
set_option linter.unusedVariables false
set_option linter.unusedSimpArgs false
namespace Go.Proofs.YtkjoaodoioicpaaGreatDoor
def Cons (L : List Atm) : Prop := ∀ a ∈ L, ∀ b ∈ L, a.name = b.name → a.args.length = b.args.length
theorem seenBad_false {seen : List Atm} {a : Atm} : seenBad seen a = false ↔ ∀ b ∈ seen, b.name = a.name → b.args.length = a.args.length := by
  unfold seenBad
  rw [List.any_eq_false]
  constructor
  · intro h b hb hn
    have := h b hb
    simp only [Bool.and_eq_true, beq_iff_eq, bne_iff_ne, ne_eq, not_and, Classical.not_not] at this
    exact this hn
  · intro h b hb
    simp only [Bool.and_eq_true, beq_iff_eq, bne_iff_ne, ne_eq, not_and, Classical.not_not]
    exact h b hb
theorem cons_snoc {seen : List Atm} (hs : Cons seen) {a : Atm} : Cons (seen ++ [a]) ↔ seenBad seen a = false := by
  rw [seenBad_false]
  constructor
  · intro h b hb hn
    exact h b (List.mem_append_left _ hb) a (by simp) hn
  · intro h x hx y hy e
    rcases List.mem_append.1 hx with hx | hx <;> rcases List.mem_append.1 hy with hy | hy
    · exact hs x hx y hy e
    · rw [List.mem_singleton.1 hy] at e ⊢; exact h x hx e
    · rw [List.mem_singleton.1 hx] at e ⊢; exact (h y hy e.symm).symm
    · rw [List.mem_singleton.1 hx, List.mem_singleton.1 hy]
theorem cons_sub {L L' : List Atm} (h : ∀ a ∈ L, a ∈ L') (hc : Cons L') : Cons L := fun a ha b hb e => hc a (h a ha) b (h b hb) e
theorem rarA_iff : ∀ (aa seen : List Atm), Cons seen → ((∃ s', rarA seen aa = some s') ↔ Cons (seen ++ aa)) ∧ ∀ s', rarA seen aa = some s' → s' = seen ++ aa := by
  intro aa
  induction aa with
  | nil => intro seen hs; simp [rarA, hs]
  | cons a r ih =>
    intro seen hs
    rw [rarA]
    by_cases hb : seenBad seen a = true
    · rw [if_pos hb]
      refine ⟨⟨fun ⟨s', h⟩ => (by cases h), fun h => ?_⟩, fun s' h => by cases h⟩
      have : Cons (seen ++ [a]) := cons_sub (fun x hx => by rcases List.mem_append.1 hx with hx | hx; exact List.mem_append_left _ hx; rw [List.mem_singleton.1 hx]; simp) h
      rw [cons_snoc hs, hb] at this
      cases this
    · rw [if_neg hb]
      have hb' : seenBad seen a = false := by simpa using hb
      have h := ih (seen ++ [a]) ((cons_snoc hs).2 hb')
      rw [List.append_assoc] at h
      exact h
def allAtoms (l : List Rul) : List Atm := l.flatMap atomsS
theorem rarR_iff : ∀ (l : List Rul) (seen : List Atm) (i : Int), Cons seen → (rarR seen l i = none ↔ Cons (seen ++ allAtoms l)) := by
  intro l
  induction l with
  | nil => intro seen i hs; simp [rarR, allAtoms, hs]
  | cons r t ih =>
    intro seen i hs
    obtain ⟨h1, h2⟩ := rarA_iff (atomsS r) seen hs
    have e : seen ++ allAtoms (r :: t) = seen ++ atomsS r ++ allAtoms t := by simp [allAtoms]
    rw [rarR, e]
    cases hA : rarA seen (atomsS r) with
    | none =>
      refine ⟨fun h => (by cases h), fun h => ?_⟩
      obtain ⟨s', hs'⟩ := h1.2 (cons_sub (fun x hx => List.mem_append_left _ hx) h)
      rw [hA] at hs'; cases hs'
    | some s' =>
      have := h2 s' hA
      subst this
      exact ih _ _ (h1.1 ⟨_, hA⟩)
theorem firstBad_iff : ∀ (l : List Rul) (i : Int), firstBad l i = none ↔ ∀ r ∈ l, ruleS r = true ∧ safeS r = true := by
  intro l
  induction l with
  | nil => intro i; simp [firstBad]
  | cons r t ih =>
    intro i
    rw [firstBad, List.forall_mem_cons]
    cases hr : ruleS r
    · simp
    · cases hs : safeS r
      · simp
      · simp [ih]
theorem checkS_ok (l : List Rul) : (checkS53 l).2 = 0 ↔ l.length ≤ 64 ∧ (∀ r ∈ l, ruleS r = true ∧ safeS r = true) ∧ Cons (allAtoms l) ∧ ∃ m, levelsS l = some m := by
  have hemp : Cons [] := fun a ha => by cases ha
  have har : arRules [] l 0 = rarR [] l 0 := ar_rules l [] [] 0 ⟨(fun b hb => nomatch hb), fun s v h => by simp [getK] at h⟩
  have hrr := rarR_iff l [] 0 hemp
  rw [List.nil_append] at hrr
  unfold checkS53 check0S
  simp only
  by_cases h64 : 64 < l.length
  · rw [if_pos h64]; simp; omega
  · rw [if_neg h64]
    cases hf : firstBad l 0 with
    | some e =>
      have hne : ¬ ∀ r ∈ l, ruleS r = true ∧ safeS r = true := fun h => by rw [(firstBad_iff l 0).2 h] at hf; cases hf
      have he : e.2 ≠ 0 := by
        have key : ∀ (l : List Rul) (i : Int) (e : Int × Int), firstBad l i = some e → e.2 ≠ 0 := by
          intro l
          induction l with
          | nil => intro i e h; cases h
          | cons r t ih =>
            intro i e h
            rw [firstBad] at h
            split at h
            · injection h with h; rw [← h]; simp
            · split at h
              · injection h with h; rw [← h]; simp
              · exact ih _ _ h
        exact key _ _ _ hf
      simp only
      rw [if_pos he]
      constructor
      · intro h; exact absurd h he
      · intro h; exact absurd h.2.1 hne
    | none =>
      have hall := (firstBad_iff l 0).1 hf
      simp only
      rw [har]
      cases hr : rarR [] l 0 with
      | some i =>
        simp only
        constructor
        · intro h; simp at h
        · intro h; rw [hrr.2 h.2.2.1] at hr; cases hr
      | none =>
        have hc := hrr.1 hr
        simp only [ne_eq, not_true_eq_false, if_false]
        cases hl : levelsS l with
        | none => simp
        | some m => simp; exact ⟨by omega, hall, hc⟩
theorem lvX_some (h : Bs) (f : Bs → Int) (body : List Ltl) (hb : ∀ x ∈ body, compsS x = false → f x.atom.name + (if x.neg then 1 else 0) ≤ f h) : ∀ (m : KMap) (c : Bool), (∀ s, getV m s ≤ f s) → h ∈ keysK m → f h ≤ m.length → ∃ p, lvX h m c body = some p := by
  induction body with
  | nil => intro m c _ _ _; exact ⟨_, rfl⟩
  | cons x t ih =>
    intro m c hm hk hf
    have ih := ih (fun x hx => hb x (List.mem_cons_of_mem _ hx))
    rw [lvX]
    by_cases hc : compsS x = true
    · rw [if_pos hc]; exact ih m c hm hk hf
    · rw [if_neg hc]
      have hx := hb x List.mem_cons_self (by simpa using hc)
      have hxm := hm x.atom.name
      have hn : getV m x.atom.name + (if x.neg then 1 else 0) ≤ f h := by omega
      simp only
      by_cases hlt : getV m h < getV m x.atom.name + (if x.neg then 1 else 0)
      · rw [if_pos hlt]
        simp only
        rw [if_neg (by rw [set_len m h _ hk]; omega)]
        refine ih _ _ ?_ ?_ ?_
        · intro s
          rw [getV_set]
          split
          · rename_i e; rw [← e]; exact hn
          · exact hm s
        · rw [keys_set, if_pos hk]; exact hk
        · rw [set_len m h _ hk]; exact hf
      · rw [if_neg hlt]
        simp only
        rw [if_neg (by omega)]
        exact ih m c hm hk hf
theorem lvR_some (f : Bs → Int) (l : List Rul) (hf : Meets l f) : ∀ (m : KMap) (c : Bool), (∀ s, getV m s ≤ f s) → (∀ r ∈ l, r.head.name ∈ keysK m ∧ f r.head.name ≤ m.length) → (keysK m).Nodup → In m m.length → ∃ p, lvR m c l = some p := by
  induction l with
  | nil => intro m c _ _ _ _; exact ⟨_, rfl⟩
  | cons r t ih =>
    intro m c hm hk hnd hin
    have ih := ih (fun r hr => hf r (List.mem_cons_of_mem _ hr))
    have hr := hk r List.mem_cons_self
    rw [lvR]
    obtain ⟨⟨m', c'⟩, hp⟩ := lvX_some r.head.name f r.body (hf r List.mem_cons_self) m c hm hr.1 hr.2
    rw [hp]
    simp only
    have h1 := lvX_in r.body m c m' c' hnd hr.1 hin hp
    have h2 := lvX_mono r.head.name f r.body (hf r List.mem_cons_self) m c m' c' hm hp
    have hlen : m'.length = m.length := by rw [len_keys, len_keys, h1.1]
    exact ih m' c' h2 (fun r' hr' => by rw [h1.1, hlen]; exact hk r' (List.mem_cons_of_mem _ hr')) (by rw [h1.1]; exact hnd) h1.2.1
theorem lvGo_some (f : Bs → Int) (l : List Rul) (hf : Meets l f) (N : Nat) : ∀ (k : Nat) (m : KMap), m.length = N → (∀ s, getV m s ≤ f s) → (∀ r ∈ l, r.head.name ∈ keysK m ∧ f r.head.name ≤ N) → (keysK m).Nodup → In m m.length → (N * N : Int) + 1 ≤ sumK m + k → ∃ m', lvGo l k m = some m' := by
  intro k
  induction k with
  | zero =>
    intro m hN _ _ _ hin hs
    have := hin.sum.2
    rw [hN] at this
    exfalso
    omega
  | succ k ih =>
    intro m hN hm hk hnd hin hs
    obtain ⟨⟨m1, c1⟩, hp⟩ := lvR_some f l hf m false hm (by rw [hN]; exact hk) hnd hin
    rw [lvGo, hp]
    simp only
    cases c1 with
    | false => exact ⟨m1, rfl⟩
    | true =>
      have h1 := lvR_in l m false m1 true hnd (fun r hr => (hk r hr).1) hin hp
      have h2 := lvR_mono f l hf m false m1 true hm hp
      have hlen : m1.length = N := by rw [len_keys, h1.1, ← len_keys, hN]
      have h3 := h1.2.2.2 rfl rfl
      simp only [if_true]
      exact ih m1 hlen h2 (fun r hr => by rw [h1.1]; exact hk r hr) (by rw [h1.1]; exact hnd) h1.2.1 (by omega)
theorem isName_congr {l l' : List Rul} (h : ∀ r, r ∈ l ↔ r ∈ l') (s : Bs) : isName l s ↔ isName l' s := by
  unfold isName
  constructor
  · rintro ⟨r, hr, x⟩; exact ⟨r, (h r).1 hr, x⟩
  · rintro ⟨r, hr, x⟩; exact ⟨r, (h r).2 hr, x⟩
theorem nodup_leB : ∀ (c b : List Bs), c.Nodup → (∀ a ∈ c, a ∈ b) → c.length ≤ b.length := by
  intro c
  induction c with
  | nil => intro b _ _; exact Nat.zero_le _
  | cons a c ih =>
    intro b hc hs
    rw [List.nodup_cons] at hc
    have hab := hs a List.mem_cons_self
    have h := ih (b.erase a) hc.2 (fun x hx => (List.mem_erase_of_ne (fun e => hc.1 (by rw [← e]; exact hx))).2 (hs x (List.mem_cons_of_mem _ hx)))
    rw [List.length_erase_of_mem hab] at h
    have := List.length_pos_of_mem hab
    simp only [List.length_cons]
    omega
theorem meets_congr {l l' : List Rul} (h : ∀ r, r ∈ l ↔ r ∈ l') {f : Bs → Int} (hf : Meets l f) : Meets l' f := fun r hr => hf r ((h r).2 hr)
theorem init_len {l l' : List Rul} (h : ∀ r, r ∈ l ↔ r ∈ l') : (initR [] l).length = (initR [] l').length := by
  have h1 := init_keys l
  have h2 := init_keys l'
  rw [len_keys, len_keys]
  refine Nat.le_antisymm (nodup_leB _ _ h1.1 fun s hs => ?_) (nodup_leB _ _ h2.1 fun s hs => ?_)
  · exact (h2.2.2 s).2 ((isName_congr h s).1 ((h1.2.2 s).1 hs))
  · exact (h1.2.2 s).2 ((isName_congr h s).2 ((h2.2.2 s).1 hs))
theorem getV_not {m : KMap} {s : Bs} (h : s ∉ keysK m) : getV m s = 0 := by
  unfold getV
  cases hg : getK m s with
  | none => rfl
  | some v => exact absurd ((getK_mem m s).1 (by rw [hg]; rfl)) h
theorem init_zero (l : List Rul) (s : Bs) : getV (initR [] l) s = 0 := by
  by_cases h : s ∈ keysK (initR [] l)
  · exact (init_keys l).2.1 s h
  · exact getV_not h
theorem levels_least {l : List Rul} {m : KMap} (h : levelsS l = some m) {f : Bs → Int} (hf : Meets l f) (h0 : ∀ s, 0 ≤ f s) : ∀ s, getV m s ≤ f s := by
  unfold levelsS at h
  exact lvGo_mono f l hf _ _ m (fun s => by rw [init_zero]; exact h0 s) h
theorem levels_congr {l l' : List Rul} (h : ∀ r, r ∈ l ↔ r ∈ l') {m : KMap} (hm : levelsS l = some m) : ∃ m', levelsS l' = some m' ∧ ∀ s, getV m' s = getV m s := by
  have h1 := levels_law l m hm
  have hM := meets_congr h h1.2.2.1
  have hlen : m.length = (initR [] l').length := by rw [len_keys, h1.1, ← len_keys, init_len h]
  have hex : ∃ m', levelsS l' = some m' := by
    unfold levelsS
    refine lvGo_some (getV m) l' hM (initR [] l').length _ _ rfl (fun s => by rw [init_zero]; exact (h1.2.1 s).1) ?_ (init_keys l').1 (init_in l') ?_
    · intro r hr
      refine ⟨heads_in l' r hr, ?_⟩
      rw [← hlen]; exact (h1.2.1 _).2
    · have hs := (init_in l').sum.1
      unfold lvFuel
      generalize (initR [] l').length = n at *
      have : ((n * (n + 1) + 2 : Nat) : Int) = (n * n : Int) + n + 2 := by
        rw [Nat.mul_add, Nat.mul_one]; push_cast; rfl
      omega
  obtain ⟨m', hm'⟩ := hex
  refine ⟨m', hm', fun s => ?_⟩
  have h2 := levels_law l' m' hm'
  have a1 := levels_least hm' hM (fun s => (h1.2.1 s).1) s
  have a2 := levels_least hm (meets_congr (fun r => (h r).symm) h2.2.2.1) (fun s => (h2.2.1 s).1) s
  omega
theorem SG.ext {m m' : KMap} {P : List Bs} {R R' : List (List Bs)} (h : SG m P R) (h' : SG m' P R') (hv : ∀ s, getV m' s = getV m s) : R = R' := by
  have hL : ∀ s, Lv m' s = Lv m s := fun s => by unfold Lv; rw [hv]
  have hle : ∀ {m m' : KMap} {R R' : List (List Bs)}, SG m P R → SG m' P R' → (∀ s, Lv m' s = Lv m s) → R.length ≤ R'.length := by
    intro m m' R R' h h' hL
    rcases h.top with h0 | ⟨s, hs, h0⟩
    · omega
    · have := h'.lt s hs
      rw [hL] at this
      omega
  have hlen : R.length = R'.length := Nat.le_antisymm (hle h h' hL) (hle h' h (fun s => (hL s).symm))
  refine List.ext_getElem hlen fun n h1 h2 => ?_
  have e1 := h.row n
  have e2 := h'.row n
  rw [List.getD_eq_getElem?_getD, List.getElem?_eq_getElem h1] at e1
  rw [List.getD_eq_getElem?_getD, List.getElem?_eq_getElem h2] at e2
  simp only [Option.getD_some] at e1 e2
  rw [e1, e2]
  congr 1
  funext s
  rw [hL]
theorem ins_congr {l l' : List Rul} (h : ∀ r, r ∈ l ↔ r ∈ l') : insNames [] l = insNames [] l' := by
  have h1 := insNames_mem l [] List.Pairwise.nil
  have h2 := insNames_mem l' [] List.Pairwise.nil
  refine sort_unique _ _ h1.1 h2.1 fun s => ?_
  rw [h1.2, h2.2, isName_congr h]
theorem checkS_congr {l l' : List Rul} (h : ∀ r, r ∈ l ↔ r ∈ l') (h64 : l'.length ≤ 64) (hc : (checkS53 l).2 = 0) : (checkS53 l').2 = 0 := by
  rw [checkS_ok] at hc ⊢
  obtain ⟨-, h2, h3, m, h4⟩ := hc
  refine ⟨h64, fun r hr => h2 r ((h r).2 hr), cons_sub (fun a ha => ?_) h3, ?_⟩
  · unfold allAtoms at ha ⊢
    rw [List.mem_flatMap] at ha ⊢
    obtain ⟨r, hr, hx⟩ := ha
    exact ⟨r, (h r).2 hr, hx⟩
  · obtain ⟨m', hm', -⟩ := levels_congr h h4
    exact ⟨m', hm'⟩
theorem strata_ok {l : List Rul} (hc : (checkS53 l).2 = 0) : ∃ m, levelsS l = some m ∧ (strataS l).1 = strGo m [] (sortB (m.map (·.1))) := by
  obtain ⟨m, hm⟩ := ((checkS_ok l).1 hc).2.2.2
  refine ⟨m, hm, ?_⟩
  unfold strataS
  simp only
  rw [if_neg (by rw [hc]; simp), hm]
theorem strata_congr {l l' : List Rul} (h : ∀ r, r ∈ l ↔ r ∈ l') (hc : (checkS53 l).2 = 0) (hc' : (checkS53 l').2 = 0) : (strataS l').1 = (strataS l).1 := by
  obtain ⟨m, hm, e⟩ := strata_ok hc
  obtain ⟨m', hm', e'⟩ := strata_ok hc'
  obtain ⟨m2, hm2, hv⟩ := levels_congr h hm
  rw [hm'] at hm2
  injection hm2 with hm2
  subst hm2
  rw [e, e']
  have h1 := (strata_rows l m hm).1
  have h2 := (strata_rows l' m' hm').1
  rw [← ins_congr h] at h2
  exact (h1.ext h2 hv).symm
end Go.Proofs.YtkjoaodoioicpaaGreatDoor
namespace Go.Proofs.YtkjoaodoioicpaaGreatDoor
abbrev SortT (l : List Atm) : Prop := l.Pairwise fun a b => ordS a b = -1
theorem ordS_tr {a b c : Atm} (h1 : ordS a b = -1) (h2 : ordS b c = -1) : ordS a c = -1 := by
  rw [ordS_key] at *
  exact ordT.tr _ _ _ h1 h2
theorem ordS_irr (a : Atm) : ordS a a = 0 := by rw [ordS_key, ordT.eq0]
theorem ordS_neg (a b : Atm) : ordS b a = - ordS a b := by rw [ordS_key, ordS_key]; exact ordT.neg _ _
theorem ordS_tot {a b : Atm} (ha : atomS a = true) (hb : atomS b = true) : ordS a b = -1 ∨ a = b ∨ ordS b a = -1 := by
  have hn := ordS_neg a b
  have hr : ordS a b = -1 ∨ ordS a b = 0 ∨ ordS a b = 1 := by rw [ordS_key]; exact ordT.rng _ _
  rcases hr with h | h | h
  · exact .inl h
  · right; left
    rw [ordS_key, ordT.eq0] at h
    exact keyT_inj ha hb h
  · right; right; omega
theorem mem_insT (a x : Atm) (l : List Atm) : x ∈ insT a l ↔ x = a ∨ x ∈ l := by
  induction l with
  | nil => simp [insT]
  | cons y r ih =>
    rw [insT]
    split
    · rw [List.mem_cons, ih, List.mem_cons]
      constructor
      · rintro (h | h | h)
        · exact .inr (.inl h)
        · exact .inl h
        · exact .inr (.inr h)
      · rintro (h | h | h)
        · exact .inr (.inl h)
        · exact .inl h
        · exact .inr (.inr h)
    · simp
theorem sort_insT (a : Atm) (l : List Atm) (ha : atomS a = true) (hl : ∀ x ∈ l, atomS x = true) (hn : a ∉ l) (h : SortT l) : SortT (insT a l) := by
  induction l with
  | nil => simp [insT]
  | cons y r ih =>
    have hp := List.pairwise_cons.1 h
    have hy := hl y List.mem_cons_self
    have hne : a ≠ y := fun e => hn (by rw [e]; exact List.mem_cons_self)
    rw [insT]
    split
    · rename_i hlt
      have hya : ordS y a = -1 := by
        have hr : ordS y a = -1 ∨ ordS y a = 0 ∨ ordS y a = 1 := by rw [ordS_key]; exact ordT.rng _ _
        omega
      refine List.pairwise_cons.2 ⟨fun x hx => ?_, ih (fun x hx => hl x (List.mem_cons_of_mem _ hx)) (fun hm => hn (List.mem_cons_of_mem _ hm)) hp.2⟩
      rcases (mem_insT a x r).1 hx with rfl | hx
      · exact hya
      · exact hp.1 x hx
    · rename_i hlt
      have hay : ordS a y = -1 := by
        rcases ordS_tot ha hy with h | h | h
        · exact h
        · exact absurd h hne
        · omega
      refine List.pairwise_cons.2 ⟨fun x hx => ?_, h⟩
      rcases List.mem_cons.1 hx with rfl | hx
      · exact hay
      · exact ordS_tr hay (hp.1 x hx)
theorem len_insT (a : Atm) (l : List Atm) : (insT a l).length = l.length + 1 := by
  induction l with
  | nil => rfl
  | cons y r ih =>
    rw [insT]
    split
    · simp [ih]
    · simp
theorem mem_sortT (l : List Atm) (x : Atm) : x ∈ sortT l ↔ x ∈ l := by
  induction l with
  | nil => simp [sortT]
  | cons a r ih =>
    have : sortT (a :: r) = insT a (sortT r) := rfl
    rw [this, mem_insT, ih, List.mem_cons]
theorem len_sortT (l : List Atm) : (sortT l).length = l.length := by
  induction l with
  | nil => rfl
  | cons a r ih =>
    have : sortT (a :: r) = insT a (sortT r) := rfl
    rw [this, len_insT, ih, List.length_cons]
theorem sort_sortT {l : List Atm} (hl : ∀ x ∈ l, atomS x = true) (hn : l.Nodup) : SortT (sortT l) := by
  induction l with
  | nil => exact List.Pairwise.nil
  | cons a r ih =>
    have : sortT (a :: r) = insT a (sortT r) := rfl
    rw [this]
    rw [List.nodup_cons] at hn
    exact sort_insT a _ (hl a List.mem_cons_self) (fun x hx => hl x (List.mem_cons_of_mem _ ((mem_sortT r x).1 hx))) (fun hm => hn.1 ((mem_sortT r a).1 hm)) (ih (fun x hx => hl x (List.mem_cons_of_mem _ hx)) hn.2)
theorem sortT_unique (l : List Atm) : ∀ t, SortT l → SortT t → (∀ s, s ∈ l ↔ s ∈ t) → l = t := by
  induction l with
  | nil =>
    intro t _ _ h
    cases t with
    | nil => rfl
    | cons b u => exact absurd ((h b).2 List.mem_cons_self) (by simp)
  | cons a r ih =>
    intro t h1 h2 h
    cases t with
    | nil => exact absurd ((h a).1 List.mem_cons_self) (by simp)
    | cons b u =>
      have p1 := List.pairwise_cons.1 h1
      have p2 := List.pairwise_cons.1 h2
      have irr : ∀ x, ordS x x = -1 → False := fun x hx => by rw [ordS_irr] at hx; omega
      have hab : a = b := by
        rcases List.mem_cons.1 ((h a).1 List.mem_cons_self) with e | e
        · exact e
        · rcases List.mem_cons.1 ((h b).2 List.mem_cons_self) with e' | e'
          · exact e'.symm
          · exact absurd (ordS_tr (p1.1 b e') (p2.1 a e)) (irr a)
      subst hab
      congr 1
      refine ih u p1.2 p2.2 fun s => ⟨fun hs => ?_, fun hs => ?_⟩
      · rcases List.mem_cons.1 ((h s).1 (List.mem_cons_of_mem _ hs)) with e | e
        · rw [e] at hs; exact absurd (p1.1 a hs) (irr a)
        · exact e
      · rcases List.mem_cons.1 ((h s).2 (List.mem_cons_of_mem _ hs)) with e | e
        · rw [e] at hs; exact absurd (p2.1 a hs) (irr a)
        · exact e
theorem addQ_mem {b : List Atm} {a x : Atm} : x ∈ addQ b a ↔ x ∈ b ∨ x = a := by
  unfold addQ
  split
  · rename_i h
    constructor
    · exact .inl
    · rintro (h' | rfl)
      · exact h'
      · simpa using h
  · simp
theorem addQ_nodup {b : List Atm} (h : b.Nodup) (a : Atm) : (addQ b a).Nodup := by
  unfold addQ
  split
  · exact h
  · rename_i hc
    rw [List.nodup_append]
    refine ⟨h, by simp, fun x hx y hy e => ?_⟩
    rw [List.mem_singleton] at hy
    subst hy
    subst e
    exact hc (by simpa using hx)
theorem given_fold (l : List Atm) : ∀ b : List Atm, b.Nodup → (l.foldl addQ b).Nodup ∧ ∀ x, x ∈ l.foldl addQ b ↔ x ∈ b ∨ x ∈ l := by
  induction l with
  | nil => intro b h; exact ⟨h, fun x => by simp⟩
  | cons a r ih =>
    intro b h
    obtain ⟨h1, h2⟩ := ih (addQ b a) (addQ_nodup h a)
    refine ⟨h1, fun x => ?_⟩
    rw [List.foldl_cons, h2, addQ_mem, List.mem_cons]
    constructor
    · rintro ((h | h) | h)
      · exact .inl h
      · exact .inr (.inl h)
      · exact .inr (.inr h)
    · rintro (h | h | h)
      · exact .inl (.inl h)
      · exact .inl (.inr h)
      · exact .inr h
theorem given_nodup (l : List Atm) : (givenS l).Nodup := (given_fold l [] List.nodup_nil).1
theorem mem_given (l : List Atm) (x : Atm) : x ∈ givenS l ↔ x ∈ l := by
  have := (given_fold l [] List.nodup_nil).2 x
  unfold givenS
  rw [this]
  simp
theorem safe_safe {r : Rul} (hs : safeS r = true) : SafeR r := by
  unfold safeS at hs
  rw [List.all_eq_true] at hs
  have key : ∀ s, s ∈ varsS r → ∃ x ∈ r.body, positiveS x = true ∧ hasV x.atom.args s := by
    intro s hm
    have := hs s hm
    have hb : s ∈ boundS r := by simpa using this
    unfold boundS at hb
    rw [mem_addB] at hb
    rcases hb with hb | ⟨x, hx, hv⟩
    · cases hb
    · rw [List.mem_filter] at hx
      refine ⟨x, hx.1, ?_, hv⟩
      have := hx.2
      unfold posS compsS at this
      unfold positiveS
      simpa using this
  have mk : ∀ l : List Arg, (∀ s, hasV l s → s ∈ varsS r) → SafeV r l := by
    intro l hl a ha hk
    obtain ⟨x, hx, hp, y, hy, hyk, hyt⟩ := key a.text (hl a.text ⟨a, ha, hk, rfl⟩)
    exact ⟨x, hx, hp, y, hy, hyk, hyt⟩
  constructor
  · refine mk _ fun s hv => ?_
    unfold varsS
    rw [mem_addB, mem_addV]
    exact .inl (.inr hv)
  · intro x hx
    refine mk _ fun s hv => ?_
    unfold varsS
    rw [mem_addB]
    exact .inr ⟨x, hx, hv⟩
theorem rule_head {r : Rul} (h : ruleS r = true) : atomS r.head = true := by
  unfold ruleS at h
  simp only [Bool.and_eq_true] at h
  exact h.1.1.1
theorem checked_ok {l : List Rul} (hc : (checkS53 l).2 = 0) : ∀ r ∈ l, RuleOk r := fun r hr => by
  obtain ⟨h1, h2⟩ := ((checkS_ok l).1 hc).2.1 r hr
  exact ⟨safe_safe h2, rule_head h1⟩
structure Rows (l : List Rul) (m : KMap) (R : List (List Bs)) : Prop where
  meets : Meets l (getV m)
  pos : ∀ s, 0 ≤ getV m s
  lt : ∀ r ∈ l, Lv m r.head.name < R.length
  row : ∀ (i : Nat) (h : i < R.length), ∀ r ∈ l, r.head.name ∈ R[i] ↔ Lv m r.head.name = i
theorem rows_of {l : List Rul} (hc : (checkS53 l).2 = 0) : ∃ m, Rows l m (strataS l).1 := by
  obtain ⟨m, hm, e⟩ := strata_ok hc
  refine ⟨m, ?_⟩
  have h1 := levels_law l m hm
  have h2 := (strata_rows l m hm).1
  rw [← e] at h2
  have hin : ∀ r ∈ l, r.head.name ∈ insNames [] l := fun r hr => ((insNames_mem l [] List.Pairwise.nil).2 _).2 (.inr ⟨r, hr, r.head, List.mem_cons_self, rfl⟩)
  refine ⟨h1.2.2.1, fun s => (h1.2.1 s).1, fun r hr => h2.lt _ (hin r hr), fun i hi r hr => ?_⟩
  have hrow := h2.row i
  rw [List.getD_eq_getElem?_getD, List.getElem?_eq_getElem hi] at hrow
  simp only [Option.getD_some] at hrow
  rw [hrow, List.mem_filter]
  simp [hin r hr]
theorem mem_own {l : List Rul} {names : List Bs} {r : Rul} : r ∈ ownS l names ↔ r ∈ l ∧ r.head.name ∈ names := by
  unfold ownS
  rw [List.mem_filter]
  simp
theorem lit_neg {x : Ltl} (hp : positiveS x = false) (ho : x.op.isEmpty = true) : x.neg = true ∧ compsS x = false := by
  unfold positiveS at hp
  unfold compsS
  rw [ho] at hp ⊢
  simpa using hp
theorem Rows.level {l : List Rul} {m : KMap} {R : List (List Bs)} (h : Rows l m R) {r : Rul} (hr : r ∈ l) {x : Ltl} (hx : x ∈ r.body) (hc : compsS x = false) : Lv m x.atom.name + (if x.neg then 1 else 0) ≤ Lv m r.head.name := by
  have := h.meets r hr x hx hc
  have h0 := h.pos x.atom.name
  have h1 := h.pos r.head.name
  unfold Lv
  split at this
  · rename_i hn; rw [if_pos hn]; omega
  · rename_i hn; rw [if_neg hn]; omega
theorem Rows.neg {l : List Rul} {m : KMap} {R : List (List Bs)} (h : Rows l m R) {i : Nat} (hi : i < R.length) : NegOk (ownS l R[i]) := by
  intro r hr x hx hp ho r' hr' e
  obtain ⟨h1, h2⟩ := mem_own.1 hr
  obtain ⟨h3, h4⟩ := mem_own.1 hr'
  have e1 := (h.row i hi r h1).1 h2
  have e2 := (h.row i hi r' h3).1 h4
  obtain ⟨hn, hc⟩ := lit_neg hp ho
  have := h.level h1 hx hc
  rw [hn, if_pos rfl, ← e, e1, e2] at this
  omega
structure MInv (l : List Rul) (m : KMap) (g : List Atm) (i : Nat) (b : List Atm) : Prop where
  nd : b.Nodup
  gr : Gr b
  sub : ∀ a ∈ g, a ∈ b
  heads : ∀ a ∈ b, a ∈ g ∨ ∃ r ∈ l, r.head.name = a.name ∧ Lv m r.head.name < i
  closed : ∀ r ∈ l, Lv m r.head.name < i → ∀ a, Con r b b a → a ∈ b
  supp : ∀ a ∈ b, a ∈ g ∨ ∃ r ∈ l, Con r b b a
theorem modGo_congr {l l' : List Rul} (hll : ∀ r, r ∈ l ↔ r ∈ l') (hok : ∀ r ∈ l, RuleOk r) (most : Nat) {m : KMap} {R : List (List Bs)} (h : Rows l m R) : ∀ (k i : Nat) (b b' : List Atm), R.length = i + k → b.Nodup → b'.Nodup → Gr b → (∀ a, a ∈ b ↔ a ∈ b') → b.length ≤ most →
    match modGo most l (R.drop i) b, modGo most l' (R.drop i) b' with
    | none, none => True
    | some c, some c' => c.Nodup ∧ c'.Nodup ∧ Gr c ∧ ∀ a, a ∈ c ↔ a ∈ c'
    | _, _ => False := by
  intro k
  induction k with
  | zero =>
    intro i b b' hk hb hb' hg he hl
    rw [List.drop_of_length_le (by omega), modGo, modGo]
    exact ⟨hb, hb', hg, he⟩
  | succ k ih =>
    intro i b b' hk hb hb' hg he hl
    have hi : i < R.length := by omega
    have hown : ∀ r, r ∈ ownS l R[i] ↔ r ∈ ownS l' R[i] := fun r => by rw [mem_own, mem_own, hll]
    have hn : NegOk (ownS l R[i]) := h.neg hi
    have hn' : NegOk (ownS l' R[i]) := fun r hr x hx hp ho r' hr' => hn r ((hown r).2 hr) x hx hp ho r' ((hown r').2 hr')
    have hok1 : ∀ r ∈ ownS l R[i], RuleOk r := fun r hr => hok r (mem_own.1 hr).1
    have hok2 : ∀ r ∈ ownS l' R[i], RuleOk r := fun r hr => hok1 r ((hown r).2 hr)
    have hg' : Gr b' := fun a ha => hg a ((he a).2 ha)
    have hlen : b.length = b'.length := Nat.le_antisymm (nodup_le _ _ hb fun a ha => (he a).1 ha) (nodup_le _ _ hb' fun a ha => (he a).2 ha)
    have s1 := stratum_law hn hok1 most hb hg hl
    have s2 := stratum_law hn' hok2 most hb' hg' (by omega)
    have hder : ∀ a, Der (ownS l R[i]) b a ↔ Der (ownS l' R[i]) b' a := fun a => ⟨der_congr (fun r hr => (hown r).1 hr) he, der_congr (fun r hr => (hown r).2 hr) (fun a => (he a).symm)⟩
    rw [List.drop_eq_getElem_cons hi, modGo, modGo]
    cases e1 : satGo most (ownS l R[i]) (most + 2) b with
    | none =>
      rw [e1] at s1
      obtain ⟨c, c1, c2, c3⟩ := s1
      cases e2 : satGo most (ownS l' R[i]) (most + 2) b' with
      | none => simp
      | some d =>
        rw [e2] at s2
        obtain ⟨d1, d2, d3⟩ := s2
        have := nodup_le c d c1 (fun a ha => (d3 a).2 ((hder a).1 (c2 a ha)))
        omega
    | some d =>
      rw [e1] at s1
      obtain ⟨d1, d2, d3⟩ := s1
      cases e2 : satGo most (ownS l' R[i]) (most + 2) b' with
      | none =>
        rw [e2] at s2
        obtain ⟨c, c1, c2, c3⟩ := s2
        have := nodup_le c d c1 (fun a ha => (d3 a).2 ((hder a).2 (c2 a ha)))
        omega
      | some d' =>
        rw [e2] at s2
        obtain ⟨k1, k2, k3⟩ := s2
        exact ih (i + 1) d d' (by omega) d1.nd k1.nd d1.gr (fun a => by rw [d3, hder, k3]) d2
end Go.Proofs.YtkjoaodoioicpaaGreatDoor
namespace Go.Proofs.YtkjoaodoioicpaaGreatDoor
theorem inv_nil : Inv [] [] := ⟨(fun b hb => nomatch hb), fun s v h => by simp [getK] at h⟩
def bodyAtoms (l : List Ltl) : List Atm := (l.filter fun l => !compsS l).map (·.atom)
theorem inv_put {m : KMap} {seen : List Atm} (h : Inv m seen) {a : Atm} (hc : Cons (seen ++ [a])) : Inv (setK m a.name a.args.length) (seen ++ [a]) :=
  h.add a ((cons_snoc (cons_sub (fun x hx => List.mem_append_left _ hx) hc)).1 hc)
theorem arX_inv : ∀ (body : List Ltl) (m : KMap) (seen : List Atm), Inv m seen → Cons (seen ++ bodyAtoms body) → Inv (arX m body) (seen ++ bodyAtoms body) := by
  intro body
  induction body with
  | nil => intro m seen h _; simpa [arX, bodyAtoms] using h
  | cons x r ih =>
    intro m seen h hc
    rw [arX]
    by_cases ho : x.op.isEmpty = true
    · rw [if_pos ho]
      have e : bodyAtoms (x :: r) = x.atom :: bodyAtoms r := by
        unfold bodyAtoms
        rw [List.filter_cons, if_pos (by unfold compsS; rw [ho]; rfl), List.map_cons]
      have e2 : seen ++ bodyAtoms (x :: r) = seen ++ [x.atom] ++ bodyAtoms r := by rw [e]; simp
      rw [e2] at hc ⊢
      exact ih _ _ (inv_put h (cons_sub (fun y hy => List.mem_append_left _ hy) hc)) hc
    · rw [if_neg ho]
      have e : bodyAtoms (x :: r) = bodyAtoms r := by
        unfold bodyAtoms
        rw [List.filter_cons, if_neg (by unfold compsS; simpa using ho)]
      rw [e] at hc ⊢
      exact ih m seen h hc
theorem arR_inv : ∀ (l : List Rul) (m : KMap) (seen : List Atm), Inv m seen → Cons (seen ++ allAtoms l) → Inv (arR m l) (seen ++ allAtoms l) := by
  intro l
  induction l with
  | nil => intro m seen h _; simpa [arR, allAtoms] using h
  | cons r t ih =>
    intro m seen h hc
    have e2 : seen ++ allAtoms (r :: t) = seen ++ [r.head] ++ bodyAtoms r.body ++ allAtoms t := by simp [allAtoms, atomsS, bodyAtoms]
    rw [e2] at hc ⊢
    rw [arR]
    have h1 := inv_put h (a := r.head) (cons_sub (fun y hy => by rw [List.append_assoc, List.append_assoc]; rw [List.mem_append] at hy ⊢; rcases hy with hy | hy; exact .inl hy; right; rw [List.mem_singleton.1 hy]; simp) hc)
    have h2 := arX_inv r.body _ _ h1 (cons_sub (fun y hy => List.mem_append_left _ hy) hc)
    exact ih _ _ h2 hc
theorem chkF_ok : ∀ (facts : List Atm) (m : KMap) (seen : List Atm) (i : Nat), Inv m seen → Cons seen → ((chkF m facts i).2 = 0 ↔ (∀ a ∈ facts, groundP a = true) ∧ Cons (seen ++ facts)) := by
  intro facts
  induction facts with
  | nil => intro m seen i _ hc; simp [chkF, hc]
  | cons a r ih =>
    intro m seen i h hc
    have hb := h.bad a
    have e2 : seen ++ a :: r = seen ++ [a] ++ r := by simp
    rw [chkF, e2, List.forall_mem_cons]
    cases hg : groundP a
    · simp
    · simp only [Bool.not_true, Bool.false_eq_true, if_false, true_and]
      cases hk : getK m a.name with
      | none =>
        rw [hk] at hb
        simp only
        have hc2 := (cons_snoc hc).2 hb
        exact ih _ _ _ (h.add a hb) hc2
      | some n =>
        rw [hk] at hb
        simp only at hb ⊢
        by_cases hn : n ≠ a.args.length
        · rw [if_pos hn]
          rw [decide_eq_true hn] at hb
          simp only [show ((9 : Int) = 0) = False by simp, false_iff]
          rintro ⟨-, hx⟩
          have := (cons_snoc hc).1 (cons_sub (fun y hy => List.mem_append_left _ hy) hx)
          rw [hb] at this
          cases this
        · rw [if_neg hn]
          rw [decide_eq_false hn] at hb
          exact ih _ _ _ (h.add a hb) ((cons_snoc hc).2 hb)
theorem checkQ_ok (l : List Rul) (facts : List Atm) : (checkQ l facts).2 = 0 ↔ (checkS53 l).2 = 0 ∧ facts.length ≤ 1024 ∧ (∀ a ∈ facts, groundP a = true) ∧ Cons (allAtoms l ++ facts) := by
  unfold checkQ
  by_cases hc : (checkS53 l).2 ≠ 0
  · rw [if_pos hc]
    constructor
    · intro h; exact absurd h hc
    · intro h; exact absurd h.1 hc
  · rw [if_neg hc]
    have hc := Classical.not_not.1 hc
    by_cases hl : 1024 < facts.length
    · rw [if_pos hl]; simp; omega
    · rw [if_neg hl]
      have hcons := ((checkS_ok l).1 hc).2.2.1
      have h1 := arR_inv l [] [] inv_nil (by simpa using hcons)
      rw [List.nil_append] at h1
      rw [chkF_ok facts _ _ _ h1 hcons]
      constructor
      · intro h; exact ⟨hc, by omega, h⟩
      · intro h; exact h.2.2
theorem modelS_ok {l : List Rul} {facts : List Atm} (h : (modelS l facts).2.2 = 0) : (checkQ l facts).2 = 0 ∧ modGo ((givenS facts).length + 1024) l (strataS l).1 (givenS facts) = some (modelS l facts).1 := by
  unfold modelS at h ⊢
  by_cases hc : (checkQ l facts).2 ≠ 0
  · rw [if_pos hc] at h; exact absurd h hc
  · rw [if_neg hc] at h ⊢
    refine ⟨Classical.not_not.1 hc, ?_⟩
    cases hm : modGo ((givenS facts).length + 1024) l (strataS l).1 (givenS facts) with
    | none => rw [hm] at h; simp at h
    | some b => rfl
theorem gr_given {facts : List Atm} (h : ∀ a ∈ facts, groundP a = true) : Gr (givenS facts) := fun a ha => h a ((mem_given facts a).1 ha)
structure Mod (l : List Rul) (facts b : List Atm) : Prop where
  nd : b.Nodup
  gr : Gr b
  sub : ∀ a ∈ facts, a ∈ b
  closed : ∀ r ∈ l, ∀ a, Con r b b a → a ∈ b
  supp : ∀ a ∈ b, a ∈ facts ∨ ∃ r ∈ l, Con r b b a
  len : b.length ≤ facts.length + 1024
theorem given_len (l : List Atm) : (givenS l).length ≤ l.length := nodup_le _ _ (given_nodup l) fun a ha => (mem_given l a).1 ha
theorem evalS_ok {l : List Rul} {facts : List Atm} : (evalS l facts).2.2 = 0 ↔ (modelS l facts).2.2 = 0 := by
  unfold evalS
  by_cases h : (modelS l facts).2.2 ≠ 0
  · rw [if_pos h]
  · rw [if_neg h]
    simp only [true_iff]
    exact Classical.not_not.1 h
theorem evalS_eq {l : List Rul} {facts : List Atm} (h : (evalS l facts).2.2 = 0) : evalS l facts = (sortT (modelS l facts).1, -1, 0) := by
  have := evalS_ok.1 h
  unfold evalS
  rw [if_neg (by rw [this]; simp)]
theorem evalS_err {l : List Rul} {facts : List Atm} (h : (evalS l facts).2.2 ≠ 0) : (evalS l facts).1 = [] := by
  unfold evalS at h ⊢
  by_cases h2 : (modelS l facts).2.2 ≠ 0
  · rw [if_pos h2]
  · rw [if_neg h2] at h; simp at h
theorem ground_atomS {a : Atm} (h : groundP a = true) : atomS a = true := by
  unfold groundP at h
  rw [Bool.and_eq_true] at h
  exact h.1
theorem modelS_congr {l l' : List Rul} {facts facts' : List Atm} (hl : ∀ r, r ∈ l ↔ r ∈ l') (hf : ∀ a, a ∈ facts ↔ a ∈ facts') (h64 : l'.length ≤ 64) (hlen : facts'.length ≤ 1024) (h : (modelS l facts).2.2 = 0) :
    (modelS l' facts').2.2 = 0 ∧ sortT (modelS l' facts').1 = sortT (modelS l facts).1 := by
  obtain ⟨h1, h2⟩ := modelS_ok h
  obtain ⟨hc, hfl, hg, hcons⟩ := (checkQ_ok l facts).1 h1
  obtain ⟨m, hR⟩ := rows_of hc
  have hc' := checkS_congr hl h64 hc
  have hQ' : (checkQ l' facts').2 = 0 := by
    rw [checkQ_ok]
    refine ⟨hc', hlen, fun a ha => hg a ((hf a).2 ha), cons_sub (fun a ha => ?_) hcons⟩
    rw [List.mem_append] at ha ⊢
    rcases ha with ha | ha
    · left
      unfold allAtoms at ha ⊢
      rw [List.mem_flatMap] at ha ⊢
      obtain ⟨r, hr, hx⟩ := ha
      exact ⟨r, (hl r).2 hr, hx⟩
    · exact .inr ((hf a).2 ha)
  have hst := strata_congr hl hc hc'
  have hgm : ∀ a, a ∈ givenS facts ↔ a ∈ givenS facts' := fun a => by rw [mem_given, mem_given, hf]
  have hglen : (givenS facts).length = (givenS facts').length := Nat.le_antisymm (nodup_le _ _ (given_nodup _) fun a ha => (hgm a).1 ha) (nodup_le _ _ (given_nodup _) fun a ha => (hgm a).2 ha)
  have hk := modGo_congr hl (checked_ok hc) ((givenS facts).length + 1024) hR (strataS l).1.length 0 (givenS facts) (givenS facts') (by omega) (given_nodup _) (given_nodup _) (gr_given hg) hgm (by omega)
  rw [List.drop_zero, h2] at hk
  cases hm' : modGo ((givenS facts).length + 1024) l' (strataS l).1 (givenS facts') with
  | none => rw [hm'] at hk; exact absurd hk (by simp)
  | some c =>
    rw [hm'] at hk
    obtain ⟨k1, k2, k3, k4⟩ := hk
    have e : modelS l' facts' = (c, -1, 0) := by
      unfold modelS
      rw [if_neg (by rw [hQ']; simp), hst, ← hglen, hm']
    rw [e]
    refine ⟨rfl, ?_⟩
    have g1 : ∀ x ∈ (modelS l facts).1, atomS x = true := fun x hx => ground_atomS (k3 x hx)
    exact (sortT_unique _ _ (sort_sortT g1 k1) (sort_sortT (fun x hx => g1 x ((k4 x).2 hx)) k2) fun s => by rw [mem_sortT, mem_sortT, k4]).symm
theorem any_order {l l' : List Rul} {facts facts' : List Atm} (hl : ∀ r, r ∈ l ↔ r ∈ l') (hf : ∀ a, a ∈ facts ↔ a ∈ facts') (h64 : l.length ≤ 64) (h64' : l'.length ≤ 64) (hlen : facts.length ≤ 1024) (hlen' : facts'.length ≤ 1024) :
    ((evalS l facts).2.2 = 0 ↔ (evalS l' facts').2.2 = 0) ∧ (evalS l facts).1 = (evalS l' facts').1 := by
  have h1 := fun h => modelS_congr hl hf h64' hlen' h
  have h2 := fun h => modelS_congr (fun r => (hl r).symm) (fun a => (hf a).symm) h64 hlen h
  rw [evalS_ok, evalS_ok]
  refine ⟨⟨fun h => (h1 h).1, fun h => (h2 h).1⟩, ?_⟩
  by_cases h : (modelS l facts).2.2 = 0
  · rw [evalS_eq (evalS_ok.2 h), evalS_eq (evalS_ok.2 (h1 h).1)]
    exact (h1 h).2.symm
  · have h' : ¬ (modelS l' facts').2.2 = 0 := fun x => h (h2 x).1
    rw [evalS_err (fun x => h (evalS_ok.1 x)), evalS_err (fun x => h' (evalS_ok.1 x))]
end Go.Proofs.YtkjoaodoioicpaaGreatDoor
namespace Go.Proofs.YtkjoaodoioicpaaGreatDoor
def vX : Arg := ⟨1, [88], 0⟩
def vY : Arg := ⟨1, [89], 0⟩
def fa (x : Arg) : Atm := ⟨[97], [x]⟩
def fb (x : Arg) : Atm := ⟨[98], [x]⟩
end Go.Proofs.YtkjoaodoioicpaaGreatDoor
