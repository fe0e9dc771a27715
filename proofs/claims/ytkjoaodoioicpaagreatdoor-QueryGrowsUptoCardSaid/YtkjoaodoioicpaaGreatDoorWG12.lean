/- Query (package licitlaw54): a part of the proofs of its laws; see the law's own text, which comes last in 'order'. No conditions of its own. -/
import Derived.Maps.OwnOps
import Derived.Maps.OwnSet
import Derived.Test.YtkjoaodoioicpaaGreatDoorWG05
import Derived.Test.YtkjoaodoioicpaaGreatDoorWG06
import Derived.Test.YtkjoaodoioicpaaGreatDoorWG10
import Derived.Test.YtkjoaodoioicpaaGreatDoorWG11
set_option linter.unusedVariables false
set_option linter.unusedSimpArgs false
namespace Go.Proofs.YtkjoaodoioicpaaGreatDoor
abbrev SortT (l : List Atm) : Prop := l.Pairwise fun a b => ordS a b = -1
theorem ordS_tr {a b c : Atm} (h1 : ordS a b = -1) (h2 : ordS b c = -1) : ordS a c = -1 := by
  rw [ordS_key] at *
  exact ordT.tr _ _ _ h1 h2
theorem ordS_irr (a : Atm) : ordS a a = 0 := by rw [ordS_key, ordT.eq0]
theorem ordS_neg (a b : Atm) : ordS b a = - ordS a b := by rw [ordS_key, ordS_key]; exact ordT.neg _ _
theorem ordS_tot {a b : Atm} (ha : atomS a = true) (hb : atomS b = true) : ordS a b = -1 ∨ a = b ∨ ordS b a = -1 := by
  have hn := ordS_neg a b
  have hr : ordS a b = -1 ∨ ordS a b = 0 ∨ ordS a b = 1 := by rw [ordS_key]; exact ordT.rng _ _
  rcases hr with h | h | h
  · exact .inl h
  · right; left
    rw [ordS_key, ordT.eq0] at h
    exact keyT_inj ha hb h
  · right; right; omega
theorem mem_insT (a x : Atm) (l : List Atm) : x ∈ insT a l ↔ x = a ∨ x ∈ l := by
  induction l with
  | nil => simp [insT]
  | cons y r ih =>
    rw [insT]
    split
    · rw [List.mem_cons, ih, List.mem_cons]
      constructor
      · rintro (h | h | h)
        · exact .inr (.inl h)
        · exact .inl h
        · exact .inr (.inr h)
      · rintro (h | h | h)
        · exact .inr (.inl h)
        · exact .inl h
        · exact .inr (.inr h)
    · simp
theorem sort_insT (a : Atm) (l : List Atm) (ha : atomS a = true) (hl : ∀ x ∈ l, atomS x = true) (hn : a ∉ l) (h : SortT l) : SortT (insT a l) := by
  induction l with
  | nil => simp [insT]
  | cons y r ih =>
    have hp := List.pairwise_cons.1 h
    have hy := hl y List.mem_cons_self
    have hne : a ≠ y := fun e => hn (by rw [e]; exact List.mem_cons_self)
    rw [insT]
    split
    · rename_i hlt
      have hya : ordS y a = -1 := by
        have hr : ordS y a = -1 ∨ ordS y a = 0 ∨ ordS y a = 1 := by rw [ordS_key]; exact ordT.rng _ _
        omega
      refine List.pairwise_cons.2 ⟨fun x hx => ?_, ih (fun x hx => hl x (List.mem_cons_of_mem _ hx)) (fun hm => hn (List.mem_cons_of_mem _ hm)) hp.2⟩
      rcases (mem_insT a x r).1 hx with rfl | hx
      · exact hya
      · exact hp.1 x hx
    · rename_i hlt
      have hay : ordS a y = -1 := by
        rcases ordS_tot ha hy with h | h | h
        · exact h
        · exact absurd h hne
        · omega
      refine List.pairwise_cons.2 ⟨fun x hx => ?_, h⟩
      rcases List.mem_cons.1 hx with rfl | hx
      · exact hay
      · exact ordS_tr hay (hp.1 x hx)
theorem len_insT (a : Atm) (l : List Atm) : (insT a l).length = l.length + 1 := by
  induction l with
  | nil => rfl
  | cons y r ih =>
    rw [insT]
    split
    · simp [ih]
    · simp
theorem mem_sortT (l : List Atm) (x : Atm) : x ∈ sortT l ↔ x ∈ l := by
  induction l with
  | nil => simp [sortT]
  | cons a r ih =>
    have : sortT (a :: r) = insT a (sortT r) := rfl
    rw [this, mem_insT, ih, List.mem_cons]
theorem len_sortT (l : List Atm) : (sortT l).length = l.length := by
  induction l with
  | nil => rfl
  | cons a r ih =>
    have : sortT (a :: r) = insT a (sortT r) := rfl
    rw [this, len_insT, ih, List.length_cons]
theorem sort_sortT {l : List Atm} (hl : ∀ x ∈ l, atomS x = true) (hn : l.Nodup) : SortT (sortT l) := by
  induction l with
  | nil => exact List.Pairwise.nil
  | cons a r ih =>
    have : sortT (a :: r) = insT a (sortT r) := rfl
    rw [this]
    rw [List.nodup_cons] at hn
    exact sort_insT a _ (hl a List.mem_cons_self) (fun x hx => hl x (List.mem_cons_of_mem _ ((mem_sortT r x).1 hx))) (fun hm => hn.1 ((mem_sortT r a).1 hm)) (ih (fun x hx => hl x (List.mem_cons_of_mem _ hx)) hn.2)
theorem sortT_unique (l : List Atm) : ∀ t, SortT l → SortT t → (∀ s, s ∈ l ↔ s ∈ t) → l = t := by
  induction l with
  | nil =>
    intro t _ _ h
    cases t with
    | nil => rfl
    | cons b u => exact absurd ((h b).2 List.mem_cons_self) (by simp)
  | cons a r ih =>
    intro t h1 h2 h
    cases t with
    | nil => exact absurd ((h a).1 List.mem_cons_self) (by simp)
    | cons b u =>
      have p1 := List.pairwise_cons.1 h1
      have p2 := List.pairwise_cons.1 h2
      have irr : ∀ x, ordS x x = -1 → False := fun x hx => by rw [ordS_irr] at hx; omega
      have hab : a = b := by
        rcases List.mem_cons.1 ((h a).1 List.mem_cons_self) with e | e
        · exact e
        · rcases List.mem_cons.1 ((h b).2 List.mem_cons_self) with e' | e'
          · exact e'.symm
          · exact absurd (ordS_tr (p1.1 b e') (p2.1 a e)) (irr a)
      subst hab
      congr 1
      refine ih u p1.2 p2.2 fun s => ⟨fun hs => ?_, fun hs => ?_⟩
      · rcases List.mem_cons.1 ((h s).1 (List.mem_cons_of_mem _ hs)) with e | e
        · rw [e] at hs; exact absurd (p1.1 a hs) (irr a)
        · exact e
      · rcases List.mem_cons.1 ((h s).2 (List.mem_cons_of_mem _ hs)) with e | e
        · rw [e] at hs; exact absurd (p2.1 a hs) (irr a)
        · exact e
theorem addQ_mem {b : List Atm} {a x : Atm} : x ∈ addQ b a ↔ x ∈ b ∨ x = a := by
  unfold addQ
  split
  · rename_i h
    constructor
    · exact .inl
    · rintro (h' | rfl)
      · exact h'
      · simpa using h
  · simp
theorem addQ_nodup {b : List Atm} (h : b.Nodup) (a : Atm) : (addQ b a).Nodup := by
  unfold addQ
  split
  · exact h
  · rename_i hc
    rw [List.nodup_append]
    refine ⟨h, by simp, fun x hx y hy e => ?_⟩
    rw [List.mem_singleton] at hy
    subst hy
    subst e
    exact hc (by simpa using hx)
theorem given_fold (l : List Atm) : ∀ b : List Atm, b.Nodup → (l.foldl addQ b).Nodup ∧ ∀ x, x ∈ l.foldl addQ b ↔ x ∈ b ∨ x ∈ l := by
  induction l with
  | nil => intro b h; exact ⟨h, fun x => by simp⟩
  | cons a r ih =>
    intro b h
    obtain ⟨h1, h2⟩ := ih (addQ b a) (addQ_nodup h a)
    refine ⟨h1, fun x => ?_⟩
    rw [List.foldl_cons, h2, addQ_mem, List.mem_cons]
    constructor
    · rintro ((h | h) | h)
      · exact .inl h
      · exact .inr (.inl h)
      · exact .inr (.inr h)
    · rintro (h | h | h)
      · exact .inl (.inl h)
      · exact .inl (.inr h)
      · exact .inr h
theorem given_nodup (l : List Atm) : (givenS l).Nodup := (given_fold l [] List.nodup_nil).1
theorem mem_given (l : List Atm) (x : Atm) : x ∈ givenS l ↔ x ∈ l := by
  have := (given_fold l [] List.nodup_nil).2 x
  unfold givenS
  rw [this]
  simp
theorem safe_safe {r : Rul} (hs : safeS r = true) : SafeR r := by
  unfold safeS at hs
  rw [List.all_eq_true] at hs
  have key : ∀ s, s ∈ varsS r → ∃ x ∈ r.body, positiveS x = true ∧ hasV x.atom.args s := by
    intro s hm
    have := hs s hm
    have hb : s ∈ boundS r := by simpa using this
    unfold boundS at hb
    rw [mem_addB] at hb
    rcases hb with hb | ⟨x, hx, hv⟩
    · cases hb
    · rw [List.mem_filter] at hx
      refine ⟨x, hx.1, ?_, hv⟩
      have := hx.2
      unfold posS compsS at this
      unfold positiveS
      simpa using this
  have mk : ∀ l : List Arg, (∀ s, hasV l s → s ∈ varsS r) → SafeV r l := by
    intro l hl a ha hk
    obtain ⟨x, hx, hp, y, hy, hyk, hyt⟩ := key a.text (hl a.text ⟨a, ha, hk, rfl⟩)
    exact ⟨x, hx, hp, y, hy, hyk, hyt⟩
  constructor
  · refine mk _ fun s hv => ?_
    unfold varsS
    rw [mem_addB, mem_addV]
    exact .inl (.inr hv)
  · intro x hx
    refine mk _ fun s hv => ?_
    unfold varsS
    rw [mem_addB]
    exact .inr ⟨x, hx, hv⟩
theorem rule_head {r : Rul} (h : ruleS r = true) : atomS r.head = true := by
  unfold ruleS at h
  simp only [Bool.and_eq_true] at h
  exact h.1.1.1
theorem checked_ok {l : List Rul} (hc : (checkS53 l).2 = 0) : ∀ r ∈ l, RuleOk r := fun r hr => by
  obtain ⟨h1, h2⟩ := ((checkS_ok l).1 hc).2.1 r hr
  exact ⟨safe_safe h2, rule_head h1⟩
structure Rows (l : List Rul) (m : KMap) (R : List (List Bs)) : Prop where
  meets : Meets l (getV m)
  pos : ∀ s, 0 ≤ getV m s
  lt : ∀ r ∈ l, Lv m r.head.name < R.length
  row : ∀ (i : Nat) (h : i < R.length), ∀ r ∈ l, r.head.name ∈ R[i] ↔ Lv m r.head.name = i
theorem rows_of {l : List Rul} (hc : (checkS53 l).2 = 0) : ∃ m, Rows l m (strataS l).1 := by
  obtain ⟨m, hm, e⟩ := strata_ok hc
  refine ⟨m, ?_⟩
  have h1 := levels_law l m hm
  have h2 := (strata_rows l m hm).1
  rw [← e] at h2
  have hin : ∀ r ∈ l, r.head.name ∈ insNames [] l := fun r hr => ((insNames_mem l [] List.Pairwise.nil).2 _).2 (.inr ⟨r, hr, r.head, List.mem_cons_self, rfl⟩)
  refine ⟨h1.2.2.1, fun s => (h1.2.1 s).1, fun r hr => h2.lt _ (hin r hr), fun i hi r hr => ?_⟩
  have hrow := h2.row i
  rw [List.getD_eq_getElem?_getD, List.getElem?_eq_getElem hi] at hrow
  simp only [Option.getD_some] at hrow
  rw [hrow, List.mem_filter]
  simp [hin r hr]
theorem mem_own {l : List Rul} {names : List Bs} {r : Rul} : r ∈ ownS l names ↔ r ∈ l ∧ r.head.name ∈ names := by
  unfold ownS
  rw [List.mem_filter]
  simp
theorem lit_neg {x : Ltl} (hp : positiveS x = false) (ho : x.op.isEmpty = true) : x.neg = true ∧ compsS x = false := by
  unfold positiveS at hp
  unfold compsS
  rw [ho] at hp ⊢
  simpa using hp
theorem Rows.level {l : List Rul} {m : KMap} {R : List (List Bs)} (h : Rows l m R) {r : Rul} (hr : r ∈ l) {x : Ltl} (hx : x ∈ r.body) (hc : compsS x = false) : Lv m x.atom.name + (if x.neg then 1 else 0) ≤ Lv m r.head.name := by
  have := h.meets r hr x hx hc
  have h0 := h.pos x.atom.name
  have h1 := h.pos r.head.name
  unfold Lv
  split at this
  · rename_i hn; rw [if_pos hn]; omega
  · rename_i hn; rw [if_neg hn]; omega
theorem Rows.neg {l : List Rul} {m : KMap} {R : List (List Bs)} (h : Rows l m R) {i : Nat} (hi : i < R.length) : NegOk (ownS l R[i]) := by
  intro r hr x hx hp ho r' hr' e
  obtain ⟨h1, h2⟩ := mem_own.1 hr
  obtain ⟨h3, h4⟩ := mem_own.1 hr'
  have e1 := (h.row i hi r h1).1 h2
  have e2 := (h.row i hi r' h3).1 h4
  obtain ⟨hn, hc⟩ := lit_neg hp ho
  have := h.level h1 hx hc
  rw [hn, if_pos rfl, ← e, e1, e2] at this
  omega
structure MInv (l : List Rul) (m : KMap) (g : List Atm) (i : Nat) (b : List Atm) : Prop where
  nd : b.Nodup
  gr : Gr b
  sub : ∀ a ∈ g, a ∈ b
  heads : ∀ a ∈ b, a ∈ g ∨ ∃ r ∈ l, r.head.name = a.name ∧ Lv m r.head.name < i
  closed : ∀ r ∈ l, Lv m r.head.name < i → ∀ a, Con r b b a → a ∈ b
  supp : ∀ a ∈ b, a ∈ g ∨ ∃ r ∈ l, Con r b b a
def PosR (l : List Rul) : Prop := ∀ r ∈ l, ∀ x ∈ r.body, x.neg = false
theorem der_mono {own : List Rul} (hp : PosR own) {b b' : List Atm} (hs : ∀ a ∈ b, a ∈ b') {a : Atm} (h : Der own b a) : Der own b' a := by
  induction h with
  | base hm => exact .base (hs _ hm)
  | step θ hr _ _ hcmp ih => exact .step θ hr ih (fun x hx hpx ho => absurd (lit_neg hpx ho).1 (by rw [hp _ hr x hx]; decide)) hcmp
theorem modGo_mono {l : List Rul} (hp : PosR l) (hok : ∀ r ∈ l, RuleOk r) (most most' : Nat) {m : KMap} {R : List (List Bs)} (h : Rows l m R) : ∀ (k i : Nat) (b b' c c' : List Atm), R.length = i + k → b.Nodup → b'.Nodup → Gr b → Gr b' → (∀ a ∈ b, a ∈ b') → b.length ≤ most → b'.length ≤ most' →
    modGo most l (R.drop i) b = some c → modGo most' l (R.drop i) b' = some c' → ∀ a ∈ c, a ∈ c' := by
  intro k
  induction k with
  | zero =>
    intro i b b' c c' hk hb hb' hg hg' he hl hl' e1 e2
    rw [List.drop_of_length_le (by omega), modGo] at e1 e2
    injection e1 with e1
    injection e2 with e2
    subst e1
    subst e2
    exact he
  | succ k ih =>
    intro i b b' c c' hk hb hb' hg hg' he hl hl' e1 e2
    have hi : i < R.length := by omega
    have hok1 : ∀ r ∈ ownS l R[i], RuleOk r := fun r hr => hok r (mem_own.1 hr).1
    have s1 := stratum_law (h.neg hi) hok1 most hb hg hl
    have s2 := stratum_law (h.neg hi) hok1 most' hb' hg' hl'
    rw [List.drop_eq_getElem_cons hi, modGo] at e1 e2
    cases f1 : satGo most (ownS l R[i]) (most + 2) b with
    | none => rw [f1] at e1; cases e1
    | some d =>
      cases f2 : satGo most' (ownS l R[i]) (most' + 2) b' with
      | none => rw [f2] at e2; cases e2
      | some d' =>
        rw [f1] at s1 e1
        rw [f2] at s2 e2
        simp only at s1 s2 e1 e2
        obtain ⟨d1, d2, d3⟩ := s1
        obtain ⟨k1, k2, k3⟩ := s2
        exact ih (i + 1) d d' c c' (by omega) d1.nd k1.nd d1.gr k1.gr (fun a ha => (k3 a).2 (der_mono (fun r hr => hp r (mem_own.1 hr).1) he ((d3 a).1 ha))) d2 k2 e1 e2
end Go.Proofs.YtkjoaodoioicpaaGreatDoor
namespace Go.Proofs.YtkjoaodoioicpaaGreatDoor
theorem inv_nil : Inv [] [] := ⟨(fun b hb => nomatch hb), fun s v h => by simp [getK] at h⟩
def bodyAtoms (l : List Ltl) : List Atm := (l.filter fun l => !compsS l).map (·.atom)
theorem inv_put {m : KMap} {seen : List Atm} (h : Inv m seen) {a : Atm} (hc : Cons (seen ++ [a])) : Inv (setK m a.name a.args.length) (seen ++ [a]) :=
  h.add a ((cons_snoc (cons_sub (fun x hx => List.mem_append_left _ hx) hc)).1 hc)
theorem arX_inv : ∀ (body : List Ltl) (m : KMap) (seen : List Atm), Inv m seen → Cons (seen ++ bodyAtoms body) → Inv (arX m body) (seen ++ bodyAtoms body) := by
  intro body
  induction body with
  | nil => intro m seen h _; simpa [arX, bodyAtoms] using h
  | cons x r ih =>
    intro m seen h hc
    rw [arX]
    by_cases ho : x.op.isEmpty = true
    · rw [if_pos ho]
      have e : bodyAtoms (x :: r) = x.atom :: bodyAtoms r := by
        unfold bodyAtoms
        rw [List.filter_cons, if_pos (by unfold compsS; rw [ho]; rfl), List.map_cons]
      have e2 : seen ++ bodyAtoms (x :: r) = seen ++ [x.atom] ++ bodyAtoms r := by rw [e]; simp
      rw [e2] at hc ⊢
      exact ih _ _ (inv_put h (cons_sub (fun y hy => List.mem_append_left _ hy) hc)) hc
    · rw [if_neg ho]
      have e : bodyAtoms (x :: r) = bodyAtoms r := by
        unfold bodyAtoms
        rw [List.filter_cons, if_neg (by unfold compsS; simpa using ho)]
      rw [e] at hc ⊢
      exact ih m seen h hc
theorem arR_inv : ∀ (l : List Rul) (m : KMap) (seen : List Atm), Inv m seen → Cons (seen ++ allAtoms l) → Inv (arR m l) (seen ++ allAtoms l) := by
  intro l
  induction l with
  | nil => intro m seen h _; simpa [arR, allAtoms] using h
  | cons r t ih =>
    intro m seen h hc
    have e2 : seen ++ allAtoms (r :: t) = seen ++ [r.head] ++ bodyAtoms r.body ++ allAtoms t := by simp [allAtoms, atomsS, bodyAtoms]
    rw [e2] at hc ⊢
    rw [arR]
    have h1 := inv_put h (a := r.head) (cons_sub (fun y hy => by rw [List.append_assoc, List.append_assoc]; rw [List.mem_append] at hy ⊢; rcases hy with hy | hy; exact .inl hy; right; rw [List.mem_singleton.1 hy]; simp) hc)
    have h2 := arX_inv r.body _ _ h1 (cons_sub (fun y hy => List.mem_append_left _ hy) hc)
    exact ih _ _ h2 hc
theorem chkF_ok : ∀ (facts : List Atm) (m : KMap) (seen : List Atm) (i : Nat), Inv m seen → Cons seen → ((chkF m facts i).2 = 0 ↔ (∀ a ∈ facts, groundP a = true) ∧ Cons (seen ++ facts)) := by
  intro facts
  induction facts with
  | nil => intro m seen i _ hc; simp [chkF, hc]
  | cons a r ih =>
    intro m seen i h hc
    have hb := h.bad a
    have e2 : seen ++ a :: r = seen ++ [a] ++ r := by simp
    rw [chkF, e2, List.forall_mem_cons]
    cases hg : groundP a
    · simp
    · simp only [Bool.not_true, Bool.false_eq_true, if_false, true_and]
      cases hk : getK m a.name with
      | none =>
        rw [hk] at hb
        simp only
        have hc2 := (cons_snoc hc).2 hb
        exact ih _ _ _ (h.add a hb) hc2
      | some n =>
        rw [hk] at hb
        simp only at hb ⊢
        by_cases hn : n ≠ a.args.length
        · rw [if_pos hn]
          rw [decide_eq_true hn] at hb
          simp only [show ((9 : Int) = 0) = False by simp, false_iff]
          rintro ⟨-, hx⟩
          have := (cons_snoc hc).1 (cons_sub (fun y hy => List.mem_append_left _ hy) hx)
          rw [hb] at this
          cases this
        · rw [if_neg hn]
          rw [decide_eq_false hn] at hb
          exact ih _ _ _ (h.add a hb) ((cons_snoc hc).2 hb)
theorem checkQ_ok (l : List Rul) (facts : List Atm) : (checkQ l facts).2 = 0 ↔ (checkS53 l).2 = 0 ∧ facts.length ≤ 1024 ∧ (∀ a ∈ facts, groundP a = true) ∧ Cons (allAtoms l ++ facts) := by
  unfold checkQ
  by_cases hc : (checkS53 l).2 ≠ 0
  · rw [if_pos hc]
    constructor
    · intro h; exact absurd h hc
    · intro h; exact absurd h.1 hc
  · rw [if_neg hc]
    have hc := Classical.not_not.1 hc
    by_cases hl : 1024 < facts.length
    · rw [if_pos hl]; simp; omega
    · rw [if_neg hl]
      have hcons := ((checkS_ok l).1 hc).2.2.1
      have h1 := arR_inv l [] [] inv_nil (by simpa using hcons)
      rw [List.nil_append] at h1
      rw [chkF_ok facts _ _ _ h1 hcons]
      constructor
      · intro h; exact ⟨hc, by omega, h⟩
      · intro h; exact h.2.2
theorem modelS_ok {l : List Rul} {facts : List Atm} (h : (modelS l facts).2.2 = 0) : (checkQ l facts).2 = 0 ∧ modGo ((givenS facts).length + 1024) l (strataS l).1 (givenS facts) = some (modelS l facts).1 := by
  unfold modelS at h ⊢
  by_cases hc : (checkQ l facts).2 ≠ 0
  · rw [if_pos hc] at h; exact absurd h hc
  · rw [if_neg hc] at h ⊢
    refine ⟨Classical.not_not.1 hc, ?_⟩
    cases hm : modGo ((givenS facts).length + 1024) l (strataS l).1 (givenS facts) with
    | none => rw [hm] at h; simp at h
    | some b => rfl
theorem gr_given {facts : List Atm} (h : ∀ a ∈ facts, groundP a = true) : Gr (givenS facts) := fun a ha => h a ((mem_given facts a).1 ha)
structure Mod (l : List Rul) (facts b : List Atm) : Prop where
  nd : b.Nodup
  gr : Gr b
  sub : ∀ a ∈ facts, a ∈ b
  closed : ∀ r ∈ l, ∀ a, Con r b b a → a ∈ b
  supp : ∀ a ∈ b, a ∈ facts ∨ ∃ r ∈ l, Con r b b a
  len : b.length ≤ facts.length + 1024
theorem given_len (l : List Atm) : (givenS l).length ≤ l.length := nodup_le _ _ (given_nodup l) fun a ha => (mem_given l a).1 ha
theorem evalS_ok {l : List Rul} {facts : List Atm} : (evalS l facts).2.2 = 0 ↔ (modelS l facts).2.2 = 0 := by
  unfold evalS
  by_cases h : (modelS l facts).2.2 ≠ 0
  · rw [if_pos h]
  · rw [if_neg h]
    simp only [true_iff]
    exact Classical.not_not.1 h
theorem evalS_eq {l : List Rul} {facts : List Atm} (h : (evalS l facts).2.2 = 0) : evalS l facts = (sortT (modelS l facts).1, -1, 0) := by
  have := evalS_ok.1 h
  unfold evalS
  rw [if_neg (by rw [this]; simp)]
theorem ground_atomS {a : Atm} (h : groundP a = true) : atomS a = true := by
  unfold groundP at h
  rw [Bool.and_eq_true] at h
  exact h.1
theorem grows {l : List Rul} {facts all : List Atm} (hp : PosR l) (hs : ∀ a ∈ facts, a ∈ all) (h1 : (evalS l facts).2.2 = 0) (h2 : (evalS l all).2.2 = 0) : ∀ a ∈ (evalS l facts).1, a ∈ (evalS l all).1 := by
  rw [evalS_eq h1, evalS_eq h2]
  have h1 := evalS_ok.1 h1
  have h2 := evalS_ok.1 h2
  obtain ⟨a1, a2⟩ := modelS_ok h1
  obtain ⟨b1, b2⟩ := modelS_ok h2
  obtain ⟨hc, hfl, hg, -⟩ := (checkQ_ok l facts).1 a1
  obtain ⟨-, hfl', hg', -⟩ := (checkQ_ok l all).1 b1
  obtain ⟨m, hR⟩ := rows_of hc
  have hk := modGo_mono hp (checked_ok hc) ((givenS facts).length + 1024) ((givenS all).length + 1024) hR (strataS l).1.length 0 (givenS facts) (givenS all) _ _ (by omega) (given_nodup _) (given_nodup _) (gr_given hg) (gr_given hg') (fun a ha => (mem_given all a).2 (hs a ((mem_given facts a).1 ha))) (by omega) (by omega) a2 b2
  intro a ha
  rw [mem_sortT] at ha ⊢
  exact hk a ha
end Go.Proofs.YtkjoaodoioicpaaGreatDoor
namespace Go.Proofs.YtkjoaodoioicpaaGreatDoor
def vX : Arg := ⟨1, [88], 0⟩
def vY : Arg := ⟨1, [89], 0⟩
def fa (x : Arg) : Atm := ⟨[97], [x]⟩
def fb (x : Arg) : Atm := ⟨[98], [x]⟩
end Go.Proofs.YtkjoaodoioicpaaGreatDoor
namespace Go.Proofs.YtkjoaodoioicpaaGreatDoor
open Go.RowKit
def matchP (q : Plc) (a : Atm) : Bool :=
  a.name == q.name && (a.args.length : Int) == q.arity && (if q.at_ = -1 then q.kind == 0 && q.num == 0 && q.text.isEmpty else decide (0 ≤ q.at_) && (match a.args[q.at_.toNat]? with | some x => x == ⟨q.kind, q.text, q.num⟩ | none => false))
def idxL (L : List Atm) (q : Plc) : List Atm := L.filter (matchP q)
def FactV (w : World) (I : Nat → Prop) (v : Value) (a : Atm) : Prop := ∃ A n c, v = .agg #[.string ⟨a.name.toArray⟩, .slice A n c] ∧ Sl w I A n c a.args
structure BaseR (w : World) (F I : Nat → Prop) (p : Nat) (L : List Atm) : Prop where
  ex : ∃ fb ib fm im, w.heap[p]? = some (.cells #[.map (some fb), .map (some ib)] 91 (0, 0)) ∧ F fb ∧ F ib ∧ fb < p ∧ ib < p ∧ fb ≠ ib ∧
    MapV TS w fb fm ∧ MapV TP w ib im ∧ fm.map (·.1) = L.map (fun a => (printAtomS a).1) ∧ (∀ i (h : i < fm.length) (h' : i < L.length), FactV w I fm[i].2 L[i]) ∧
    (∀ q, OkP q → ∃ B c, (getM im q).getD (.slice none 0 0) = .slice B (idxL L q).length c ∧ Own w I (p + 1) 31 B c (idxL L q) ∧ ∀ k, B.map Addr.block = some k → F k) ∧
    (∀ q q' B B' n n' c c', OkP q → OkP q' → q ≠ q' → (getM im q).getD (.slice none 0 0) = .slice B n c → (getM im q').getD (.slice none 0 0) = .slice B' n' c' → ∀ k, B.map Addr.block = some k → B'.map Addr.block ≠ some k)
  nf : ¬ F p ∧ ¬ I p
  apart : ∀ k, F k → ¬ I k
  gr : Gr L
  nd : L.Nodup
section
variable {w w' : World} {F I : Nat → Prop} {p : Nat} {L : List Atm}
theorem BaseR.lt (h : BaseR w F I p L) : p < w.heap.size := by
  obtain ⟨fb, ib, fm, im, hb, _⟩ := h.ex
  exact (Array.getElem?_eq_some_iff.1 hb).1
theorem BaseR.keep (h : BaseR w F I p L) (hk : ∀ k, k < w.heap.size → (F k ∨ I k ∨ k = p) → w'.heap[k]? = w.heap[k]?) : BaseR w' F I p L := by
  have hlt := h.lt
  obtain ⟨fb, ib, fm, im, hb, h1, h2, h3, h3', h4, h5, h6, h7, h8, h9, h10⟩ := h.ex
  refine ⟨⟨fb, ib, fm, im, (hk p hlt (.inr (.inr rfl))).trans hb, h1, h2, h3, h3', h4, h5.keep (hk _ h5.lt (.inl h1)), h6.keep (hk _ h6.lt (.inl h2)), h7, ?_, ?_, h10⟩, h.nf, h.apart, h.gr, h.nd⟩
  · intro i hi hi'
    obtain ⟨A, n, c, e, hs⟩ := h8 i hi hi'
    exact ⟨A, n, c, e, hs.keep fun k hk' hI => hk k hk' (.inr (.inl hI))⟩
  · intro q hq
    obtain ⟨B, c, e, ho, hF⟩ := h9 q hq
    refine ⟨B, c, e, ho.keep fun k hk' hI => hk k hk' ?_, hF⟩
    rcases hI with hI | hI
    · exact .inr (.inl hI)
    · exact .inl (hF k hI)
theorem BaseR.below (h : BaseR w F I p L) (hb : Below w.heap.size w w') : BaseR w' F I p L := h.keep fun k hk _ => hb.block k hk
theorem BaseR.alloc (h : BaseR w F I p L) (o : Obj) : BaseR (w.alloc o) F I p L := h.below ((Below.refl _ _).alloc (Nat.le_refl _) _)
end
theorem print_inj {a b : Atm} (ha : groundP a = true) (hb : groundP b = true) (h : (printAtomS a).1 = (printAtomS b).1) : a = b := by
  have e : ∀ {a : Atm}, groundP a = true → parseAtomS (printAtomS a).1 = (a, 0) := by
    intro a ha
    have has := ground_atomS ha
    have h2 : (printAtomS a).2 = 0 := by unfold printAtomS; rw [has]; rfl
    have hl : (printAtomS a).1.length ≤ 4096 := by
      have := prAtom_len has
      unfold printAtomS
      rw [has]
      simp only [Bool.not_true, Bool.false_eq_true, if_false]
      omega
    exact trip_atom a h2 hl
  have h1 := e ha
  have h2 := e hb
  rw [h, h2] at h1
  injection h1 with h1
  exact h1.symm
theorem print_not (a : Atm) (h : atomS a = false) : (printAtomS a).1 = [] := by unfold printAtomS; rw [h]; rfl
theorem print_len {a : Atm} (h : groundP a = true) : (printAtomS a).1 ≠ [] := by
  intro he
  have : ∀ {a : Atm}, atomS a = true → (prAtom a) ≠ [] := by
    intro a ha h
    unfold prAtom at h
    split at h
    · rw [atomS] at ha
      simp only [Bool.and_eq_true] at ha
      have := ha.1.1
      rw [h] at this
      revert this; decide
    · simp at h
  unfold printAtomS at he
  rw [ground_atomS h] at he
  exact this (ground_atomS h) he
theorem has_key {L : List Atm} (hg : Gr L) {fm : List (Bs × Value)} (hk : fm.map (·.1) = L.map (fun a => (printAtomS a).1)) (a : Atm) (ha : groundP a = true ∨ a ∉ L) : (getM fm (printAtomS a).1).isSome = L.contains a := by
  rw [Bool.eq_iff_iff, getM_mem, hk, List.contains_iff_mem, List.mem_map]
  constructor
  · rintro ⟨b, hb, e⟩
    rcases ha with ha | ha
    · rw [← print_inj (hg b hb) ha e]; exact hb
    · exfalso
      by_cases hs : atomS a = true
      · have h1 : parseAtomS (printAtomS b).1 = (b, 0) := by
          have has := ground_atomS (hg b hb)
          have hl := prAtom_len has
          exact trip_atom b (by unfold printAtomS; rw [has]; rfl) (by unfold printAtomS; rw [has]; simp only [Bool.not_true, Bool.false_eq_true, if_false]; omega)
        have h2 : parseAtomS (printAtomS a).1 = (a, 0) := by
          have hl := prAtom_len hs
          exact trip_atom a (by unfold printAtomS; rw [hs]; rfl) (by unfold printAtomS; rw [hs]; simp only [Bool.not_true, Bool.false_eq_true, if_false]; omega)
        rw [e, h2] at h1
        injection h1 with h1
        exact ha (by rw [h1]; exact hb)
      · rw [print_not a (by simpa using hs)] at e
        exact print_len (hg b hb) e
  · intro h
    exact ⟨a, h, rfl⟩
end Go.Proofs.YtkjoaodoioicpaaGreatDoor
namespace Go.Proofs.YtkjoaodoioicpaaGreatDoor
open Go.RowKit Go.Maps
theorem lawS : Keyed Tryz.prog 9 := string_keyed Tryz.underlying9
theorem zeroI (w : World) : (zeroValue 3).run Tryz.prog w = .ok (.int .i64 0) w := by kernel_rfl
def MapR (w : World) (b : Nat) (m : KMap) : Prop :=
  ∃ D : DataW Unit, w.ownsMap Tryz.prog 9 (plainElem Tryz.prog 3) b m.length D ∧ (∀ s, Maps.has D (.string s) = (getK m s).isSome) ∧
    (∀ s, D.atKey (.string s) (.lit (.int .i64 0)) = .lit (.int .i64 (getV m s))) ∧ Maps.size D = m.length
theorem own_tight {P : Program} {k : TypeId} {R : Value → Option (DataW Unit × List MemPlace)} {w : World} {b n : Nat} {D : DataW Unit} (h : w.ownsMap P k R b n D) : w.ownsMap P k R b (Maps.size D) D := by
  obtain ⟨es, clock, hb, F, _, rfl⟩ := h
  exact ⟨es, clock, hb, F, by simp [Maps.size, length_sorted], rfl⟩
theorem MapR.lt {w : World} {b : Nat} {m : KMap} (h : MapR w b m) : b < w.heap.size := by
  obtain ⟨D, ho, _⟩ := h
  exact ho.lt
theorem MapR.keep {w w' : World} {b : Nat} {m : KMap} (h : MapR w b m) (hk : w'.heap[b]? = w.heap[b]?) : MapR w' b m := by
  obtain ⟨D, ⟨es, clock, hb, F, hs, hD⟩, h1, h2, h3⟩ := h
  exact ⟨D, ⟨es, clock, hk.trans hb, F, hs, hD⟩, h1, h2, h3⟩
theorem MapR.below {w w' : World} {b : Nat} {m : KMap} (h : MapR w b m) (hb : Below w.heap.size w w') : MapR w' b m := h.keep (hb.block b h.lt)
theorem MapR.alloc {w : World} {b : Nat} {m : KMap} (h : MapR w b m) (o : Obj) : MapR (w.alloc o) b m := h.below ((Below.refl _ _).alloc (Nat.le_refl _) _)
theorem MapR.made (w : World) : MapR (w.alloc (.map #[] 0)) w.heap.size [] :=
  ⟨.map [], World.ownsMap_made _ _ _ _, fun s => rfl, fun s => by simp [DataW.atKey, getV, getK], rfl⟩
theorem setK_len (m : KMap) (s : Bs) (v : Int) : (setK m s v).length = if (getK m s).isSome then m.length else m.length + 1 := by
  rw [len_keys, keys_set]
  by_cases h : s ∈ keysK m
  · rw [if_pos h, if_pos ((getK_mem m s).2 h), len_keys]
  · rw [if_neg h, if_neg (fun x => h ((getK_mem m s).1 x)), len_keys]; simp
theorem MapR.put {w w' : World} {b n : Nat} {m : KMap} {D : DataW Unit} (hD : w.ownsMap Tryz.prog 9 (plainElem Tryz.prog 3) b m.length D) (h1 : ∀ s, Maps.has D (.string s) = (getK m s).isSome)
    (h2 : ∀ s, D.atKey (.string s) (.lit (.int .i64 0)) = .lit (.int .i64 (getV m s))) (h3 : Maps.size D = m.length) (s : Bs) (v : Int) (ho : w'.ownsMap Tryz.prog 9 (plainElem Tryz.prog 3) b n (D.put (.string s) (.lit (.int .i64 v)))) : MapR w' b (setK m s v) := by
  have ht := hD.tidy lawS
  have hkl : WideAt.IsKeyLit (.string s) := trivial
  have hsz : Maps.size (D.put (.string s) (.lit (.int .i64 v))) = (setK m s v).length := by rw [size_put ht, h1, h3, setK_len]
  refine ⟨_, by rw [← hsz]; exact own_tight ho, fun t => ?_, fun t => ?_, hsz⟩
  · rw [getK_set]
    by_cases hst : s = t
    · subst hst
      rw [if_pos rfl, has_put_same ht.isMap hkl]; rfl
    · rw [if_neg hst, has_put_other (fun e => hst (by injection e with e; exact e.symm)), h1]
  · rw [getV_set]
    by_cases hst : s = t
    · subst hst
      rw [if_pos rfl, atKey_put_same ht.isMap hkl]
    · rw [if_neg hst, atKey_put_other (fun e => hst (by injection e with e; exact e.symm)), h2]
section
variable {ops : Array Oper} {rest : List Oper} {o : Oper} {a : Act} {Q : Exit → Act → World → Prop} {w : World} {b : Nat} {m : KMap}
theorem wpList_lookK (hg : o.guard = none) (x y : Operand) (hop : o.op = Op.lookup 94 x y false) (hx : a.eval x = .map (some b)) (s : Bs) (hy : a.eval y = .string ⟨s.toArray⟩) (hm : MapR w b m) (hs : s.length ≤ 9223372036854775807)
    (h : wpList Tryz.prog ops Q rest (a.put o.dst (.int .i64 (getV m s))) w) : wpList Tryz.prog ops Q (o :: rest) a w := by
  obtain ⟨D, ho, h1, h2, h3⟩ := hm
  refine wpList_lookup_own_int w hg x y 94 hop 9 3 .i64 lawS Tryz.underlying94 Tryz.underlying3 (zeroI w) b _ D hx ho _ (.string s) hy (WideMaps.keyOf_string_mk Tryz.underlying9 (s := ⟨s.toArray⟩) (by simpa [ByteArray.size, maxLen] using hs)) (fun c hat _ => ?_)
  rw [h2] at hat
  injection hat with hat
  injection hat with _ hat
  rw [← hat]
  exact h
theorem wpList_lookKok (hg : o.guard = none) (x y : Operand) (hop : o.op = Op.lookup 94 x y true) (hx : a.eval x = .map (some b)) (s : Bs) (hy : a.eval y = .string ⟨s.toArray⟩) (hm : MapR w b m) (hs : s.length ≤ 9223372036854775807)
    (h : wpList Tryz.prog ops Q rest (a.put o.dst (.tuple #[.int .i64 (getV m s), .bool (getK m s).isSome])) w) : wpList Tryz.prog ops Q (o :: rest) a w := by
  obtain ⟨D, ho, h1, h2, h3⟩ := hm
  refine wpList_lookup_own_ok_int w hg x y 94 hop 9 3 .i64 lawS Tryz.underlying94 Tryz.underlying3 (zeroI w) b _ D hx ho _ (.string s) hy (WideMaps.keyOf_string_mk Tryz.underlying9 (s := ⟨s.toArray⟩) (by simpa [ByteArray.size, maxLen] using hs)) (fun c hat _ => ?_)
  rw [h2] at hat
  injection hat with hat
  injection hat with _ hat
  rw [← hat, h1]
  exact h
theorem wpList_updK (hg : o.guard = none) (x y z : Operand) (hop : o.op = Op.mapUpdate 94 x y z) (hx : a.eval x = .map (some b)) (s : Bs) (hy : a.eval y = .string ⟨s.toArray⟩) (v : Int) (hz : a.eval z = .int .i64 v) (hm : MapR w b m)
    (hs : s.length ≤ 9223372036854775807) (hv : -9223372036854775808 ≤ v ∧ v ≤ 9223372036854775807) (hl : m.length < 9223372036854775807)
    (h : ∀ w', MapR w' b (setK m s v) → w.grownBy w' (some b) → wpList Tryz.prog ops Q rest (a.put o.dst undef) w') : wpList Tryz.prog ops Q (o :: rest) a w := by
  obtain ⟨D, ho, h1, h2, h3⟩ := hm
  refine wpList_mapUpdate_own w hg x y z 94 hop 9 3 lawS Tryz.underlying94 _ b _ D hx ho (by simpa [maxLen] using hl) _ _ (.string s) hy hz (WideMaps.keyOf_string_mk Tryz.underlying9 (s := ⟨s.toArray⟩) (by simpa [ByteArray.size, maxLen] using hs)) (.lit (.int .i64 v)) [] (plainElem_int Tryz.underlying3 (WalkArith.wf_i64 (by omega))) (fun w' ho' hg' => h w' (MapR.put ho h1 h2 h3 s v ho') hg')
theorem wpList_lenK (hg : o.guard = none) (x : Operand) (hop : o.op = Op.call { callee := Callee.builtin Builtin.len, args := #[x], argTypes := #[94] }) (hx : a.eval x = .map (some b)) (hm : MapR w b m)
    (h : wpList Tryz.prog ops Q rest (a.put o.dst (.int .i64 m.length)) w) : wpList Tryz.prog ops Q (o :: rest) a w := by
  obtain ⟨D, ho, h1, h2, h3⟩ := hm
  refine wpList_len_own w hg x 94 hop 9 3 Tryz.underlying94 _ b _ D hx ho ?_
  rw [h3]
  exact h
end
end Go.Proofs.YtkjoaodoioicpaaGreatDoor
