/- Query (package licitlaw54): a part of the proofs of its laws; see the law's own text, which comes last in 'order'. No conditions of its own. -/
import Derived.Test.YtkjoaodoioicpaaGreatDoorWL11
import Derived.Test.YtkjoaodoioicpaaGreatDoorWL12
set_option linter.unusedVariables false
set_option linter.unusedSimpArgs false
namespace Go.Proofs.YtkjoaodoioicpaaGreatDoor
abbrev SortT (l : List Atm) : Prop := l.Pairwise fun a b => ordS a b = -1
theorem ordS_tr {a b c : Atm} (h1 : ordS a b = -1) (h2 : ordS b c = -1) : ordS a c = -1 := by
  rw [ordS_key] at *
  exact ordT.tr _ _ _ h1 h2
theorem ordS_irr (a : Atm) : ordS a a = 0 := by rw [ordS_key, ordT.eq0]
theorem ordS_neg (a b : Atm) : ordS b a = - ordS a b := by rw [ordS_key, ordS_key]; exact ordT.neg _ _
theorem ordS_tot {a b : Atm} (ha : atomS a = true) (hb : atomS b = true) : ordS a b = -1 ∨ a = b ∨ ordS b a = -1 := by
  have hn := ordS_neg a b
  have hr : ordS a b = -1 ∨ ordS a b = 0 ∨ ordS a b = 1 := by rw [ordS_key]; exact ordT.rng _ _
  rcases hr with h | h | h
  · exact .inl h
  · right; left
    rw [ordS_key, ordT.eq0] at h
    exact keyT_inj ha hb h
  · right; right; omega
theorem mem_insT (a x : Atm) (l : List Atm) : x ∈ insT a l ↔ x = a ∨ x ∈ l := by
  induction l with
  | nil => simp [insT]
  | cons y r ih =>
    rw [insT]
    split
    · rw [List.mem_cons, ih, List.mem_cons]
      constructor
      · rintro (h | h | h)
        · exact .inr (.inl h)
        · exact .inl h
        · exact .inr (.inr h)
      · rintro (h | h | h)
        · exact .inr (.inl h)
        · exact .inl h
        · exact .inr (.inr h)
    · simp
theorem sort_insT (a : Atm) (l : List Atm) (ha : atomS a = true) (hl : ∀ x ∈ l, atomS x = true) (hn : a ∉ l) (h : SortT l) : SortT (insT a l) := by
  induction l with
  | nil => simp [insT]
  | cons y r ih =>
    have hp := List.pairwise_cons.1 h
    have hy := hl y List.mem_cons_self
    have hne : a ≠ y := fun e => hn (by rw [e]; exact List.mem_cons_self)
    rw [insT]
    split
    · rename_i hlt
      have hya : ordS y a = -1 := by
        have hr : ordS y a = -1 ∨ ordS y a = 0 ∨ ordS y a = 1 := by rw [ordS_key]; exact ordT.rng _ _
        omega
      refine List.pairwise_cons.2 ⟨fun x hx => ?_, ih (fun x hx => hl x (List.mem_cons_of_mem _ hx)) (fun hm => hn (List.mem_cons_of_mem _ hm)) hp.2⟩
      rcases (mem_insT a x r).1 hx with rfl | hx
      · exact hya
      · exact hp.1 x hx
    · rename_i hlt
      have hay : ordS a y = -1 := by
        rcases ordS_tot ha hy with h | h | h
        · exact h
        · exact absurd h hne
        · omega
      refine List.pairwise_cons.2 ⟨fun x hx => ?_, h⟩
      rcases List.mem_cons.1 hx with rfl | hx
      · exact hay
      · exact ordS_tr hay (hp.1 x hx)
theorem len_insT (a : Atm) (l : List Atm) : (insT a l).length = l.length + 1 := by
  induction l with
  | nil => rfl
  | cons y r ih =>
    rw [insT]
    split
    · simp [ih]
    · simp
theorem mem_sortT (l : List Atm) (x : Atm) : x ∈ sortT l ↔ x ∈ l := by
  induction l with
  | nil => simp [sortT]
  | cons a r ih =>
    have : sortT (a :: r) = insT a (sortT r) := rfl
    rw [this, mem_insT, ih, List.mem_cons]
theorem len_sortT (l : List Atm) : (sortT l).length = l.length := by
  induction l with
  | nil => rfl
  | cons a r ih =>
    have : sortT (a :: r) = insT a (sortT r) := rfl
    rw [this, len_insT, ih, List.length_cons]
theorem sort_sortT {l : List Atm} (hl : ∀ x ∈ l, atomS x = true) (hn : l.Nodup) : SortT (sortT l) := by
  induction l with
  | nil => exact List.Pairwise.nil
  | cons a r ih =>
    have : sortT (a :: r) = insT a (sortT r) := rfl
    rw [this]
    rw [List.nodup_cons] at hn
    exact sort_insT a _ (hl a List.mem_cons_self) (fun x hx => hl x (List.mem_cons_of_mem _ ((mem_sortT r x).1 hx))) (fun hm => hn.1 ((mem_sortT r a).1 hm)) (ih (fun x hx => hl x (List.mem_cons_of_mem _ hx)) hn.2)
theorem sortT_unique (l : List Atm) : ∀ t, SortT l → SortT t → (∀ s, s ∈ l ↔ s ∈ t) → l = t := by
  induction l with
  | nil =>
    intro t _ _ h
    cases t with
    | nil => rfl
    | cons b u => exact absurd ((h b).2 List.mem_cons_self) (by simp)
  | cons a r ih =>
    intro t h1 h2 h
    cases t with
    | nil => exact absurd ((h a).1 List.mem_cons_self) (by simp)
    | cons b u =>
      have p1 := List.pairwise_cons.1 h1
      have p2 := List.pairwise_cons.1 h2
      have irr : ∀ x, ordS x x = -1 → False := fun x hx => by rw [ordS_irr] at hx; omega
      have hab : a = b := by
        rcases List.mem_cons.1 ((h a).1 List.mem_cons_self) with e | e
        · exact e
        · rcases List.mem_cons.1 ((h b).2 List.mem_cons_self) with e' | e'
          · exact e'.symm
          · exact absurd (ordS_tr (p1.1 b e') (p2.1 a e)) (irr a)
      subst hab
      congr 1
      refine ih u p1.2 p2.2 fun s => ⟨fun hs => ?_, fun hs => ?_⟩
      · rcases List.mem_cons.1 ((h s).1 (List.mem_cons_of_mem _ hs)) with e | e
        · rw [e] at hs; exact absurd (p1.1 a hs) (irr a)
        · exact e
      · rcases List.mem_cons.1 ((h s).2 (List.mem_cons_of_mem _ hs)) with e | e
        · rw [e] at hs; exact absurd (p2.1 a hs) (irr a)
        · exact e
theorem addQ_mem {b : List Atm} {a x : Atm} : x ∈ addQ b a ↔ x ∈ b ∨ x = a := by
  unfold addQ
  split
  · rename_i h
    constructor
    · exact .inl
    · rintro (h' | rfl)
      · exact h'
      · simpa using h
  · simp
theorem addQ_nodup {b : List Atm} (h : b.Nodup) (a : Atm) : (addQ b a).Nodup := by
  unfold addQ
  split
  · exact h
  · rename_i hc
    rw [List.nodup_append]
    refine ⟨h, by simp, fun x hx y hy e => ?_⟩
    rw [List.mem_singleton] at hy
    subst hy
    subst e
    exact hc (by simpa using hx)
theorem given_fold (l : List Atm) : ∀ b : List Atm, b.Nodup → (l.foldl addQ b).Nodup ∧ ∀ x, x ∈ l.foldl addQ b ↔ x ∈ b ∨ x ∈ l := by
  induction l with
  | nil => intro b h; exact ⟨h, fun x => by simp⟩
  | cons a r ih =>
    intro b h
    obtain ⟨h1, h2⟩ := ih (addQ b a) (addQ_nodup h a)
    refine ⟨h1, fun x => ?_⟩
    rw [List.foldl_cons, h2, addQ_mem, List.mem_cons]
    constructor
    · rintro ((h | h) | h)
      · exact .inl h
      · exact .inr (.inl h)
      · exact .inr (.inr h)
    · rintro (h | h | h)
      · exact .inl (.inl h)
      · exact .inl (.inr h)
      · exact .inr h
theorem given_nodup (l : List Atm) : (givenS l).Nodup := (given_fold l [] List.nodup_nil).1
theorem mem_given (l : List Atm) (x : Atm) : x ∈ givenS l ↔ x ∈ l := by
  have := (given_fold l [] List.nodup_nil).2 x
  unfold givenS
  rw [this]
  simp
theorem safe_safe {r : Rul} (hs : safeS r = true) : SafeR r := by
  unfold safeS at hs
  rw [List.all_eq_true] at hs
  have key : ∀ s, s ∈ varsS r → ∃ x ∈ r.body, positiveS x = true ∧ hasV x.atom.args s := by
    intro s hm
    have := hs s hm
    have hb : s ∈ boundS r := by simpa using this
    unfold boundS at hb
    rw [mem_addB] at hb
    rcases hb with hb | ⟨x, hx, hv⟩
    · cases hb
    · rw [List.mem_filter] at hx
      refine ⟨x, hx.1, ?_, hv⟩
      have := hx.2
      unfold posS compsS at this
      unfold positiveS
      simpa using this
  have mk : ∀ l : List Arg, (∀ s, hasV l s → s ∈ varsS r) → SafeV r l := by
    intro l hl a ha hk
    obtain ⟨x, hx, hp, y, hy, hyk, hyt⟩ := key a.text (hl a.text ⟨a, ha, hk, rfl⟩)
    exact ⟨x, hx, hp, y, hy, hyk, hyt⟩
  constructor
  · refine mk _ fun s hv => ?_
    unfold varsS
    rw [mem_addB, mem_addV]
    exact .inl (.inr hv)
  · intro x hx
    refine mk _ fun s hv => ?_
    unfold varsS
    rw [mem_addB]
    exact .inr ⟨x, hx, hv⟩
theorem rule_head {r : Rul} (h : ruleS r = true) : atomS r.head = true := by
  unfold ruleS at h
  simp only [Bool.and_eq_true] at h
  exact h.1.1.1
theorem checked_ok {l : List Rul} (hc : (checkS53 l).2 = 0) : ∀ r ∈ l, RuleOk r := fun r hr => by
  obtain ⟨h1, h2⟩ := ((checkS_ok l).1 hc).2.1 r hr
  exact ⟨safe_safe h2, rule_head h1⟩
structure Rows (l : List Rul) (m : KMap) (R : List (List Bs)) : Prop where
  meets : Meets l (getV m)
  pos : ∀ s, 0 ≤ getV m s
  lt : ∀ r ∈ l, Lv m r.head.name < R.length
  row : ∀ (i : Nat) (h : i < R.length), ∀ r ∈ l, r.head.name ∈ R[i] ↔ Lv m r.head.name = i
theorem mem_own {l : List Rul} {names : List Bs} {r : Rul} : r ∈ ownS l names ↔ r ∈ l ∧ r.head.name ∈ names := by
  unfold ownS
  rw [List.mem_filter]
  simp
theorem lit_neg {x : Ltl} (hp : positiveS x = false) (ho : x.op.isEmpty = true) : x.neg = true ∧ compsS x = false := by
  unfold positiveS at hp
  unfold compsS
  rw [ho] at hp ⊢
  simpa using hp
theorem Rows.level {l : List Rul} {m : KMap} {R : List (List Bs)} (h : Rows l m R) {r : Rul} (hr : r ∈ l) {x : Ltl} (hx : x ∈ r.body) (hc : compsS x = false) : Lv m x.atom.name + (if x.neg then 1 else 0) ≤ Lv m r.head.name := by
  have := h.meets r hr x hx hc
  have h0 := h.pos x.atom.name
  have h1 := h.pos r.head.name
  unfold Lv
  split at this
  · rename_i hn; rw [if_pos hn]; omega
  · rename_i hn; rw [if_neg hn]; omega
theorem Rows.neg {l : List Rul} {m : KMap} {R : List (List Bs)} (h : Rows l m R) {i : Nat} (hi : i < R.length) : NegOk (ownS l R[i]) := by
  intro r hr x hx hp ho r' hr' e
  obtain ⟨h1, h2⟩ := mem_own.1 hr
  obtain ⟨h3, h4⟩ := mem_own.1 hr'
  have e1 := (h.row i hi r h1).1 h2
  have e2 := (h.row i hi r' h3).1 h4
  obtain ⟨hn, hc⟩ := lit_neg hp ho
  have := h.level h1 hx hc
  rw [hn, if_pos rfl, ← e, e1, e2] at this
  omega
structure MInv (l : List Rul) (m : KMap) (g : List Atm) (i : Nat) (b : List Atm) : Prop where
  nd : b.Nodup
  gr : Gr b
  sub : ∀ a ∈ g, a ∈ b
  heads : ∀ a ∈ b, a ∈ g ∨ ∃ r ∈ l, r.head.name = a.name ∧ Lv m r.head.name < i
  closed : ∀ r ∈ l, Lv m r.head.name < i → ∀ a, Con r b b a → a ∈ b
  supp : ∀ a ∈ b, a ∈ g ∨ ∃ r ∈ l, Con r b b a
end Go.Proofs.YtkjoaodoioicpaaGreatDoor
namespace Go.Proofs.YtkjoaodoioicpaaGreatDoor
theorem inv_nil : Inv [] [] := ⟨(fun b hb => nomatch hb), fun s v h => by simp [getK] at h⟩
def bodyAtoms (l : List Ltl) : List Atm := (l.filter fun l => !compsS l).map (·.atom)
theorem inv_put {m : KMap} {seen : List Atm} (h : Inv m seen) {a : Atm} (hc : Cons (seen ++ [a])) : Inv (setK m a.name a.args.length) (seen ++ [a]) :=
  h.add a ((cons_snoc (cons_sub (fun x hx => List.mem_append_left _ hx) hc)).1 hc)
theorem arX_inv : ∀ (body : List Ltl) (m : KMap) (seen : List Atm), Inv m seen → Cons (seen ++ bodyAtoms body) → Inv (arX m body) (seen ++ bodyAtoms body) := by
  intro body
  induction body with
  | nil => intro m seen h _; simpa [arX, bodyAtoms] using h
  | cons x r ih =>
    intro m seen h hc
    rw [arX]
    by_cases ho : x.op.isEmpty = true
    · rw [if_pos ho]
      have e : bodyAtoms (x :: r) = x.atom :: bodyAtoms r := by
        unfold bodyAtoms
        rw [List.filter_cons, if_pos (by unfold compsS; rw [ho]; rfl), List.map_cons]
      have e2 : seen ++ bodyAtoms (x :: r) = seen ++ [x.atom] ++ bodyAtoms r := by rw [e]; simp
      rw [e2] at hc ⊢
      exact ih _ _ (inv_put h (cons_sub (fun y hy => List.mem_append_left _ hy) hc)) hc
    · rw [if_neg ho]
      have e : bodyAtoms (x :: r) = bodyAtoms r := by
        unfold bodyAtoms
        rw [List.filter_cons, if_neg (by unfold compsS; simpa using ho)]
      rw [e] at hc ⊢
      exact ih m seen h hc
theorem arR_inv : ∀ (l : List Rul) (m : KMap) (seen : List Atm), Inv m seen → Cons (seen ++ allAtoms l) → Inv (arR m l) (seen ++ allAtoms l) := by
  intro l
  induction l with
  | nil => intro m seen h _; simpa [arR, allAtoms] using h
  | cons r t ih =>
    intro m seen h hc
    have e2 : seen ++ allAtoms (r :: t) = seen ++ [r.head] ++ bodyAtoms r.body ++ allAtoms t := by simp [allAtoms, atomsS, bodyAtoms]
    rw [e2] at hc ⊢
    rw [arR]
    have h1 := inv_put h (a := r.head) (cons_sub (fun y hy => by rw [List.append_assoc, List.append_assoc]; rw [List.mem_append] at hy ⊢; rcases hy with hy | hy; exact .inl hy; right; rw [List.mem_singleton.1 hy]; simp) hc)
    have h2 := arX_inv r.body _ _ h1 (cons_sub (fun y hy => List.mem_append_left _ hy) hc)
    exact ih _ _ h2 hc
theorem chkF_ok : ∀ (facts : List Atm) (m : KMap) (seen : List Atm) (i : Nat), Inv m seen → Cons seen → ((chkF m facts i).2 = 0 ↔ (∀ a ∈ facts, groundP a = true) ∧ Cons (seen ++ facts)) := by
  intro facts
  induction facts with
  | nil => intro m seen i _ hc; simp [chkF, hc]
  | cons a r ih =>
    intro m seen i h hc
    have hb := h.bad a
    have e2 : seen ++ a :: r = seen ++ [a] ++ r := by simp
    rw [chkF, e2, List.forall_mem_cons]
    cases hg : groundP a
    · simp
    · simp only [Bool.not_true, Bool.false_eq_true, if_false, true_and]
      cases hk : getK m a.name with
      | none =>
        rw [hk] at hb
        simp only
        have hc2 := (cons_snoc hc).2 hb
        exact ih _ _ _ (h.add a hb) hc2
      | some n =>
        rw [hk] at hb
        simp only at hb ⊢
        by_cases hn : n ≠ a.args.length
        · rw [if_pos hn]
          rw [decide_eq_true hn] at hb
          simp only [show ((9 : Int) = 0) = False by simp, false_iff]
          rintro ⟨-, hx⟩
          have := (cons_snoc hc).1 (cons_sub (fun y hy => List.mem_append_left _ hy) hx)
          rw [hb] at this
          cases this
        · rw [if_neg hn]
          rw [decide_eq_false hn] at hb
          exact ih _ _ _ (h.add a hb) ((cons_snoc hc).2 hb)
theorem checkQ_ok (l : List Rul) (facts : List Atm) : (checkQ l facts).2 = 0 ↔ (checkS53 l).2 = 0 ∧ facts.length ≤ 1024 ∧ (∀ a ∈ facts, groundP a = true) ∧ Cons (allAtoms l ++ facts) := by
  unfold checkQ
  by_cases hc : (checkS53 l).2 ≠ 0
  · rw [if_pos hc]
    constructor
    · intro h; exact absurd h hc
    · intro h; exact absurd h.1 hc
  · rw [if_neg hc]
    have hc := Classical.not_not.1 hc
    by_cases hl : 1024 < facts.length
    · rw [if_pos hl]; simp; omega
    · rw [if_neg hl]
      have hcons := ((checkS_ok l).1 hc).2.2.1
      have h1 := arR_inv l [] [] inv_nil (by simpa using hcons)
      rw [List.nil_append] at h1
      rw [chkF_ok facts _ _ _ h1 hcons]
      constructor
      · intro h; exact ⟨hc, by omega, h⟩
      · intro h; exact h.2.2
theorem modelS_ok {l : List Rul} {facts : List Atm} (h : (modelS l facts).2.2 = 0) : (checkQ l facts).2 = 0 ∧ modGo ((givenS facts).length + 1024) l (strataS l).1 (givenS facts) = some (modelS l facts).1 := by
  unfold modelS at h ⊢
  by_cases hc : (checkQ l facts).2 ≠ 0
  · rw [if_pos hc] at h; exact absurd h hc
  · rw [if_neg hc] at h ⊢
    refine ⟨Classical.not_not.1 hc, ?_⟩
    cases hm : modGo ((givenS facts).length + 1024) l (strataS l).1 (givenS facts) with
    | none => rw [hm] at h; simp at h
    | some b => rfl
theorem gr_given {facts : List Atm} (h : ∀ a ∈ facts, groundP a = true) : Gr (givenS facts) := fun a ha => h a ((mem_given facts a).1 ha)
structure Mod (l : List Rul) (facts b : List Atm) : Prop where
  nd : b.Nodup
  gr : Gr b
  sub : ∀ a ∈ facts, a ∈ b
  closed : ∀ r ∈ l, ∀ a, Con r b b a → a ∈ b
  supp : ∀ a ∈ b, a ∈ facts ∨ ∃ r ∈ l, Con r b b a
  len : b.length ≤ facts.length + 1024
theorem given_len (l : List Atm) : (givenS l).length ≤ l.length := nodup_le _ _ (given_nodup l) fun a ha => (mem_given l a).1 ha
theorem ground_atomS {a : Atm} (h : groundP a = true) : atomS a = true := by
  unfold groundP at h
  rw [Bool.and_eq_true] at h
  exact h.1
end Go.Proofs.YtkjoaodoioicpaaGreatDoor
namespace Go.Proofs.YtkjoaodoioicpaaGreatDoor
def vX : Arg := ⟨1, [88], 0⟩
def vY : Arg := ⟨1, [89], 0⟩
def sPair : Bs := [112, 97, 105, 114]
def pairR : Rul := ⟨⟨sPair, [vX, vY]⟩, [⟨false, [], ⟨[97], [vX]⟩⟩, ⟨false, [], ⟨[98], [vY]⟩⟩]⟩
def txPair : Bs := [112, 97, 105, 114, 40, 88, 44, 32, 89, 41, 32, 58, 45, 32, 97, 40, 88, 41, 44, 32, 98, 40, 89, 41, 46, 10]
theorem pair_parse : rparseS txPair = ([pairR], 0, 0) := by decide +kernel
theorem pair_check : checkS53 [pairR] = (-1, 0) := by decide +kernel
theorem pair_strata : strataS [pairR] = ([[[97], [98], sPair]], -1, 0) := by decide +kernel
def fa (x : Arg) : Atm := ⟨[97], [x]⟩
def fb (x : Arg) : Atm := ⟨[98], [x]⟩
def fp (x y : Arg) : Atm := ⟨sPair, [x, y]⟩
theorem ground_one {n : Bs} (hn : predS n = true) {x : Arg} (hx : OkC x) : groundP ⟨n, [x]⟩ = true := by
  unfold groundP atomS argsS
  simp only [List.all_cons, List.all_nil, List.any_cons, List.any_nil, hn, hx.1, List.length_cons, List.length_nil]
  have : (x.kind == 1) = false := by simpa using hx.2
  rw [this]
  rfl
theorem pair_der {own : List Rul} (ho : ∀ r, r ∈ own ↔ r = pairR) {g : List Atm} (hg : ∀ a ∈ g, a.name ≠ sPair) (a : Atm) : Der own g a ↔ a ∈ g ∨ ∃ x y, fa x ∈ g ∧ fb y ∈ g ∧ a = fp x y := by
  constructor
  · intro h
    induction h with
    | base hm => exact .inl hm
    | step θ hr hp hn hc ih =>
      have hr := (ho _).1 hr
      subst hr
      right
      have h1 := ih ⟨false, [], ⟨[97], [vX]⟩⟩ (by simp [pairR]) (by decide)
      have h2 := ih ⟨false, [], ⟨[98], [vY]⟩⟩ (by simp [pairR]) (by decide)
      refine ⟨θ [88], θ [89], ?_, ?_, rfl⟩
      · rcases h1 with h1 | ⟨x, y, -, -, e⟩
        · exact h1
        · exact absurd (congrArg Atm.name e) (by show ([97] : Bs) ≠ sPair; decide)
      · rcases h2 with h2 | ⟨x, y, -, -, e⟩
        · exact h2
        · exact absurd (congrArg Atm.name e) (by show ([98] : Bs) ≠ sPair; decide)
  · rintro (h | ⟨x, y, h1, h2, rfl⟩)
    · exact .base h
    · have := Der.step (own := own) (b0 := g) (r := pairR) (fun s => if s = [88] then x else y) ((ho _).2 rfl)
        (fun l hl hp => by
          simp only [pairR, List.mem_cons, List.mem_nil_iff, or_false] at hl
          rcases hl with rfl | rfl
          · exact .base h1
          · exact .base h2)
        (fun l hl hp hop => by
          simp only [pairR, List.mem_cons, List.mem_nil_iff, or_false] at hl
          rcases hl with rfl | rfl <;> cases hp)
        (fun l hl hop => by
          simp only [pairR, List.mem_cons, List.mem_nil_iff, or_false] at hl
          rcases hl with rfl | rfl <;> cases hop)
      exact this
def allT (A B : List Arg) : List Atm := A.map fa ++ B.map fb ++ A.flatMap fun x => B.map (fp x)
theorem pairs_len (A B : List Arg) : (A.flatMap fun x => B.map (fp x)).length = A.length * B.length := by
  induction A with
  | nil => simp
  | cons a r ih => rw [List.flatMap_cons, List.length_append, ih, List.length_map, List.length_cons, Nat.succ_mul]; omega
theorem allT_len (A B : List Arg) : (allT A B).length = A.length + B.length + A.length * B.length := by
  unfold allT
  rw [List.length_append, List.length_append, pairs_len, List.length_map, List.length_map]
theorem mem_allT (A B : List Arg) (a : Atm) : a ∈ allT A B ↔ (∃ x ∈ A, a = fa x) ∨ (∃ y ∈ B, a = fb y) ∨ ∃ x ∈ A, ∃ y ∈ B, a = fp x y := by
  unfold allT
  simp only [List.mem_append, List.mem_map, List.mem_flatMap]
  constructor
  · rintro ((⟨x, hx, rfl⟩ | ⟨y, hy, rfl⟩) | ⟨x, hx, y, hy, rfl⟩)
    · exact .inl ⟨x, hx, rfl⟩
    · exact .inr (.inl ⟨y, hy, rfl⟩)
    · exact .inr (.inr ⟨x, hx, y, hy, rfl⟩)
  · rintro (⟨x, hx, rfl⟩ | ⟨y, hy, rfl⟩ | ⟨x, hx, y, hy, rfl⟩)
    · exact .inl (.inl ⟨x, hx, rfl⟩)
    · exact .inl (.inr ⟨y, hy, rfl⟩)
    · exact .inr ⟨x, hx, y, hy, rfl⟩
theorem map_nodup {f : Arg → Atm} (hf : ∀ x y, f x = f y → x = y) {A : List Arg} (h : A.Nodup) : (A.map f).Nodup := by
  unfold List.Nodup at *
  rw [List.pairwise_map]
  exact h.imp fun hn e => hn (hf _ _ e)
theorem pairs_nodup {A B : List Arg} (hA : A.Nodup) (hB : B.Nodup) : (A.flatMap fun x => B.map (fp x)).Nodup := by
  induction A with
  | nil => simp
  | cons a r ih =>
    rw [List.nodup_cons] at hA
    rw [List.flatMap_cons, List.nodup_append]
    refine ⟨map_nodup (fun x y e => by injection e with _ e; simpa using e) hB, ih hA.2, ?_⟩
    intro u hu v hv e
    rw [List.mem_map] at hu
    rw [List.mem_flatMap] at hv
    obtain ⟨y, -, rfl⟩ := hu
    obtain ⟨x, hx, hv⟩ := hv
    rw [List.mem_map] at hv
    obtain ⟨z, -, rfl⟩ := hv
    injection e with _ e
    simp only [List.cons.injEq] at e
    exact hA.1 (by rw [e.1]; exact hx)
theorem allT_nodup {A B : List Arg} (hA : A.Nodup) (hB : B.Nodup) : (allT A B).Nodup := by
  unfold allT
  rw [List.nodup_append, List.nodup_append]
  refine ⟨⟨map_nodup (fun x y e => by injection e with _ e; simpa using e) hA, map_nodup (fun x y e => by injection e with _ e; simpa using e) hB, ?_⟩, pairs_nodup hA hB, ?_⟩
  · intro u hu v hv e
    rw [List.mem_map] at hu hv
    obtain ⟨x, -, rfl⟩ := hu
    obtain ⟨y, -, rfl⟩ := hv
    exact absurd (congrArg Atm.name e) (by show ([97] : Bs) ≠ [98]; decide)
  · intro u hu v hv e
    rw [List.mem_flatMap] at hv
    obtain ⟨x, -, hv⟩ := hv
    rw [List.mem_map] at hv
    obtain ⟨y, -, rfl⟩ := hv
    rw [List.mem_append, List.mem_map, List.mem_map] at hu
    rcases hu with ⟨z, -, rfl⟩ | ⟨z, -, rfl⟩
    · exact absurd (congrArg Atm.name e) (by show ([97] : Bs) ≠ sPair; decide)
    · exact absurd (congrArg Atm.name e) (by show ([98] : Bs) ≠ sPair; decide)
theorem limits_law {A B : List Arg} (hA : A.Nodup) (hB : B.Nodup) (oA : ∀ x ∈ A, OkC x) (oB : ∀ y ∈ B, OkC y) {facts : List Atm} (hf : ∀ a, a ∈ facts ↔ (∃ x ∈ A, a = fa x) ∨ ∃ y ∈ B, a = fb y) (hl : facts.length ≤ 1024) :
    if 1024 < A.length * B.length then evalS [pairR] facts = ([], -1, 10) else (evalS [pairR] facts).2 = (-1, 0) ∧ (evalS [pairR] facts).1.length = A.length + B.length + A.length * B.length := by
  have hgr : ∀ a ∈ facts, groundP a = true := by
    intro a ha
    rcases (hf a).1 ha with ⟨x, hx, rfl⟩ | ⟨y, hy, rfl⟩
    · exact ground_one (by decide +kernel) (oA x hx)
    · exact ground_one (by decide +kernel) (oB y hy)
  have hcQ : (checkQ [pairR] facts).2 = 0 := by
    rw [checkQ_ok]
    refine ⟨by rw [pair_check], hl, hgr, ?_⟩
    have key : ∀ a ∈ allAtoms [pairR] ++ facts, a.args.length = if a.name = sPair then 2 else 1 := by
      intro a ha
      rw [List.mem_append] at ha
      rcases ha with ha | ha
      · have e : allAtoms [pairR] = [⟨sPair, [vX, vY]⟩, ⟨[97], [vX]⟩, ⟨[98], [vY]⟩] := by decide +kernel
        rw [e] at ha
        simp only [List.mem_cons, List.mem_nil_iff, or_false] at ha
        rcases ha with rfl | rfl | rfl <;> decide
      · rcases (hf a).1 ha with ⟨x, -, rfl⟩ | ⟨y, -, rfl⟩
        · rw [if_neg (by show ([97] : Bs) ≠ sPair; decide)]; rfl
        · rw [if_neg (by show ([98] : Bs) ≠ sPair; decide)]; rfl
    intro a ha b hb e
    rw [key a ha, key b hb, e]
  have hmg : ∀ a, a ∈ givenS facts ↔ (∃ x ∈ A, a = fa x) ∨ ∃ y ∈ B, a = fb y := fun a => by rw [mem_given, hf]
  have hglen : (givenS facts).length = A.length + B.length := by
    have hn : (A.map fa ++ B.map fb).Nodup := (List.nodup_append.1 (allT_nodup hA hB)).1
    have hm : ∀ a, a ∈ A.map fa ++ B.map fb ↔ (∃ x ∈ A, a = fa x) ∨ ∃ y ∈ B, a = fb y := by
      intro a
      simp only [List.mem_append, List.mem_map]
      constructor
      · rintro (⟨x, hx, rfl⟩ | ⟨x, hx, rfl⟩)
        · exact .inl ⟨x, hx, rfl⟩
        · exact .inr ⟨x, hx, rfl⟩
      · rintro (⟨x, hx, rfl⟩ | ⟨x, hx, rfl⟩)
        · exact .inl ⟨x, hx, rfl⟩
        · exact .inr ⟨x, hx, rfl⟩
    have h1 := nodup_le _ _ (given_nodup facts) (fun a ha => (hm a).2 ((hmg a).1 ha))
    have h2 := nodup_le _ _ hn (fun a ha => (hmg a).2 ((hm a).1 ha))
    rw [List.length_append, List.length_map, List.length_map] at h1 h2
    omega
  have hown : ∀ r, r ∈ ownS [pairR] [[97], [98], sPair] ↔ r = pairR := by
    intro r
    rw [mem_own]
    constructor
    · rintro ⟨h, -⟩; simpa using h
    · rintro rfl; exact ⟨by simp, by decide⟩
  have hder : ∀ a, Der (ownS [pairR] [[97], [98], sPair]) (givenS facts) a ↔ a ∈ allT A B := by
    intro a
    rw [pair_der hown (fun a ha => by
      rcases (hmg a).1 ha with ⟨x, -, rfl⟩ | ⟨y, -, rfl⟩
      · show ([97] : Bs) ≠ sPair; decide
      · show ([98] : Bs) ≠ sPair; decide) a, mem_allT]
    constructor
    · rintro (h | ⟨x, y, h1, h2, rfl⟩)
      · rcases (hmg a).1 h with h | h
        · exact .inl h
        · exact .inr (.inl h)
      · right; right
        rcases (hmg _).1 h1 with ⟨x', hx, e⟩ | ⟨y', hy, e⟩
        · rcases (hmg _).1 h2 with ⟨x2, hx2, e2⟩ | ⟨y', hy, e2⟩
          · exact absurd (congrArg Atm.name e2) (by show ([98] : Bs) ≠ [97]; decide)
          · injection e with _ e
            injection e2 with _ e2
            simp only [List.cons.injEq, and_true] at e e2
            exact ⟨x, by rw [e]; exact hx, y, by rw [e2]; exact hy, rfl⟩
        · exact absurd (congrArg Atm.name e) (by show ([97] : Bs) ≠ [98]; decide)
    · rintro (⟨x, hx, rfl⟩ | ⟨y, hy, rfl⟩ | ⟨x, hx, y, hy, rfl⟩)
      · exact .inl ((hmg _).2 (.inl ⟨x, hx, rfl⟩))
      · exact .inl ((hmg _).2 (.inr ⟨y, hy, rfl⟩))
      · exact .inr ⟨x, y, (hmg _).2 (.inl ⟨x, hx, rfl⟩), (hmg _).2 (.inr ⟨y, hy, rfl⟩), rfl⟩
  have hneg : NegOk (ownS [pairR] [[97], [98], sPair]) := by
    intro r hr l hl hp ho
    have := (hown r).1 hr
    subst this
    simp only [pairR, List.mem_cons, List.mem_nil_iff, or_false] at hl
    rcases hl with rfl | rfl <;> cases hp
  have hok : ∀ r ∈ ownS [pairR] [[97], [98], sPair], RuleOk r := fun r hr => checked_ok (by rw [pair_check]) r (by rw [(hown r).1 hr]; simp)
  have hst := stratum_law hneg hok ((givenS facts).length + 1024) (given_nodup facts) (gr_given hgr) (by omega)
  have hlenT := allT_len A B
  have hmod : modelS [pairR] facts = match satGo ((givenS facts).length + 1024) (ownS [pairR] [[97], [98], sPair]) ((givenS facts).length + 1024 + 2) (givenS facts) with | none => ([], -1, 10) | some b => (b, -1, 0) := by
    unfold modelS
    rw [if_neg (by rw [hcQ]; simp), pair_strata]
    simp only [modGo]
    cases satGo ((givenS facts).length + 1024) (ownS [pairR] [[97], [98], sPair]) ((givenS facts).length + 1024 + 2) (givenS facts) <;> rfl
  cases hs : satGo ((givenS facts).length + 1024) (ownS [pairR] [[97], [98], sPair]) ((givenS facts).length + 1024 + 2) (givenS facts) with
  | none =>
    rw [hs] at hst hmod
    obtain ⟨c, c1, c2, c3⟩ := hst
    have := nodup_le c (allT A B) c1 (fun a ha => (hder a).1 (c2 a ha))
    rw [if_pos (by omega)]
    unfold evalS
    rw [hmod]
    rfl
  | some b =>
    rw [hs] at hst hmod
    obtain ⟨d1, d2, d3⟩ := hst
    have e1 := nodup_le b (allT A B) d1.nd (fun a ha => (hder a).1 ((d3 a).1 ha))
    have e2 := nodup_le (allT A B) b (allT_nodup hA hB) (fun a ha => (d3 a).2 ((hder a).2 ha))
    rw [if_neg (by omega)]
    have e3 : evalS [pairR] facts = (sortT b, -1, 0) := by
      unfold evalS
      rw [hmod]
      rfl
    rw [e3]
    exact ⟨rfl, by simp only; rw [len_sortT]; omega⟩
theorem many_law {facts : List Atm} (hf : ∀ a ∈ facts, groundP a = true ∧ a.args.length = 1) : (evalS [] facts).2 = (-1, if 1024 < facts.length then 10 else 0) := by
  have hc : checkS53 [] = (-1, 0) := by decide +kernel
  have hs : strataS [] = ([], -1, 0) := by decide +kernel
  by_cases hl : 1024 < facts.length
  · have hq : checkQ [] facts = (-1, 10) := by unfold checkQ; rw [hc, if_neg (by simp), if_pos hl]
    have hm : modelS [] facts = ([], -1, 10) := by unfold modelS; rw [hq, if_pos (by simp)]
    unfold evalS
    rw [hm, if_pos (by simp), if_pos hl]
  · have hcQ : (checkQ [] facts).2 = 0 := by
      rw [checkQ_ok]
      refine ⟨by rw [hc], by omega, fun a ha => (hf a ha).1, ?_⟩
      intro a ha b hb _
      have e : allAtoms [] = [] := rfl
      rw [e, List.nil_append] at ha hb
      rw [(hf a ha).2, (hf b hb).2]
    have hm : modelS [] facts = (givenS facts, -1, 0) := by
      unfold modelS
      rw [if_neg (by rw [hcQ]; simp), hs]
      rfl
    unfold evalS
    rw [hm, if_neg (by simp), if_neg hl]
end Go.Proofs.YtkjoaodoioicpaaGreatDoor
namespace Go.Proofs.YtkjoaodoioicpaaGreatDoor
open Go.RowKit
def matchP (q : Plc) (a : Atm) : Bool :=
  a.name == q.name && (a.args.length : Int) == q.arity && (if q.at_ = -1 then q.kind == 0 && q.num == 0 && q.text.isEmpty else decide (0 ≤ q.at_) && (match a.args[q.at_.toNat]? with | some x => x == ⟨q.kind, q.text, q.num⟩ | none => false))
def idxL (L : List Atm) (q : Plc) : List Atm := L.filter (matchP q)
def FactV (w : World) (I : Nat → Prop) (v : Value) (a : Atm) : Prop := ∃ A n c, v = .agg #[.string ⟨a.name.toArray⟩, .slice A n c] ∧ Sl w I A n c a.args
structure BaseR (w : World) (F I : Nat → Prop) (p : Nat) (L : List Atm) : Prop where
  ex : ∃ fb ib fm im, w.heap[p]? = some (.cells #[.map (some fb), .map (some ib)] 91 (0, 0)) ∧ F fb ∧ F ib ∧ fb < p ∧ ib < p ∧ fb ≠ ib ∧
    MapV TS w fb fm ∧ MapV TP w ib im ∧ fm.map (·.1) = L.map (fun a => (printAtomS a).1) ∧ (∀ i (h : i < fm.length) (h' : i < L.length), FactV w I fm[i].2 L[i]) ∧
    (∀ q, OkP q → ∃ B c, (getM im q).getD (.slice none 0 0) = .slice B (idxL L q).length c ∧ Own w I (p + 1) 31 B c (idxL L q) ∧ ∀ k, B.map Addr.block = some k → F k) ∧
    (∀ q q' B B' n n' c c', OkP q → OkP q' → q ≠ q' → (getM im q).getD (.slice none 0 0) = .slice B n c → (getM im q').getD (.slice none 0 0) = .slice B' n' c' → ∀ k, B.map Addr.block = some k → B'.map Addr.block ≠ some k)
  nf : ¬ F p ∧ ¬ I p
  apart : ∀ k, F k → ¬ I k
  gr : Gr L
  nd : L.Nodup
section
variable {w w' : World} {F I : Nat → Prop} {p : Nat} {L : List Atm}
theorem BaseR.lt (h : BaseR w F I p L) : p < w.heap.size := by
  obtain ⟨fb, ib, fm, im, hb, _⟩ := h.ex
  exact (Array.getElem?_eq_some_iff.1 hb).1
theorem BaseR.keep (h : BaseR w F I p L) (hk : ∀ k, k < w.heap.size → (F k ∨ I k ∨ k = p) → w'.heap[k]? = w.heap[k]?) : BaseR w' F I p L := by
  have hlt := h.lt
  obtain ⟨fb, ib, fm, im, hb, h1, h2, h3, h3', h4, h5, h6, h7, h8, h9, h10⟩ := h.ex
  refine ⟨⟨fb, ib, fm, im, (hk p hlt (.inr (.inr rfl))).trans hb, h1, h2, h3, h3', h4, h5.keep (hk _ h5.lt (.inl h1)), h6.keep (hk _ h6.lt (.inl h2)), h7, ?_, ?_, h10⟩, h.nf, h.apart, h.gr, h.nd⟩
  · intro i hi hi'
    obtain ⟨A, n, c, e, hs⟩ := h8 i hi hi'
    exact ⟨A, n, c, e, hs.keep fun k hk' hI => hk k hk' (.inr (.inl hI))⟩
  · intro q hq
    obtain ⟨B, c, e, ho, hF⟩ := h9 q hq
    refine ⟨B, c, e, ho.keep fun k hk' hI => hk k hk' ?_, hF⟩
    rcases hI with hI | hI
    · exact .inr (.inl hI)
    · exact .inl (hF k hI)
theorem BaseR.below (h : BaseR w F I p L) (hb : Below w.heap.size w w') : BaseR w' F I p L := h.keep fun k hk _ => hb.block k hk
theorem BaseR.alloc (h : BaseR w F I p L) (o : Obj) : BaseR (w.alloc o) F I p L := h.below ((Below.refl _ _).alloc (Nat.le_refl _) _)
end
theorem print_inj {a b : Atm} (ha : groundP a = true) (hb : groundP b = true) (h : (printAtomS a).1 = (printAtomS b).1) : a = b := by
  have e : ∀ {a : Atm}, groundP a = true → parseAtomS (printAtomS a).1 = (a, 0) := by
    intro a ha
    have has := ground_atomS ha
    have h2 : (printAtomS a).2 = 0 := by unfold printAtomS; rw [has]; rfl
    have hl : (printAtomS a).1.length ≤ 4096 := by
      have := prAtom_len has
      unfold printAtomS
      rw [has]
      simp only [Bool.not_true, Bool.false_eq_true, if_false]
      omega
    exact trip_atom a h2 hl
  have h1 := e ha
  have h2 := e hb
  rw [h, h2] at h1
  injection h1 with h1
  exact h1.symm
theorem print_not (a : Atm) (h : atomS a = false) : (printAtomS a).1 = [] := by unfold printAtomS; rw [h]; rfl
theorem print_len {a : Atm} (h : groundP a = true) : (printAtomS a).1 ≠ [] := by
  intro he
  have : ∀ {a : Atm}, atomS a = true → (prAtom a) ≠ [] := by
    intro a ha h
    unfold prAtom at h
    split at h
    · rw [atomS] at ha
      simp only [Bool.and_eq_true] at ha
      have := ha.1.1
      rw [h] at this
      revert this; decide
    · simp at h
  unfold printAtomS at he
  rw [ground_atomS h] at he
  exact this (ground_atomS h) he
theorem has_key {L : List Atm} (hg : Gr L) {fm : List (Bs × Value)} (hk : fm.map (·.1) = L.map (fun a => (printAtomS a).1)) (a : Atm) (ha : groundP a = true ∨ a ∉ L) : (getM fm (printAtomS a).1).isSome = L.contains a := by
  rw [Bool.eq_iff_iff, getM_mem, hk, List.contains_iff_mem, List.mem_map]
  constructor
  · rintro ⟨b, hb, e⟩
    rcases ha with ha | ha
    · rw [← print_inj (hg b hb) ha e]; exact hb
    · exfalso
      by_cases hs : atomS a = true
      · have h1 : parseAtomS (printAtomS b).1 = (b, 0) := by
          have has := ground_atomS (hg b hb)
          have hl := prAtom_len has
          exact trip_atom b (by unfold printAtomS; rw [has]; rfl) (by unfold printAtomS; rw [has]; simp only [Bool.not_true, Bool.false_eq_true, if_false]; omega)
        have h2 : parseAtomS (printAtomS a).1 = (a, 0) := by
          have hl := prAtom_len hs
          exact trip_atom a (by unfold printAtomS; rw [hs]; rfl) (by unfold printAtomS; rw [hs]; simp only [Bool.not_true, Bool.false_eq_true, if_false]; omega)
        rw [e, h2] at h1
        injection h1 with h1
        exact ha (by rw [h1]; exact hb)
      · rw [print_not a (by simpa using hs)] at e
        exact print_len (hg b hb) e
  · intro h
    exact ⟨a, h, rfl⟩
end Go.Proofs.YtkjoaodoioicpaaGreatDoor
