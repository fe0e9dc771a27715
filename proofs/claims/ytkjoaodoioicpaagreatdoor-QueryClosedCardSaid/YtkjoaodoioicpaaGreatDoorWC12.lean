/- Query (package licitlaw54): a part of the proofs of its laws; see the law's own text, which comes last in 'order'. No conditions of its own. -/
import Derived.Maps.OwnOps
import Derived.Maps.OwnSet
import Derived.Test.YtkjoaodoioicpaaGreatDoorWC05
import Derived.Test.YtkjoaodoioicpaaGreatDoorWC06
import Derived.Test.YtkjoaodoioicpaaGreatDoorWC10
import Derived.Test.YtkjoaodoioicpaaGreatDoorWC11
set_option linter.unusedVariables false
set_option linter.unusedSimpArgs false
namespace Go.Proofs.YtkjoaodoioicpaaGreatDoor
theorem inv_nil : Inv [] [] := ⟨(fun b hb => nomatch hb), fun s v h => by simp [getK] at h⟩
def bodyAtoms (l : List Ltl) : List Atm := (l.filter fun l => !compsS l).map (·.atom)
theorem inv_put {m : KMap} {seen : List Atm} (h : Inv m seen) {a : Atm} (hc : Cons (seen ++ [a])) : Inv (setK m a.name a.args.length) (seen ++ [a]) :=
  h.add a ((cons_snoc (cons_sub (fun x hx => List.mem_append_left _ hx) hc)).1 hc)
theorem arX_inv : ∀ (body : List Ltl) (m : KMap) (seen : List Atm), Inv m seen → Cons (seen ++ bodyAtoms body) → Inv (arX m body) (seen ++ bodyAtoms body) := by
  intro body
  induction body with
  | nil => intro m seen h _; simpa [arX, bodyAtoms] using h
  | cons x r ih =>
    intro m seen h hc
    rw [arX]
    by_cases ho : x.op.isEmpty = true
    · rw [if_pos ho]
      have e : bodyAtoms (x :: r) = x.atom :: bodyAtoms r := by
        unfold bodyAtoms
        rw [List.filter_cons, if_pos (by unfold compsS; rw [ho]; rfl), List.map_cons]
      have e2 : seen ++ bodyAtoms (x :: r) = seen ++ [x.atom] ++ bodyAtoms r := by rw [e]; simp
      rw [e2] at hc ⊢
      exact ih _ _ (inv_put h (cons_sub (fun y hy => List.mem_append_left _ hy) hc)) hc
    · rw [if_neg ho]
      have e : bodyAtoms (x :: r) = bodyAtoms r := by
        unfold bodyAtoms
        rw [List.filter_cons, if_neg (by unfold compsS; simpa using ho)]
      rw [e] at hc ⊢
      exact ih m seen h hc
theorem arR_inv : ∀ (l : List Rul) (m : KMap) (seen : List Atm), Inv m seen → Cons (seen ++ allAtoms l) → Inv (arR m l) (seen ++ allAtoms l) := by
  intro l
  induction l with
  | nil => intro m seen h _; simpa [arR, allAtoms] using h
  | cons r t ih =>
    intro m seen h hc
    have e2 : seen ++ allAtoms (r :: t) = seen ++ [r.head] ++ bodyAtoms r.body ++ allAtoms t := by simp [allAtoms, atomsS, bodyAtoms]
    rw [e2] at hc ⊢
    rw [arR]
    have h1 := inv_put h (a := r.head) (cons_sub (fun y hy => by rw [List.append_assoc, List.append_assoc]; rw [List.mem_append] at hy ⊢; rcases hy with hy | hy; exact .inl hy; right; rw [List.mem_singleton.1 hy]; simp) hc)
    have h2 := arX_inv r.body _ _ h1 (cons_sub (fun y hy => List.mem_append_left _ hy) hc)
    exact ih _ _ h2 hc
theorem chkF_ok : ∀ (facts : List Atm) (m : KMap) (seen : List Atm) (i : Nat), Inv m seen → Cons seen → ((chkF m facts i).2 = 0 ↔ (∀ a ∈ facts, groundP a = true) ∧ Cons (seen ++ facts)) := by
  intro facts
  induction facts with
  | nil => intro m seen i _ hc; simp [chkF, hc]
  | cons a r ih =>
    intro m seen i h hc
    have hb := h.bad a
    have e2 : seen ++ a :: r = seen ++ [a] ++ r := by simp
    rw [chkF, e2, List.forall_mem_cons]
    cases hg : groundP a
    · simp
    · simp only [Bool.not_true, Bool.false_eq_true, if_false, true_and]
      cases hk : getK m a.name with
      | none =>
        rw [hk] at hb
        simp only
        have hc2 := (cons_snoc hc).2 hb
        exact ih _ _ _ (h.add a hb) hc2
      | some n =>
        rw [hk] at hb
        simp only at hb ⊢
        by_cases hn : n ≠ a.args.length
        · rw [if_pos hn]
          rw [decide_eq_true hn] at hb
          simp only [show ((9 : Int) = 0) = False by simp, false_iff]
          rintro ⟨-, hx⟩
          have := (cons_snoc hc).1 (cons_sub (fun y hy => List.mem_append_left _ hy) hx)
          rw [hb] at this
          cases this
        · rw [if_neg hn]
          rw [decide_eq_false hn] at hb
          exact ih _ _ _ (h.add a hb) ((cons_snoc hc).2 hb)
theorem checkQ_ok (l : List Rul) (facts : List Atm) : (checkQ l facts).2 = 0 ↔ (checkS53 l).2 = 0 ∧ facts.length ≤ 1024 ∧ (∀ a ∈ facts, groundP a = true) ∧ Cons (allAtoms l ++ facts) := by
  unfold checkQ
  by_cases hc : (checkS53 l).2 ≠ 0
  · rw [if_pos hc]
    constructor
    · intro h; exact absurd h hc
    · intro h; exact absurd h.1 hc
  · rw [if_neg hc]
    have hc := Classical.not_not.1 hc
    by_cases hl : 1024 < facts.length
    · rw [if_pos hl]; simp; omega
    · rw [if_neg hl]
      have hcons := ((checkS_ok l).1 hc).2.2.1
      have h1 := arR_inv l [] [] inv_nil (by simpa using hcons)
      rw [List.nil_append] at h1
      rw [chkF_ok facts _ _ _ h1 hcons]
      constructor
      · intro h; exact ⟨hc, by omega, h⟩
      · intro h; exact h.2.2
theorem modelS_ok {l : List Rul} {facts : List Atm} (h : (modelS l facts).2.2 = 0) : (checkQ l facts).2 = 0 ∧ modGo ((givenS facts).length + 1024) l (strataS l).1 (givenS facts) = some (modelS l facts).1 := by
  unfold modelS at h ⊢
  by_cases hc : (checkQ l facts).2 ≠ 0
  · rw [if_pos hc] at h; exact absurd h hc
  · rw [if_neg hc] at h ⊢
    refine ⟨Classical.not_not.1 hc, ?_⟩
    cases hm : modGo ((givenS facts).length + 1024) l (strataS l).1 (givenS facts) with
    | none => rw [hm] at h; simp at h
    | some b => rfl
theorem gr_given {facts : List Atm} (h : ∀ a ∈ facts, groundP a = true) : Gr (givenS facts) := fun a ha => h a ((mem_given facts a).1 ha)
structure Mod (l : List Rul) (facts b : List Atm) : Prop where
  nd : b.Nodup
  gr : Gr b
  sub : ∀ a ∈ facts, a ∈ b
  closed : ∀ r ∈ l, ∀ a, Con r b b a → a ∈ b
  supp : ∀ a ∈ b, a ∈ facts ∨ ∃ r ∈ l, Con r b b a
  len : b.length ≤ facts.length + 1024
theorem given_len (l : List Atm) : (givenS l).length ≤ l.length := nodup_le _ _ (given_nodup l) fun a ha => (mem_given l a).1 ha
theorem modelS_mod {l : List Rul} {facts : List Atm} (h : (modelS l facts).2.2 = 0) : Mod l facts (modelS l facts).1 := by
  obtain ⟨h1, h2⟩ := modelS_ok h
  obtain ⟨hc, hl, hg, hcons⟩ := (checkQ_ok l facts).1 h1
  obtain ⟨m, hR⟩ := rows_of hc
  have h3 := modGo_law hR (checked_ok hc) (givenS facts) ((givenS facts).length + 1024) (strataS l).1.length 0 (givenS facts) _ (by omega) (minv_init (given_nodup facts) (gr_given hg)) (by omega) h2
  obtain ⟨m1, m2⟩ := h3
  have := given_len facts
  refine ⟨m1.nd, m1.gr, fun a ha => m1.sub a ((mem_given facts a).2 ha), fun r hr a hc => m1.closed r hr (hR.lt r hr) a hc, fun a ha => ?_, by omega⟩
  rcases m1.supp a ha with h | h
  · exact .inl ((mem_given facts a).1 h)
  · exact .inr h
theorem evalS_ok {l : List Rul} {facts : List Atm} : (evalS l facts).2.2 = 0 ↔ (modelS l facts).2.2 = 0 := by
  unfold evalS
  by_cases h : (modelS l facts).2.2 ≠ 0
  · rw [if_pos h]
  · rw [if_neg h]
    simp only [true_iff]
    exact Classical.not_not.1 h
theorem evalS_eq {l : List Rul} {facts : List Atm} (h : (evalS l facts).2.2 = 0) : evalS l facts = (sortT (modelS l facts).1, -1, 0) := by
  have := evalS_ok.1 h
  unfold evalS
  rw [if_neg (by rw [this]; simp)]
theorem ground_atomS {a : Atm} (h : groundP a = true) : atomS a = true := by
  unfold groundP at h
  rw [Bool.and_eq_true] at h
  exact h.1
theorem outF_iter (head : Atm) : ∀ (L : List Bnd) (s : List Atm), s.Nodup →
    (iterF (outF head) L s).1.Nodup ∧ (∀ h ∈ (iterF (outF head) L s).1, h ∈ s ∨ ∃ v ∈ L, h = atomV v head) ∧ (∀ h ∈ s, h ∈ (iterF (outF head) L s).1) ∧
    ((iterF (outF head) L s).1.length ≤ 1024 → ∀ v ∈ L, atomV v head ∈ (iterF (outF head) L s).1) := by
  intro L
  induction L with
  | nil => intro s hs; exact ⟨hs, fun h hh => .inl hh, fun h hh => hh, fun _ v hv => by cases hv⟩
  | cons v L ih =>
    intro s hs
    have hn := addQ_nodup hs (atomV v head)
    rw [iterF]
    have e1 : (outF head s v).1 = addQ s (atomV v head) := rfl
    have e2 : (outF head s v).2 = decide ((addQ s (atomV v head)).length ≤ 1024) := rfl
    rw [e1, e2]
    by_cases hl : (addQ s (atomV v head)).length ≤ 1024
    · rw [if_pos (by simpa using hl)]
      obtain ⟨k1, k2, k3, k4⟩ := ih _ hn
      refine ⟨k1, ?_, fun h hh => k3 h (addQ_mem.2 (.inl hh)), ?_⟩
      · intro h hh
        rcases k2 h hh with hh | ⟨v', hv', e⟩
        · rcases addQ_mem.1 hh with hh | hh
          · exact .inl hh
          · exact .inr ⟨v, List.mem_cons_self, hh⟩
        · exact .inr ⟨v', List.mem_cons_of_mem _ hv', e⟩
      · intro hlen v' hv'
        rcases List.mem_cons.1 hv' with rfl | hv'
        · exact k3 _ (addQ_mem.2 (.inr rfl))
        · exact k4 hlen v' hv'
    · rw [if_neg (by simpa using hl)]
      refine ⟨hn, ?_, fun h hh => addQ_mem.2 (.inl hh), fun hlen => absurd hlen hl⟩
      intro h hh
      rcases addQ_mem.1 hh with hh | hh
      · exact .inl hh
      · exact .inr ⟨v, List.mem_cons_self, hh⟩
theorem con_congr {r : Rul} {b c : List Atm} (h : ∀ a, a ∈ b ↔ a ∈ c) {a : Atm} (hc : Con r b b a) : Con r c c a := by
  obtain ⟨θ, h1, h2, h3⟩ := hc
  exact ⟨θ, fun x hx hp => (h _).1 (h1 x hx hp), fun x hx hp ho hm => h2 x hx hp ho ((h _).2 hm), h3⟩
theorem out_law {r : Rul} (hr : RuleOk r) {model : List Atm} (hg : Gr model) : (outS r model).Nodup ∧ (∀ h ∈ outS r model, Con r model model h ∧ groundP h = true) ∧ ((outS r model).length ≤ 1024 → ∀ h, Con r model model h → h ∈ outS r model) := by
  obtain ⟨k1, k2, -, k4⟩ := outF_iter r.head (eachQ r.body (givenS model) (givenS model)) [] List.nodup_nil
  have e0 : (iterF (outF r.head) (eachQ r.body (givenS model) (givenS model)) []).1 = outS r model := rfl
  rw [e0] at k1 k2 k4
  have hm := mem_given model
  have hgm : Gr (givenS model) := fun a ha => hg a ((hm a).1 ha)
  refine ⟨k1, ?_, ?_⟩
  · intro h hh
    rcases k2 h hh with hh | ⟨v, hv, rfl⟩
    · cases hh
    · obtain ⟨c1, c2, c3⟩ := each_sound hr.1 hgm hv
      exact ⟨con_congr hm c1, atomV_ground c2 hr.2 c3⟩
  · intro hl h hc
    obtain ⟨v, hv, rfl⟩ := each_complete hr.1 hgm (con_congr (fun a => (hm a).symm) hc)
    exact k4 hl v hv
theorem ready_ok {l : List Rul} (hc : (checkS53 l).2 = 0) {r : Rul} (hr : r ∈ l) {model : List Atm} (hg : Gr model) (hlen : model.length ≤ 2048) : readyS r model = 0 := by
  obtain ⟨h1, h2⟩ := ((checkS_ok l).1 hc).2.1 r hr
  have hf : firstBad [r] 0 = none := (firstBad_iff [r] 0).2 (fun r' hr' => by rw [List.mem_singleton.1 hr']; exact ⟨h1, h2⟩)
  have he : (checkS53 [r]).2 ≠ 1 ∧ (checkS53 [r]).2 ≠ 8 := by
    have h0 : check0S [r] = match arRules [] [r] 0 with | some i => (i, 9) | none => (-1, 0) := by
      unfold check0S
      rw [if_neg (by simp), hf]; rfl
    unfold checkS53
    rw [h0]
    cases ha : arRules [] [r] 0 with
    | some i => simp
    | none =>
      simp only [ne_eq, not_true_eq_false, if_false]
      cases levelsS [r] <;> simp
  unfold readyS
  simp only
  rw [if_neg, if_neg he.2]
  rintro (h | h | h)
  · exact he.1 h
  · omega
  · rw [List.any_eq_true] at h
    obtain ⟨a, ha, h⟩ := h
    rw [hg a ha] at h
    cases h
theorem closed_law {l : List Rul} {facts : List Atm} (h : (evalS l facts).2.2 = 0) : SortT (evalS l facts).1 ∧ (∀ a ∈ facts, a ∈ (evalS l facts).1) ∧
    (∀ r ∈ l, (stepS r (evalS l facts).1).2 = 10 ∨ ((stepS r (evalS l facts).1).2 = 0 ∧ ∀ a ∈ (stepS r (evalS l facts).1).1, a ∈ (evalS l facts).1)) ∧
    ((∀ r ∈ l, (stepS r (evalS l facts).1).2 = 0) → ∀ a ∈ (evalS l facts).1, a ∈ facts ∨ ∃ r ∈ l, a ∈ (stepS r (evalS l facts).1).1) := by
  have hm := modelS_mod (evalS_ok.1 h)
  obtain ⟨a1, a2⟩ := modelS_ok (evalS_ok.1 h)
  obtain ⟨hc, hfl, hg, hcons⟩ := (checkQ_ok l facts).1 a1
  rw [evalS_eq h]
  generalize (modelS l facts).1 = b at *
  have hb := mem_sortT b
  have hgs : Gr (sortT b) := fun a ha => hm.gr a ((hb a).1 ha)
  have hls : (sortT b).length ≤ 2048 := by rw [len_sortT]; have := hm.len; omega
  have hstep : ∀ r ∈ l, stepS r (sortT b) = if 1024 < (outS r (sortT b)).length then ([], 10) else (sortT (outS r (sortT b)), 0) := by
    intro r hr
    unfold stepS
    rw [if_neg (by rw [ready_ok hc hr hgs hls]; simp)]
  refine ⟨sort_sortT (fun x hx => ground_atomS (hm.gr x hx)) hm.nd, fun a ha => (hb a).2 (hm.sub a ha), ?_, ?_⟩
  · intro r hr
    rw [hstep r hr]
    by_cases hl : 1024 < (outS r (sortT b)).length
    · rw [if_pos hl]; exact .inl rfl
    · rw [if_neg hl]
      right
      refine ⟨rfl, fun a ha => ?_⟩
      rw [mem_sortT] at ha
      exact (hb a).2 (hm.closed r hr a (con_congr hb ((out_law (checked_ok hc r hr) hgs).2.1 a ha).1))
  · intro hall a ha
    rcases hm.supp a ((hb a).1 ha) with hf | ⟨r, hr, hcon⟩
    · exact .inl hf
    · right
      refine ⟨r, hr, ?_⟩
      have h0 := hall r hr
      rw [hstep r hr] at h0 ⊢
      by_cases hl : 1024 < (outS r (sortT b)).length
      · rw [if_pos hl] at h0; simp at h0
      · rw [if_neg hl, mem_sortT]
        exact (out_law (checked_ok hc r hr) hgs).2.2 (by omega) a (con_congr (fun a => (hb a).symm) hcon)
end Go.Proofs.YtkjoaodoioicpaaGreatDoor
namespace Go.Proofs.YtkjoaodoioicpaaGreatDoor
def vX : Arg := ⟨1, [88], 0⟩
def vY : Arg := ⟨1, [89], 0⟩
def fa (x : Arg) : Atm := ⟨[97], [x]⟩
def fb (x : Arg) : Atm := ⟨[98], [x]⟩
end Go.Proofs.YtkjoaodoioicpaaGreatDoor
namespace Go.Proofs.YtkjoaodoioicpaaGreatDoor
open Go.RowKit
def matchP (q : Plc) (a : Atm) : Bool :=
  a.name == q.name && (a.args.length : Int) == q.arity && (if q.at_ = -1 then q.kind == 0 && q.num == 0 && q.text.isEmpty else decide (0 ≤ q.at_) && (match a.args[q.at_.toNat]? with | some x => x == ⟨q.kind, q.text, q.num⟩ | none => false))
def idxL (L : List Atm) (q : Plc) : List Atm := L.filter (matchP q)
def FactV (w : World) (I : Nat → Prop) (v : Value) (a : Atm) : Prop := ∃ A n c, v = .agg #[.string ⟨a.name.toArray⟩, .slice A n c] ∧ Sl w I A n c a.args
structure BaseR (w : World) (F I : Nat → Prop) (p : Nat) (L : List Atm) : Prop where
  ex : ∃ fb ib fm im, w.heap[p]? = some (.cells #[.map (some fb), .map (some ib)] 91 (0, 0)) ∧ F fb ∧ F ib ∧ fb < p ∧ ib < p ∧ fb ≠ ib ∧
    MapV TS w fb fm ∧ MapV TP w ib im ∧ fm.map (·.1) = L.map (fun a => (printAtomS a).1) ∧ (∀ i (h : i < fm.length) (h' : i < L.length), FactV w I fm[i].2 L[i]) ∧
    (∀ q, OkP q → ∃ B c, (getM im q).getD (.slice none 0 0) = .slice B (idxL L q).length c ∧ Own w I (p + 1) 31 B c (idxL L q) ∧ ∀ k, B.map Addr.block = some k → F k) ∧
    (∀ q q' B B' n n' c c', OkP q → OkP q' → q ≠ q' → (getM im q).getD (.slice none 0 0) = .slice B n c → (getM im q').getD (.slice none 0 0) = .slice B' n' c' → ∀ k, B.map Addr.block = some k → B'.map Addr.block ≠ some k)
  nf : ¬ F p ∧ ¬ I p
  apart : ∀ k, F k → ¬ I k
  gr : Gr L
  nd : L.Nodup
section
variable {w w' : World} {F I : Nat → Prop} {p : Nat} {L : List Atm}
theorem BaseR.lt (h : BaseR w F I p L) : p < w.heap.size := by
  obtain ⟨fb, ib, fm, im, hb, _⟩ := h.ex
  exact (Array.getElem?_eq_some_iff.1 hb).1
theorem BaseR.keep (h : BaseR w F I p L) (hk : ∀ k, k < w.heap.size → (F k ∨ I k ∨ k = p) → w'.heap[k]? = w.heap[k]?) : BaseR w' F I p L := by
  have hlt := h.lt
  obtain ⟨fb, ib, fm, im, hb, h1, h2, h3, h3', h4, h5, h6, h7, h8, h9, h10⟩ := h.ex
  refine ⟨⟨fb, ib, fm, im, (hk p hlt (.inr (.inr rfl))).trans hb, h1, h2, h3, h3', h4, h5.keep (hk _ h5.lt (.inl h1)), h6.keep (hk _ h6.lt (.inl h2)), h7, ?_, ?_, h10⟩, h.nf, h.apart, h.gr, h.nd⟩
  · intro i hi hi'
    obtain ⟨A, n, c, e, hs⟩ := h8 i hi hi'
    exact ⟨A, n, c, e, hs.keep fun k hk' hI => hk k hk' (.inr (.inl hI))⟩
  · intro q hq
    obtain ⟨B, c, e, ho, hF⟩ := h9 q hq
    refine ⟨B, c, e, ho.keep fun k hk' hI => hk k hk' ?_, hF⟩
    rcases hI with hI | hI
    · exact .inr (.inl hI)
    · exact .inl (hF k hI)
theorem BaseR.below (h : BaseR w F I p L) (hb : Below w.heap.size w w') : BaseR w' F I p L := h.keep fun k hk _ => hb.block k hk
theorem BaseR.alloc (h : BaseR w F I p L) (o : Obj) : BaseR (w.alloc o) F I p L := h.below ((Below.refl _ _).alloc (Nat.le_refl _) _)
end
theorem print_inj {a b : Atm} (ha : groundP a = true) (hb : groundP b = true) (h : (printAtomS a).1 = (printAtomS b).1) : a = b := by
  have e : ∀ {a : Atm}, groundP a = true → parseAtomS (printAtomS a).1 = (a, 0) := by
    intro a ha
    have has := ground_atomS ha
    have h2 : (printAtomS a).2 = 0 := by unfold printAtomS; rw [has]; rfl
    have hl : (printAtomS a).1.length ≤ 4096 := by
      have := prAtom_len has
      unfold printAtomS
      rw [has]
      simp only [Bool.not_true, Bool.false_eq_true, if_false]
      omega
    exact trip_atom a h2 hl
  have h1 := e ha
  have h2 := e hb
  rw [h, h2] at h1
  injection h1 with h1
  exact h1.symm
theorem print_not (a : Atm) (h : atomS a = false) : (printAtomS a).1 = [] := by unfold printAtomS; rw [h]; rfl
theorem print_len {a : Atm} (h : groundP a = true) : (printAtomS a).1 ≠ [] := by
  intro he
  have : ∀ {a : Atm}, atomS a = true → (prAtom a) ≠ [] := by
    intro a ha h
    unfold prAtom at h
    split at h
    · rw [atomS] at ha
      simp only [Bool.and_eq_true] at ha
      have := ha.1.1
      rw [h] at this
      revert this; decide
    · simp at h
  unfold printAtomS at he
  rw [ground_atomS h] at he
  exact this (ground_atomS h) he
theorem has_key {L : List Atm} (hg : Gr L) {fm : List (Bs × Value)} (hk : fm.map (·.1) = L.map (fun a => (printAtomS a).1)) (a : Atm) (ha : groundP a = true ∨ a ∉ L) : (getM fm (printAtomS a).1).isSome = L.contains a := by
  rw [Bool.eq_iff_iff, getM_mem, hk, List.contains_iff_mem, List.mem_map]
  constructor
  · rintro ⟨b, hb, e⟩
    rcases ha with ha | ha
    · rw [← print_inj (hg b hb) ha e]; exact hb
    · exfalso
      by_cases hs : atomS a = true
      · have h1 : parseAtomS (printAtomS b).1 = (b, 0) := by
          have has := ground_atomS (hg b hb)
          have hl := prAtom_len has
          exact trip_atom b (by unfold printAtomS; rw [has]; rfl) (by unfold printAtomS; rw [has]; simp only [Bool.not_true, Bool.false_eq_true, if_false]; omega)
        have h2 : parseAtomS (printAtomS a).1 = (a, 0) := by
          have hl := prAtom_len hs
          exact trip_atom a (by unfold printAtomS; rw [hs]; rfl) (by unfold printAtomS; rw [hs]; simp only [Bool.not_true, Bool.false_eq_true, if_false]; omega)
        rw [e, h2] at h1
        injection h1 with h1
        exact ha (by rw [h1]; exact hb)
      · rw [print_not a (by simpa using hs)] at e
        exact print_len (hg b hb) e
  · intro h
    exact ⟨a, h, rfl⟩
end Go.Proofs.YtkjoaodoioicpaaGreatDoor
namespace Go.Proofs.YtkjoaodoioicpaaGreatDoor
open Go.RowKit Go.Maps
theorem lawS : Keyed Tryz.prog 9 := string_keyed Tryz.underlying9
theorem zeroI (w : World) : (zeroValue 3).run Tryz.prog w = .ok (.int .i64 0) w := by kernel_rfl
def MapR (w : World) (b : Nat) (m : KMap) : Prop :=
  ∃ D : DataW Unit, w.ownsMap Tryz.prog 9 (plainElem Tryz.prog 3) b m.length D ∧ (∀ s, Maps.has D (.string s) = (getK m s).isSome) ∧
    (∀ s, D.atKey (.string s) (.lit (.int .i64 0)) = .lit (.int .i64 (getV m s))) ∧ Maps.size D = m.length
theorem own_tight {P : Program} {k : TypeId} {R : Value → Option (DataW Unit × List MemPlace)} {w : World} {b n : Nat} {D : DataW Unit} (h : w.ownsMap P k R b n D) : w.ownsMap P k R b (Maps.size D) D := by
  obtain ⟨es, clock, hb, F, _, rfl⟩ := h
  exact ⟨es, clock, hb, F, by simp [Maps.size, length_sorted], rfl⟩
theorem MapR.lt {w : World} {b : Nat} {m : KMap} (h : MapR w b m) : b < w.heap.size := by
  obtain ⟨D, ho, _⟩ := h
  exact ho.lt
theorem MapR.keep {w w' : World} {b : Nat} {m : KMap} (h : MapR w b m) (hk : w'.heap[b]? = w.heap[b]?) : MapR w' b m := by
  obtain ⟨D, ⟨es, clock, hb, F, hs, hD⟩, h1, h2, h3⟩ := h
  exact ⟨D, ⟨es, clock, hk.trans hb, F, hs, hD⟩, h1, h2, h3⟩
theorem MapR.below {w w' : World} {b : Nat} {m : KMap} (h : MapR w b m) (hb : Below w.heap.size w w') : MapR w' b m := h.keep (hb.block b h.lt)
theorem MapR.alloc {w : World} {b : Nat} {m : KMap} (h : MapR w b m) (o : Obj) : MapR (w.alloc o) b m := h.below ((Below.refl _ _).alloc (Nat.le_refl _) _)
theorem MapR.made (w : World) : MapR (w.alloc (.map #[] 0)) w.heap.size [] :=
  ⟨.map [], World.ownsMap_made _ _ _ _, fun s => rfl, fun s => by simp [DataW.atKey, getV, getK], rfl⟩
theorem setK_len (m : KMap) (s : Bs) (v : Int) : (setK m s v).length = if (getK m s).isSome then m.length else m.length + 1 := by
  rw [len_keys, keys_set]
  by_cases h : s ∈ keysK m
  · rw [if_pos h, if_pos ((getK_mem m s).2 h), len_keys]
  · rw [if_neg h, if_neg (fun x => h ((getK_mem m s).1 x)), len_keys]; simp
theorem MapR.put {w w' : World} {b n : Nat} {m : KMap} {D : DataW Unit} (hD : w.ownsMap Tryz.prog 9 (plainElem Tryz.prog 3) b m.length D) (h1 : ∀ s, Maps.has D (.string s) = (getK m s).isSome)
    (h2 : ∀ s, D.atKey (.string s) (.lit (.int .i64 0)) = .lit (.int .i64 (getV m s))) (h3 : Maps.size D = m.length) (s : Bs) (v : Int) (ho : w'.ownsMap Tryz.prog 9 (plainElem Tryz.prog 3) b n (D.put (.string s) (.lit (.int .i64 v)))) : MapR w' b (setK m s v) := by
  have ht := hD.tidy lawS
  have hkl : WideAt.IsKeyLit (.string s) := trivial
  have hsz : Maps.size (D.put (.string s) (.lit (.int .i64 v))) = (setK m s v).length := by rw [size_put ht, h1, h3, setK_len]
  refine ⟨_, by rw [← hsz]; exact own_tight ho, fun t => ?_, fun t => ?_, hsz⟩
  · rw [getK_set]
    by_cases hst : s = t
    · subst hst
      rw [if_pos rfl, has_put_same ht.isMap hkl]; rfl
    · rw [if_neg hst, has_put_other (fun e => hst (by injection e with e; exact e.symm)), h1]
  · rw [getV_set]
    by_cases hst : s = t
    · subst hst
      rw [if_pos rfl, atKey_put_same ht.isMap hkl]
    · rw [if_neg hst, atKey_put_other (fun e => hst (by injection e with e; exact e.symm)), h2]
section
variable {ops : Array Oper} {rest : List Oper} {o : Oper} {a : Act} {Q : Exit → Act → World → Prop} {w : World} {b : Nat} {m : KMap}
theorem wpList_lookK (hg : o.guard = none) (x y : Operand) (hop : o.op = Op.lookup 94 x y false) (hx : a.eval x = .map (some b)) (s : Bs) (hy : a.eval y = .string ⟨s.toArray⟩) (hm : MapR w b m) (hs : s.length ≤ 9223372036854775807)
    (h : wpList Tryz.prog ops Q rest (a.put o.dst (.int .i64 (getV m s))) w) : wpList Tryz.prog ops Q (o :: rest) a w := by
  obtain ⟨D, ho, h1, h2, h3⟩ := hm
  refine wpList_lookup_own_int w hg x y 94 hop 9 3 .i64 lawS Tryz.underlying94 Tryz.underlying3 (zeroI w) b _ D hx ho _ (.string s) hy (WideMaps.keyOf_string_mk Tryz.underlying9 (s := ⟨s.toArray⟩) (by simpa [ByteArray.size, maxLen] using hs)) (fun c hat _ => ?_)
  rw [h2] at hat
  injection hat with hat
  injection hat with _ hat
  rw [← hat]
  exact h
theorem wpList_lookKok (hg : o.guard = none) (x y : Operand) (hop : o.op = Op.lookup 94 x y true) (hx : a.eval x = .map (some b)) (s : Bs) (hy : a.eval y = .string ⟨s.toArray⟩) (hm : MapR w b m) (hs : s.length ≤ 9223372036854775807)
    (h : wpList Tryz.prog ops Q rest (a.put o.dst (.tuple #[.int .i64 (getV m s), .bool (getK m s).isSome])) w) : wpList Tryz.prog ops Q (o :: rest) a w := by
  obtain ⟨D, ho, h1, h2, h3⟩ := hm
  refine wpList_lookup_own_ok_int w hg x y 94 hop 9 3 .i64 lawS Tryz.underlying94 Tryz.underlying3 (zeroI w) b _ D hx ho _ (.string s) hy (WideMaps.keyOf_string_mk Tryz.underlying9 (s := ⟨s.toArray⟩) (by simpa [ByteArray.size, maxLen] using hs)) (fun c hat _ => ?_)
  rw [h2] at hat
  injection hat with hat
  injection hat with _ hat
  rw [← hat, h1]
  exact h
theorem wpList_updK (hg : o.guard = none) (x y z : Operand) (hop : o.op = Op.mapUpdate 94 x y z) (hx : a.eval x = .map (some b)) (s : Bs) (hy : a.eval y = .string ⟨s.toArray⟩) (v : Int) (hz : a.eval z = .int .i64 v) (hm : MapR w b m)
    (hs : s.length ≤ 9223372036854775807) (hv : -9223372036854775808 ≤ v ∧ v ≤ 9223372036854775807) (hl : m.length < 9223372036854775807)
    (h : ∀ w', MapR w' b (setK m s v) → w.grownBy w' (some b) → wpList Tryz.prog ops Q rest (a.put o.dst undef) w') : wpList Tryz.prog ops Q (o :: rest) a w := by
  obtain ⟨D, ho, h1, h2, h3⟩ := hm
  refine wpList_mapUpdate_own w hg x y z 94 hop 9 3 lawS Tryz.underlying94 _ b _ D hx ho (by simpa [maxLen] using hl) _ _ (.string s) hy hz (WideMaps.keyOf_string_mk Tryz.underlying9 (s := ⟨s.toArray⟩) (by simpa [ByteArray.size, maxLen] using hs)) (.lit (.int .i64 v)) [] (plainElem_int Tryz.underlying3 (WalkArith.wf_i64 (by omega))) (fun w' ho' hg' => h w' (MapR.put ho h1 h2 h3 s v ho') hg')
theorem wpList_lenK (hg : o.guard = none) (x : Operand) (hop : o.op = Op.call { callee := Callee.builtin Builtin.len, args := #[x], argTypes := #[94] }) (hx : a.eval x = .map (some b)) (hm : MapR w b m)
    (h : wpList Tryz.prog ops Q rest (a.put o.dst (.int .i64 m.length)) w) : wpList Tryz.prog ops Q (o :: rest) a w := by
  obtain ⟨D, ho, h1, h2, h3⟩ := hm
  refine wpList_len_own w hg x 94 hop 9 3 Tryz.underlying94 _ b _ D hx ho ?_
  rw [h3]
  exact h
end
end Go.Proofs.YtkjoaodoioicpaaGreatDoor
namespace Go.Proofs.YtkjoaodoioicpaaGreatDoor
open Go.RowKit
theorem firstBad_none (l : List Rul) : ∀ i, firstBad l i = none → ∀ r ∈ l, ruleS r = true := by
  induction l with
  | nil => intro i _ r hr; cases hr
  | cons x t ih =>
    intro i h r hr
    rw [firstBad] at h
    split at h
    · cases h
    · rename_i h1
      split at h
      · cases h
      · rcases List.mem_cons.1 hr with rfl | hr
        · simpa using h1
        · exact ih _ h r hr
theorem rule_body {r : Rul} (h : ruleS r = true) : r.body.length ≤ 4 ∧ r.head.args.length + cntB r.body ≤ 30 := by
  unfold ruleS at h
  rw [Bool.and_eq_true, Bool.and_eq_true, Bool.and_eq_true, decide_eq_true_eq] at h
  have h1 := form_atom h.1.1.1
  have h2 := form_cnt r.body h.1.2
  exact ⟨h.1.1.2, by have := h.1.1.2; omega⟩
theorem atoms_len (r : Rul) : (atomsS r).length ≤ r.body.length + 1 := by
  unfold atomsS
  simp only [List.length_cons, List.length_map]
  have := List.length_filter_le (fun l => !compsS l) r.body
  omega
theorem ok_atoms {r : Rul} (h : OkR r) : ∀ a ∈ atomsS r, a.name.length ≤ 9223372036854775807 := by
  intro a ha
  unfold atomsS at ha
  rcases List.mem_cons.1 ha with rfl | ha
  · exact h.1.1
  · obtain ⟨x, hx, rfl⟩ := List.mem_map.1 ha
    exact (h.2 x (List.mem_filter.1 hx).1).2.1
set_option maxRecDepth 100000 in
set_option maxHeartbeats 4000000 in
theorem check_any (A : Option Addr) (n c : Nat) (l : List Rul) (w : World) (S : Nat → Prop) (hl : Sl w S A n c l) (ho : ∀ r ∈ l, OkR r) (hL : LD w) :
    Calls Tryz.prog 107 #[.slice A n c] w fun e w' => e = .returned (.tuple #[.int .i64 (check0S l).1, .int .i64 (check0S l).2]) ∧ Below w.heap.size w w' := by
  obtain ⟨v, hv⟩ : ∃ v, v = check0S l := ⟨_, rfl⟩
  rw [← hv]
  unfold check0S at hv
  have hlen := hl.len
  subst hlen
  have hle := hl.le
  by_cases h64 : 64 < l.length
  · rw [if_pos h64] at hv
    subst hv
    clear hl ho hL
    go_enter Tryz.func107, Tryz.ntmps107
    go_wp2
    go_ret2
    exact ⟨rfl, Below.refl _ _⟩
  · rw [if_neg h64] at hv
    have Hf : Hid (firstBad l 0 = firstBad (l.drop 0) (0 : Nat)) := rfl
    have HV := Lib.hid hv; have HO := Lib.hid ho; have HL := Lib.hid (hl.wide (S' := fun b => b < w.heap.size) (fun k hk _ => hk) (by decide)); have HLD := Lib.hid hL; clear hv ho hl hL
    have hmm := @run_makeMap Tryz.prog
    go_enter Tryz.func107, Tryz.ntmps107
    go_wp2_with fail
    go_loopw [18] (fun i wr => ∃ k : Nat, k ≤ l.length ∧ i = .int .i64 k ∧ Below w.heap.size w wr ∧ Hid (firstBad l 0 = firstBad (l.drop k) k)) (fun i _ => l.length - (intOf i).toNat)
    case atStart => exact ⟨0, by omega, rfl, Below.refl _ _, Hf⟩
    case round =>
      obtain ⟨k, hk, rfl, hb, hf⟩ := hrel
      have hwr := hb.size
      by_cases hlt : k < l.length
      · obtain ⟨b, o, rfl, -, hbs, A1, n1, c1, A2, n2, c2, h1, h2, h3, hs1, hs2⟩ := (HL.out.below hb).rul hlt
        have hd := hf.out
        rw [drop_get hlt, firstBad] at hd
        have hok := HO.out _ (List.getElem_mem hlt)
        generalize l[k] = x at *
        have hfr := fun w S (h1 : Sl w S A1 n1 c1 x.head.args) (h2 : Sl w S A2 n2 c2 x.body) (hL : LD w) => formedRule_any x A1 n1 c1 A2 n2 c2 w S h1 h2 hok hL
        have hsf := fun w S (h1 : Sl w S A1 n1 c1 x.head.args) (h2 : Sl w S A2 n2 c2 x.body) (hr : ruleS x = true) => safe_any x A1 n1 c1 A2 n2 c2 w S h1 h2 (by have := (rule_body hr).2; omega) (by have := (rule_body hr).1; omega)
        generalize ruleS x = b1 at *
        generalize safeS x = b2 at *
        have HD := Lib.hid hd; have HFR := Lib.hid hfr; have HSF := Lib.hid hsf; have HS1 := Lib.hid hs1; have HS2 := Lib.hid hs2
        clear hd hfr hsf hs1 hs2 hf hok
        go_wp2_with (first | (go_at_call 136; refine (HFR.out _ _ (HS1.out.alloc _) (HS2.out.alloc _) ((HLD.out.below hb).alloc _)).mono ?_; rintro e w1 ⟨rfl, hb1⟩; have g0 : w1.cell? ⟨wr.heap.size, 0, none⟩ = some (.string ⟨x.head.name.toArray⟩) := cell_later hb1 ((cell_blk (blkAt wr _ rfl) 0).trans rfl); have g1 : w1.cell? ⟨wr.heap.size, 1, none⟩ = some (.slice A1 n1 c1) := cell_later hb1 ((cell_blk (blkAt wr _ rfl) 1).trans rfl); have g2 : w1.cell? ⟨wr.heap.size, 2, none⟩ = some (.slice A2 n2 c2) := cell_later hb1 ((cell_blk (blkAt wr _ rfl) 2).trans rfl)) | (go_at_call 137; refine (HSF.out _ _ ((HS1.out.alloc _).below hb1) ((HS2.out.alloc _).below hb1) (by simp_all)).mono ?_; rintro e w2 ⟨rfl, hb2⟩))
        · rename_i hb1f
          go_ret2
          refine ⟨?_, (hb.alloc hwr _).trans (hb1.mono (by simp; omega))⟩
          have hvv := HV.out
          rw [HD.out] at hvv
          have hb1f' : b1 = false := by simpa using hb1f
          subst hb1f'
          rw [hvv]; rfl
        · rename_i hb1f hb2f
          go_ret2
          refine ⟨?_, ((hb.alloc hwr _).trans (hb1.mono (by simp; omega))).trans (hb2.mono (by have := hb1.size; simp at this; omega))⟩
          have hvv := HV.out
          rw [HD.out] at hvv
          have hb1f' : b1 = true := by simpa using hb1f
          have hb2f' : b2 = false := by simpa using hb2f
          subst hb1f' hb2f'
          rw [hvv]; rfl
        · rename_i hb1f hb2f
          refine ⟨⟨k + 1, by omega, by go_num, ((hb.alloc hwr _).trans (hb1.mono (by simp; omega))).trans (hb2.mono (by have := hb1.size; simp at this; omega)), ?_⟩, by simp [intOf]; omega⟩
          have hb1f' : b1 = true := by simpa using hb1f
          have hb2f' : b2 = true := by simpa using hb2f
          subst hb1f' hb2f'
          exact HD.out
      · have hd := hf.out
        rw [drop_end hlt] at hd
        have hd : firstBad l 0 = none := hd
        have hall := firstBad_none l 0 hd
        have hvv := HV.out
        rw [hd] at hvv
        have HV2 := Lib.hid hvv; have HALL := Lib.hid hall
        have Hg : Hid (arRules [] l 0 = arRules [] (l.drop 0) (0 : Nat)) := rfl
        clear hd hvv hall hf HV
        go_wp2_with fail
        have hmade := MapR.made wr
        have hbw : Below w.heap.size w (wr.alloc (.map #[] 0)) := hb.alloc hwr _
        have hszm : wr.heap.size < (wr.alloc (.map #[] 0)).heap.size := by simp
        generalize wr.heap.size = mb at *
        go_loopw [35] (fun i wx => ∃ k : Nat, k ≤ l.length ∧ i = .int .i64 k ∧ ∃ m, MapR wx mb m ∧ m.length ≤ 5 * k ∧ Below w.heap.size w wx ∧ mb < wx.heap.size ∧ Hid (arRules [] l 0 = arRules m (l.drop k) k)) (fun i _ => l.length - (intOf i).toNat)
        case atStart => exact ⟨0, by omega, rfl, [], hmade, by simp, hbw, hszm, Hg⟩
        case round =>
          obtain ⟨j, hj, rfl, m, hmr, hml, hbx, hszx, hg⟩ := hrel
          have hwx := hbx.size
          by_cases hlt2 : j < l.length
          · obtain ⟨b, o, rfl, -, hbs, A1, n1, c1, A2, n2, c2, h1, h2, h3, hs1, hs2⟩ := (HL.out.below hbx).rul hlt2
            have hd := hg.out
            rw [drop_get hlt2, arRules] at hd
            have hok := ok_atoms (HO.out _ (List.getElem_mem hlt2))
            have hrb := (rule_body (HALL.out _ (List.getElem_mem hlt2))).1
            generalize l[j] = x at *
            have hat := fun w S (h1 : Sl w S A1 n1 c1 x.head.args) (h2 : Sl w S A2 n2 c2 x.body) => atoms_any x A1 n1 c1 A2 n2 c2 w S h1 h2 (by omega)
            have hal := atoms_len x
            generalize atomsS x = aa at *
            have HD := Lib.hid hd; have HAT := Lib.hid hat; have HS1 := Lib.hid hs1; have HS2 := Lib.hid hs2; have HOK := Lib.hid hok; have HM := Lib.hid hmr
            clear hd hat hs1 hs2 hg hok hmr
            go_wp2_with (first | (go_at_call 114; refine (HAT.out _ _ (HS1.out.alloc _) (HS2.out.alloc _)).mono ?_; rintro e w1 ⟨A3, c3, rfl, hs3, hb3⟩))
            have hb30 : Below w.heap.size w w1 := (hbx.alloc hwx _).trans (hb3.mono (by simp; omega))
            have hsz3 := hb3.size
            simp at hsz3
            have hmr1 := (HM.out.alloc (.cells #[.string ⟨x.head.name.toArray⟩, .slice A1 n1 c1, .slice A2 n2 c2] 34)).below hb3
            have HM1 := Lib.hid hmr1; have HB30 := Lib.hid hb30; have HS3 := Lib.hid hs3; clear hmr1 hb30 hb3 hs3
            have Hk : Hid (arGo m aa = arGo m (aa.drop 0)) := rfl
            go_loopw [43] (fun i wy => ∃ k : Nat, k ≤ aa.length ∧ i = .int .i64 k ∧ ∃ m', MapR wy mb m' ∧ m'.length ≤ m.length + k ∧ Below w.heap.size w wy ∧ w1.heap.size ≤ wy.heap.size ∧ (∀ q, q < w1.heap.size → q ≠ mb → wy.heap[q]? = w1.heap[q]?) ∧ Hid (arGo m aa = arGo m' (aa.drop k))) (fun i _ => aa.length - (intOf i).toNat)
            case atStart => exact ⟨0, by omega, rfl, m, HM1.out, by omega, HB30.out, Nat.le_refl _, fun _ _ _ => rfl, Hk⟩
            case round =>
              obtain ⟨q, hq, rfl, m', hmr', hml', hby, hszy, hkeep, hgo⟩ := hrel
              by_cases hlt3 : q < aa.length
              · obtain ⟨b2, o2, rfl, -, hbs2, A5, n5, c5, k1, k2, k3⟩ := (HS3.out.keep (fun z hz hs => hkeep z hz (by rcases hs with hs | hs; omega; simp at hs; omega))).atm hlt3
                have hd3 := hgo.out
                rw [drop_get hlt3, arGo] at hd3
                have hnm := HOK.out _ (List.getElem_mem hlt3)
                generalize aa[q] = y at *
                have hn5 := k3.len
                have hle5 := k3.le
                obtain ⟨ynm, yargs⟩ := y
                simp only at k1 k2 k3 hd3 hnm hn5
                subst hn5
                have hgv : getK m' ynm = none → getV m' ynm = 0 := fun e => by unfold getV; rw [e]; rfl
                have hgs : ∀ z, getK m' ynm = some z → getV m' ynm = z := fun z e => by unfold getV; rw [e]; rfl
                have HD3 := Lib.hid hd3; have HM3 := Lib.hid hmr'
                clear hd3 hgo hmr' k3
                go_wp2_with (first | (at_lookup; refine wpList_lookKok rfl _ _ rfl rfl ynm rfl (HM3.out.alloc _) hnm ?_) | (at_mapUpdate; refine wpList_updK rfl _ _ _ rfl rfl ynm rfl _ rfl (HM3.out.alloc _) hnm (by omega) (by omega) ?_; intro w5 hm5 hg5))
                · rename_i q1 q2
                  go_ret2
                  refine ⟨?_, hby.alloc (by omega) _⟩
                  have hvv := HV2.out
                  rw [HD.out, HD3.out] at hvv
                  cases hg : getK m' ynm with
                  | none => rw [hg] at q1; cases q1
                  | some z =>
                    rw [hgs z hg] at q2
                    rw [hg] at hvv
                    simp only at hvv
                    rw [if_pos (by simpa using q2)] at hvv
                    rw [hvv]
                    rfl
                · rename_i q1 q2
                  refine ⟨⟨q + 1, by omega, by go_num, setK m' ynm yargs.length, hm5, by rw [setK_len]; split <;> omega, (hby.alloc (by omega) _).grown hg5 (by simp; omega) (fun z hz => by injection hz with hz; omega), by have := hg5.size; simp at this; omega, fun z hz hne => (hg5.block z (by simp; omega) (fun e => hne (by injection e))).trans ((Below.heap_alloc _ _ z (by omega)).trans (hkeep z hz hne)), ?_⟩, by simp [intOf]; omega⟩
                  show _ = _
                  rw [HD3.out]
                  cases hg : getK m' ynm with
                  | none => simp [hg] at q1
                  | some z =>
                    rw [hgs z hg] at q2
                    simp only
                    rw [if_neg (by simpa using q2)]
                · rename_i q1
                  refine ⟨⟨q + 1, by omega, by go_num, setK m' ynm yargs.length, hm5, by rw [setK_len]; split <;> omega, (hby.alloc (by omega) _).grown hg5 (by simp; omega) (fun z hz => by injection hz with hz; omega), by have := hg5.size; simp at this; omega, fun z hz hne => (hg5.block z (by simp; omega) (fun e => hne (by injection e))).trans ((Below.heap_alloc _ _ z (by omega)).trans (hkeep z hz hne)), ?_⟩, by simp [intOf]; omega⟩
                  show _ = _
                  rw [HD3.out]
                  cases hg : getK m' ynm with
                  | none => rfl
                  | some z => rw [hg] at q1; exact absurd rfl q1
              · have hgo2 := hgo.out
                rw [drop_end hlt3] at hgo2
                have hqe : q = aa.length := by omega
                go_wp2_with fail
                go_roundw
                case rel =>
                  refine ⟨j + 1, by omega, by go_num, m', hmr', by omega, hby, by omega, ?_⟩
                  show _ = _
                  rw [HD.out, hgo2]
                  rfl
                case measure => simp [intOf]; omega
          · have hge := hg.out
            rw [drop_end hlt2] at hge
            have hvv := HV2.out
            rw [hge] at hvv
            go_wp2_with fail
            go_ret2
            exact ⟨by rw [hvv]; rfl, hbx⟩
end Go.Proofs.YtkjoaodoioicpaaGreatDoor
