/- Query (package licitlaw54): a part of the proofs of its laws; see the law's own text, which comes last in 'order'. No conditions of its own. -/
import Derived.Test.YtkjoaodoioicpaaGreatDoorWC10
set_option linter.unusedVariables false
set_option linter.unusedSimpArgs false
namespace Go.Proofs.YtkjoaodoioicpaaGreatDoor
theorem headF_iter (b : List Atm) (most : Nat) (head : Atm) : ∀ (L : List Bnd) (s : List Atm), s.Nodup → (∀ h ∈ s, h ∉ b) →
    (iterF (headF b most head) L s).1.Nodup ∧ (∀ h ∈ (iterF (headF b most head) L s).1, h ∉ b) ∧ (∀ h ∈ (iterF (headF b most head) L s).1, h ∈ s ∨ ∃ v ∈ L, h = atomV v head) ∧ (∃ t, (iterF (headF b most head) L s).1 = s ++ t) ∧
    (b.length + (iterF (headF b most head) L s).1.length ≤ most → ∀ v ∈ L, atomV v head ∈ b ∨ atomV v head ∈ (iterF (headF b most head) L s).1) := by
  intro L
  induction L with
  | nil => intro s hs hd; exact ⟨hs, hd, fun h hh => .inl hh, ⟨[], by simp [iterF]⟩, fun _ v hv => by cases hv⟩
  | cons v L ih =>
    intro s hs hd
    have hstep : ∃ u, (headF b most head s v).1 = s ++ u ∧ (s ++ u).Nodup ∧ (∀ h ∈ s ++ u, h ∉ b) ∧ (∀ h ∈ s ++ u, h ∈ s ∨ h = atomV v head) ∧ (atomV v head ∈ b ∨ atomV v head ∈ s ++ u) ∧ (headF b most head s v).2 = decide (b.length + (s ++ u).length ≤ most) := by
      unfold headF
      simp only
      by_cases hb : atomV v head ∈ b
      · refine ⟨[], ?_, by simpa using hs, by simpa using hd, fun h hh => .inl (by simpa using hh), .inl hb, ?_⟩
        · rw [if_pos (by simp [hb])]; simp
        · rw [if_pos (by simp [hb])]; simp
      · by_cases hm : atomV v head ∈ s
        · refine ⟨[], ?_, by simpa using hs, by simpa using hd, fun h hh => .inl (by simpa using hh), .inr (by simpa using hm), ?_⟩
          · rw [if_pos (by simp [hm])]; simp
          · rw [if_pos (by simp [hm])]; simp
        · refine ⟨[atomV v head], ?_, ?_, ?_, by simp, .inr (by simp), ?_⟩
          · rw [if_neg (by simp [hb, hm])]
          · rw [List.nodup_append]
            refine ⟨hs, by simp, ?_⟩
            intro a ha c hc e
            rw [List.mem_singleton] at hc
            exact hm (by rw [← hc, ← e]; exact ha)
          · intro h hh
            rcases List.mem_append.1 hh with hh | hh
            · exact hd h hh
            · rw [List.mem_singleton.1 hh]; exact hb
          · rw [if_neg (by simp [hb, hm])]
    obtain ⟨u, e1, n1, d1, m1, c1, e2⟩ := hstep
    rw [iterF, e2, e1]
    by_cases hle : b.length + (s ++ u).length ≤ most
    · rw [if_pos (by simpa using hle)]
      obtain ⟨k1, k2, k3, ⟨t, k4⟩, k5⟩ := ih (s ++ u) n1 d1
      refine ⟨k1, k2, ?_, ⟨u ++ t, by rw [k4, List.append_assoc]⟩, ?_⟩
      · intro h hh
        rcases k3 h hh with hh | ⟨v', hv', e⟩
        · rcases m1 h hh with hh | hh
          · exact .inl hh
          · exact .inr ⟨v, List.mem_cons_self, hh⟩
        · exact .inr ⟨v', List.mem_cons_of_mem _ hv', e⟩
      · intro hl v' hv'
        rcases List.mem_cons.1 hv' with rfl | hv'
        · rcases c1 with c1 | c1
          · exact .inl c1
          · right; rw [k4]; exact List.mem_append_left _ c1
        · exact k5 hl v' hv'
    · rw [if_neg (by simpa using hle)]
      refine ⟨n1, d1, ?_, ⟨u, rfl⟩, fun hl => absurd hl hle⟩
      intro h hh
      rcases m1 h hh with hh | hh
      · exact .inl hh
      · exact .inr ⟨v, List.mem_cons_self, hh⟩
def RuleOk (r : Rul) : Prop := SafeR r ∧ atomS r.head = true
inductive Der (own : List Rul) (b0 : List Atm) : Atm → Prop
  | base {a : Atm} : a ∈ b0 → Der own b0 a
  | step {r : Rul} (θ : Sub) : r ∈ own → (∀ l ∈ r.body, positiveS l = true → Der own b0 (subT θ l.atom)) → (∀ l ∈ r.body, positiveS l = false → l.op.isEmpty = true → subT θ l.atom ∉ b0) →
      (∀ l ∈ r.body, l.op.isEmpty = false → compareS l.op (subA θ (l.atom.args.headD default)) (subA θ ((l.atom.args.drop 1).headD default)) = true) → Der own b0 (subT θ r.head)
def NegOk (own : List Rul) : Prop := ∀ r ∈ own, ∀ l ∈ r.body, positiveS l = false → l.op.isEmpty = true → ∀ r' ∈ own, r'.head.name ≠ l.atom.name
structure BInv (own : List Rul) (b0 b : List Atm) : Prop where
  nd : b.Nodup
  gr : Gr b
  sub : ∀ a ∈ b0, a ∈ b
  heads : ∀ a ∈ b, a ∈ b0 ∨ ∃ r ∈ own, r.head.name = a.name
  der : ∀ a ∈ b, Der own b0 a
theorem BInv.neg {own : List Rul} {b0 b : List Atm} (h : BInv own b0 b) (hn : NegOk own) {r : Rul} (hr : r ∈ own) {l : Ltl} (hl : l ∈ r.body) (hp : positiveS l = false) (ho : l.op.isEmpty = true) (θ : Sub) : subT θ l.atom ∈ b ↔ subT θ l.atom ∈ b0 := by
  refine ⟨fun hm => ?_, h.sub _⟩
  rcases h.heads _ hm with hm | ⟨r', hr', e⟩
  · exact hm
  · exact absurd e (hn r hr l hl hp ho r' hr')
theorem BInv.con {own : List Rul} {b0 b : List Atm} (h : BInv own b0 b) (hn : NegOk own) {r : Rul} (hr : r ∈ own) {a : Atm} (hc : Con r b b a) : Der own b0 a := by
  obtain ⟨θ, h1, h2, h3, rfl⟩ := hc
  exact .step θ hr (fun l hl hp => h.der _ (h1 l hl hp)) (fun l hl hp ho hm => h2 l hl hp ho (h.sub _ hm)) h3
theorem heads_law {own : List Rul} {b0 b : List Atm} (h : BInv own b0 b) (hn : NegOk own) (hok : ∀ r ∈ own, RuleOk r) {r : Rul} (hr : r ∈ own) (most : Nat) :
    BInv own b0 (b ++ headsS b most r) ∧ ((b ++ headsS b most r).length ≤ most → ∀ a, Con r b b a → a ∈ b ++ headsS b most r) := by
  obtain ⟨k1, k2, k3, -, k5⟩ := headF_iter b most r.head (eachQ r.body b b) [] List.nodup_nil (fun h hh => by cases hh)
  obtain ⟨hs, ha⟩ := hok r hr
  have e0 : (iterF (headF b most r.head) (eachQ r.body b b) []).1 = headsS b most r := rfl
  rw [e0] at k1 k2 k3 k5
  have hnew : ∀ a ∈ headsS b most r, Der own b0 a ∧ groundP a = true ∧ a.name = r.head.name := by
    intro a hm
    rcases k3 a hm with hm | ⟨v, hv, rfl⟩
    · cases hm
    · obtain ⟨c1, c2, c3⟩ := each_sound hs h.gr hv
      exact ⟨h.con hn hr c1, atomV_ground c2 ha c3, rfl⟩
  refine ⟨⟨?_, ?_, fun a ha => List.mem_append_left _ (h.sub a ha), ?_, ?_⟩, ?_⟩
  · rw [List.nodup_append]
    exact ⟨h.nd, k1, fun a hm c hc e => k2 c hc (e ▸ hm)⟩
  · intro a hm
    rcases List.mem_append.1 hm with hm | hm
    · exact h.gr a hm
    · exact (hnew a hm).2.1
  · intro a hm
    rcases List.mem_append.1 hm with hm | hm
    · exact h.heads a hm
    · exact .inr ⟨r, hr, (hnew a hm).2.2.symm⟩
  · intro a hm
    rcases List.mem_append.1 hm with hm | hm
    · exact h.der a hm
    · exact (hnew a hm).1
  · intro hl a hc
    obtain ⟨v, hv, rfl⟩ := each_complete hs h.gr hc
    rw [List.length_append] at hl
    exact List.mem_append.2 (k5 hl v hv)
theorem satR_law {own : List Rul} {b0 : List Atm} (hn : NegOk own) (hok : ∀ r ∈ own, RuleOk r) (most : Nat) : ∀ (rs : List Rul) (b : List Atm) (ag : Bool), (∀ r ∈ rs, r ∈ own) → BInv own b0 b → b.length ≤ most →
    match satR most rs b ag with
    | none => ∃ c : List Atm, BInv own b0 c ∧ most < c.length
    | some (b', ag') => BInv own b0 b' ∧ b'.length ≤ most ∧ (∃ t, b' = b ++ t) ∧ (ag = true → ag' = true) ∧ (ag' = false → b' = b ∧ ∀ r ∈ rs, ∀ a, Con r b b a → a ∈ b) ∧ (ag = false → ag' = true → b.length < b'.length) := by
  intro rs
  induction rs with
  | nil =>
    intro b ag _ h hl
    simp only [satR]
    exact ⟨h, hl, ⟨[], by simp⟩, fun h => h, fun _ => ⟨trivial, fun r hr => by cases hr⟩, fun h1 h2 => by rw [h1] at h2; cases h2⟩
  | cons r rs ih =>
    intro b ag hsub h hl
    have hr := hsub r List.mem_cons_self
    obtain ⟨h1, h2⟩ := heads_law h hn hok hr most
    simp only [satR]
    by_cases hm : most < (b ++ headsS b most r).length
    · rw [if_pos hm]
      exact ⟨_, h1, hm⟩
    · rw [if_neg hm]
      have ih := ih (b ++ headsS b most r) (ag || !(headsS b most r).isEmpty) (fun r hr => hsub r (List.mem_cons_of_mem _ hr)) h1 (by omega)
      have h2 := h2 (by omega)
      split at ih
      · exact ih
      · rename_i b' ag' e
        obtain ⟨g1, g2, ⟨t, g3⟩, g4, g5, g6⟩ := ih
        refine ⟨g1, g2, ⟨headsS b most r ++ t, by rw [g3, List.append_assoc]⟩, ?_, ?_, ?_⟩
        · intro ha; exact g4 (by rw [ha]; rfl)
        · intro ha
          have hne : (ag || !(headsS b most r).isEmpty) = false := by
            cases hx : (ag || !(headsS b most r).isEmpty)
            · rfl
            · rw [g4 hx] at ha; cases ha
          rw [Bool.or_eq_false_iff, Bool.not_eq_false'] at hne
          have hemp : headsS b most r = [] := List.isEmpty_iff.1 hne.2
          rw [hemp, List.append_nil] at g5 h2
          obtain ⟨e1, e2⟩ := g5 ha
          refine ⟨e1, fun r' hr' => ?_⟩
          rcases List.mem_cons.1 hr' with rfl | hr'
          · exact h2
          · exact e2 r' hr'
        · intro ha ha'
          by_cases hemp : headsS b most r = []
          · rw [hemp, List.append_nil] at g6
            exact g6 (by rw [ha]; rfl) ha'
          · rw [g3, List.length_append, List.length_append]
            have := List.length_pos_iff.2 hemp
            omega
theorem satGo_law {own : List Rul} {b0 : List Atm} (hn : NegOk own) (hok : ∀ r ∈ own, RuleOk r) (most : Nat) : ∀ (f : Nat) (b : List Atm), BInv own b0 b → b.length ≤ most → most + 2 ≤ f + b.length →
    match satGo most own f b with
    | none => ∃ c : List Atm, BInv own b0 c ∧ most < c.length
    | some b' => BInv own b0 b' ∧ b'.length ≤ most ∧ ∀ r ∈ own, ∀ a, Con r b' b' a → a ∈ b' := by
  intro f
  induction f with
  | zero => intro b _ hl hf; omega
  | succ f ih =>
    intro b h hl hf
    have hs := satR_law hn hok most own b false (fun r hr => hr) h hl
    simp only [satGo]
    split at hs
    · rename_i e
      rw [e]; exact hs
    · rename_i b' ag' e
      rw [e]
      obtain ⟨g1, g2, -, -, g5, g6⟩ := hs
      simp only
      cases ag' with
      | true =>
        have := g6 rfl rfl
        simp only [if_true]
        exact ih b' g1 g2 (by omega)
      | false =>
        obtain ⟨e1, e2⟩ := g5 rfl
        simp only [Bool.false_eq_true, if_false]
        rw [e1] at g1 g2 ⊢
        exact ⟨g1, g2, e2⟩
theorem binv_init {own : List Rul} {b0 : List Atm} (hnd : b0.Nodup) (hg : Gr b0) : BInv own b0 b0 := ⟨hnd, hg, fun a h => h, fun a h => .inl h, fun a h => .base h⟩
theorem closed_der {own : List Rul} {b0 b : List Atm} (h : BInv own b0 b) (hn : NegOk own) (hc : ∀ r ∈ own, ∀ a, Con r b b a → a ∈ b) {a : Atm} (hd : Der own b0 a) : a ∈ b := by
  induction hd with
  | base hm => exact h.sub _ hm
  | step θ hr hp hneg hcmp ih => exact hc _ hr _ ⟨θ, fun l hl hp => ih l hl hp, fun l hl hp ho hm => hneg l hl hp ho ((h.neg hn hr hl hp ho θ).1 hm), hcmp, rfl⟩
theorem stratum_law {own : List Rul} {b0 : List Atm} (hn : NegOk own) (hok : ∀ r ∈ own, RuleOk r) (most : Nat) (hnd : b0.Nodup) (hg : Gr b0) (hl : b0.length ≤ most) :
    match satGo most own (most + 2) b0 with
    | none => ∃ c : List Atm, c.Nodup ∧ (∀ a ∈ c, Der own b0 a) ∧ most < c.length
    | some b => BInv own b0 b ∧ b.length ≤ most ∧ ∀ a, a ∈ b ↔ Der own b0 a := by
  have h := satGo_law hn hok most (most + 2) b0 (binv_init hnd hg) hl (by omega)
  generalize satGo most own (most + 2) b0 = R at *
  cases R with
  | none =>
    obtain ⟨c, hc, hm⟩ := h
    exact ⟨c, hc.nd, hc.der, hm⟩
  | some b =>
    obtain ⟨h1, h2, h3⟩ := h
    exact ⟨h1, h2, fun a => ⟨h1.der a, closed_der h1 hn h3⟩⟩
theorem nodup_le : ∀ (c b : List Atm), c.Nodup → (∀ a ∈ c, a ∈ b) → c.length ≤ b.length := by
  intro c
  induction c with
  | nil => intro b _ _; exact Nat.zero_le _
  | cons a c ih =>
    intro b hc hs
    rw [List.nodup_cons] at hc
    have hab := hs a List.mem_cons_self
    have h := ih (b.erase a) hc.2 (fun x hx => (List.mem_erase_of_ne (fun e => hc.1 (by rw [← e]; exact hx))).2 (hs x (List.mem_cons_of_mem _ hx)))
    rw [List.length_erase_of_mem hab] at h
    have := List.length_pos_of_mem hab
    simp only [List.length_cons]
    omega
end Go.Proofs.YtkjoaodoioicpaaGreatDoor
namespace Go.Proofs.YtkjoaodoioicpaaGreatDoor
def Cons (L : List Atm) : Prop := ∀ a ∈ L, ∀ b ∈ L, a.name = b.name → a.args.length = b.args.length
theorem seenBad_false {seen : List Atm} {a : Atm} : seenBad seen a = false ↔ ∀ b ∈ seen, b.name = a.name → b.args.length = a.args.length := by
  unfold seenBad
  rw [List.any_eq_false]
  constructor
  · intro h b hb hn
    have := h b hb
    simp only [Bool.and_eq_true, beq_iff_eq, bne_iff_ne, ne_eq, not_and, Classical.not_not] at this
    exact this hn
  · intro h b hb
    simp only [Bool.and_eq_true, beq_iff_eq, bne_iff_ne, ne_eq, not_and, Classical.not_not]
    exact h b hb
theorem cons_snoc {seen : List Atm} (hs : Cons seen) {a : Atm} : Cons (seen ++ [a]) ↔ seenBad seen a = false := by
  rw [seenBad_false]
  constructor
  · intro h b hb hn
    exact h b (List.mem_append_left _ hb) a (by simp) hn
  · intro h x hx y hy e
    rcases List.mem_append.1 hx with hx | hx <;> rcases List.mem_append.1 hy with hy | hy
    · exact hs x hx y hy e
    · rw [List.mem_singleton.1 hy] at e ⊢; exact h x hx e
    · rw [List.mem_singleton.1 hx] at e ⊢; exact (h y hy e.symm).symm
    · rw [List.mem_singleton.1 hx, List.mem_singleton.1 hy]
theorem cons_sub {L L' : List Atm} (h : ∀ a ∈ L, a ∈ L') (hc : Cons L') : Cons L := fun a ha b hb e => hc a (h a ha) b (h b hb) e
theorem rarA_iff : ∀ (aa seen : List Atm), Cons seen → ((∃ s', rarA seen aa = some s') ↔ Cons (seen ++ aa)) ∧ ∀ s', rarA seen aa = some s' → s' = seen ++ aa := by
  intro aa
  induction aa with
  | nil => intro seen hs; simp [rarA, hs]
  | cons a r ih =>
    intro seen hs
    rw [rarA]
    by_cases hb : seenBad seen a = true
    · rw [if_pos hb]
      refine ⟨⟨fun ⟨s', h⟩ => (by cases h), fun h => ?_⟩, fun s' h => by cases h⟩
      have : Cons (seen ++ [a]) := cons_sub (fun x hx => by rcases List.mem_append.1 hx with hx | hx; exact List.mem_append_left _ hx; rw [List.mem_singleton.1 hx]; simp) h
      rw [cons_snoc hs, hb] at this
      cases this
    · rw [if_neg hb]
      have hb' : seenBad seen a = false := by simpa using hb
      have h := ih (seen ++ [a]) ((cons_snoc hs).2 hb')
      rw [List.append_assoc] at h
      exact h
def allAtoms (l : List Rul) : List Atm := l.flatMap atomsS
theorem rarR_iff : ∀ (l : List Rul) (seen : List Atm) (i : Int), Cons seen → (rarR seen l i = none ↔ Cons (seen ++ allAtoms l)) := by
  intro l
  induction l with
  | nil => intro seen i hs; simp [rarR, allAtoms, hs]
  | cons r t ih =>
    intro seen i hs
    obtain ⟨h1, h2⟩ := rarA_iff (atomsS r) seen hs
    have e : seen ++ allAtoms (r :: t) = seen ++ atomsS r ++ allAtoms t := by simp [allAtoms]
    rw [rarR, e]
    cases hA : rarA seen (atomsS r) with
    | none =>
      refine ⟨fun h => (by cases h), fun h => ?_⟩
      obtain ⟨s', hs'⟩ := h1.2 (cons_sub (fun x hx => List.mem_append_left _ hx) h)
      rw [hA] at hs'; cases hs'
    | some s' =>
      have := h2 s' hA
      subst this
      exact ih _ _ (h1.1 ⟨_, hA⟩)
theorem firstBad_iff : ∀ (l : List Rul) (i : Int), firstBad l i = none ↔ ∀ r ∈ l, ruleS r = true ∧ safeS r = true := by
  intro l
  induction l with
  | nil => intro i; simp [firstBad]
  | cons r t ih =>
    intro i
    rw [firstBad, List.forall_mem_cons]
    cases hr : ruleS r
    · simp
    · cases hs : safeS r
      · simp
      · simp [ih]
theorem checkS_ok (l : List Rul) : (checkS53 l).2 = 0 ↔ l.length ≤ 64 ∧ (∀ r ∈ l, ruleS r = true ∧ safeS r = true) ∧ Cons (allAtoms l) ∧ ∃ m, levelsS l = some m := by
  have hemp : Cons [] := fun a ha => by cases ha
  have har : arRules [] l 0 = rarR [] l 0 := ar_rules l [] [] 0 ⟨(fun b hb => nomatch hb), fun s v h => by simp [getK] at h⟩
  have hrr := rarR_iff l [] 0 hemp
  rw [List.nil_append] at hrr
  unfold checkS53 check0S
  simp only
  by_cases h64 : 64 < l.length
  · rw [if_pos h64]; simp; omega
  · rw [if_neg h64]
    cases hf : firstBad l 0 with
    | some e =>
      have hne : ¬ ∀ r ∈ l, ruleS r = true ∧ safeS r = true := fun h => by rw [(firstBad_iff l 0).2 h] at hf; cases hf
      have he : e.2 ≠ 0 := by
        have key : ∀ (l : List Rul) (i : Int) (e : Int × Int), firstBad l i = some e → e.2 ≠ 0 := by
          intro l
          induction l with
          | nil => intro i e h; cases h
          | cons r t ih =>
            intro i e h
            rw [firstBad] at h
            split at h
            · injection h with h; rw [← h]; simp
            · split at h
              · injection h with h; rw [← h]; simp
              · exact ih _ _ h
        exact key _ _ _ hf
      simp only
      rw [if_pos he]
      constructor
      · intro h; exact absurd h he
      · intro h; exact absurd h.2.1 hne
    | none =>
      have hall := (firstBad_iff l 0).1 hf
      simp only
      rw [har]
      cases hr : rarR [] l 0 with
      | some i =>
        simp only
        constructor
        · intro h; simp at h
        · intro h; rw [hrr.2 h.2.2.1] at hr; cases hr
      | none =>
        have hc := hrr.1 hr
        simp only [ne_eq, not_true_eq_false, if_false]
        cases hl : levelsS l with
        | none => simp
        | some m => simp; exact ⟨by omega, hall, hc⟩
theorem SG.ext {m m' : KMap} {P : List Bs} {R R' : List (List Bs)} (h : SG m P R) (h' : SG m' P R') (hv : ∀ s, getV m' s = getV m s) : R = R' := by
  have hL : ∀ s, Lv m' s = Lv m s := fun s => by unfold Lv; rw [hv]
  have hle : ∀ {m m' : KMap} {R R' : List (List Bs)}, SG m P R → SG m' P R' → (∀ s, Lv m' s = Lv m s) → R.length ≤ R'.length := by
    intro m m' R R' h h' hL
    rcases h.top with h0 | ⟨s, hs, h0⟩
    · omega
    · have := h'.lt s hs
      rw [hL] at this
      omega
  have hlen : R.length = R'.length := Nat.le_antisymm (hle h h' hL) (hle h' h (fun s => (hL s).symm))
  refine List.ext_getElem hlen fun n h1 h2 => ?_
  have e1 := h.row n
  have e2 := h'.row n
  rw [List.getD_eq_getElem?_getD, List.getElem?_eq_getElem h1] at e1
  rw [List.getD_eq_getElem?_getD, List.getElem?_eq_getElem h2] at e2
  simp only [Option.getD_some] at e1 e2
  rw [e1, e2]
  congr 1
  funext s
  rw [hL]
theorem strata_ok {l : List Rul} (hc : (checkS53 l).2 = 0) : ∃ m, levelsS l = some m ∧ (strataS l).1 = strGo m [] (sortB (m.map (·.1))) := by
  obtain ⟨m, hm⟩ := ((checkS_ok l).1 hc).2.2.2
  refine ⟨m, hm, ?_⟩
  unfold strataS
  simp only
  rw [if_neg (by rw [hc]; simp), hm]
end Go.Proofs.YtkjoaodoioicpaaGreatDoor
namespace Go.Proofs.YtkjoaodoioicpaaGreatDoor
abbrev SortT (l : List Atm) : Prop := l.Pairwise fun a b => ordS a b = -1
theorem ordS_tr {a b c : Atm} (h1 : ordS a b = -1) (h2 : ordS b c = -1) : ordS a c = -1 := by
  rw [ordS_key] at *
  exact ordT.tr _ _ _ h1 h2
theorem ordS_irr (a : Atm) : ordS a a = 0 := by rw [ordS_key, ordT.eq0]
theorem ordS_neg (a b : Atm) : ordS b a = - ordS a b := by rw [ordS_key, ordS_key]; exact ordT.neg _ _
theorem ordS_tot {a b : Atm} (ha : atomS a = true) (hb : atomS b = true) : ordS a b = -1 ∨ a = b ∨ ordS b a = -1 := by
  have hn := ordS_neg a b
  have hr : ordS a b = -1 ∨ ordS a b = 0 ∨ ordS a b = 1 := by rw [ordS_key]; exact ordT.rng _ _
  rcases hr with h | h | h
  · exact .inl h
  · right; left
    rw [ordS_key, ordT.eq0] at h
    exact keyT_inj ha hb h
  · right; right; omega
theorem mem_insT (a x : Atm) (l : List Atm) : x ∈ insT a l ↔ x = a ∨ x ∈ l := by
  induction l with
  | nil => simp [insT]
  | cons y r ih =>
    rw [insT]
    split
    · rw [List.mem_cons, ih, List.mem_cons]
      constructor
      · rintro (h | h | h)
        · exact .inr (.inl h)
        · exact .inl h
        · exact .inr (.inr h)
      · rintro (h | h | h)
        · exact .inr (.inl h)
        · exact .inl h
        · exact .inr (.inr h)
    · simp
theorem sort_insT (a : Atm) (l : List Atm) (ha : atomS a = true) (hl : ∀ x ∈ l, atomS x = true) (hn : a ∉ l) (h : SortT l) : SortT (insT a l) := by
  induction l with
  | nil => simp [insT]
  | cons y r ih =>
    have hp := List.pairwise_cons.1 h
    have hy := hl y List.mem_cons_self
    have hne : a ≠ y := fun e => hn (by rw [e]; exact List.mem_cons_self)
    rw [insT]
    split
    · rename_i hlt
      have hya : ordS y a = -1 := by
        have hr : ordS y a = -1 ∨ ordS y a = 0 ∨ ordS y a = 1 := by rw [ordS_key]; exact ordT.rng _ _
        omega
      refine List.pairwise_cons.2 ⟨fun x hx => ?_, ih (fun x hx => hl x (List.mem_cons_of_mem _ hx)) (fun hm => hn (List.mem_cons_of_mem _ hm)) hp.2⟩
      rcases (mem_insT a x r).1 hx with rfl | hx
      · exact hya
      · exact hp.1 x hx
    · rename_i hlt
      have hay : ordS a y = -1 := by
        rcases ordS_tot ha hy with h | h | h
        · exact h
        · exact absurd h hne
        · omega
      refine List.pairwise_cons.2 ⟨fun x hx => ?_, h⟩
      rcases List.mem_cons.1 hx with rfl | hx
      · exact hay
      · exact ordS_tr hay (hp.1 x hx)
theorem len_insT (a : Atm) (l : List Atm) : (insT a l).length = l.length + 1 := by
  induction l with
  | nil => rfl
  | cons y r ih =>
    rw [insT]
    split
    · simp [ih]
    · simp
theorem mem_sortT (l : List Atm) (x : Atm) : x ∈ sortT l ↔ x ∈ l := by
  induction l with
  | nil => simp [sortT]
  | cons a r ih =>
    have : sortT (a :: r) = insT a (sortT r) := rfl
    rw [this, mem_insT, ih, List.mem_cons]
theorem len_sortT (l : List Atm) : (sortT l).length = l.length := by
  induction l with
  | nil => rfl
  | cons a r ih =>
    have : sortT (a :: r) = insT a (sortT r) := rfl
    rw [this, len_insT, ih, List.length_cons]
theorem sort_sortT {l : List Atm} (hl : ∀ x ∈ l, atomS x = true) (hn : l.Nodup) : SortT (sortT l) := by
  induction l with
  | nil => exact List.Pairwise.nil
  | cons a r ih =>
    have : sortT (a :: r) = insT a (sortT r) := rfl
    rw [this]
    rw [List.nodup_cons] at hn
    exact sort_insT a _ (hl a List.mem_cons_self) (fun x hx => hl x (List.mem_cons_of_mem _ ((mem_sortT r x).1 hx))) (fun hm => hn.1 ((mem_sortT r a).1 hm)) (ih (fun x hx => hl x (List.mem_cons_of_mem _ hx)) hn.2)
theorem sortT_unique (l : List Atm) : ∀ t, SortT l → SortT t → (∀ s, s ∈ l ↔ s ∈ t) → l = t := by
  induction l with
  | nil =>
    intro t _ _ h
    cases t with
    | nil => rfl
    | cons b u => exact absurd ((h b).2 List.mem_cons_self) (by simp)
  | cons a r ih =>
    intro t h1 h2 h
    cases t with
    | nil => exact absurd ((h a).1 List.mem_cons_self) (by simp)
    | cons b u =>
      have p1 := List.pairwise_cons.1 h1
      have p2 := List.pairwise_cons.1 h2
      have irr : ∀ x, ordS x x = -1 → False := fun x hx => by rw [ordS_irr] at hx; omega
      have hab : a = b := by
        rcases List.mem_cons.1 ((h a).1 List.mem_cons_self) with e | e
        · exact e
        · rcases List.mem_cons.1 ((h b).2 List.mem_cons_self) with e' | e'
          · exact e'.symm
          · exact absurd (ordS_tr (p1.1 b e') (p2.1 a e)) (irr a)
      subst hab
      congr 1
      refine ih u p1.2 p2.2 fun s => ⟨fun hs => ?_, fun hs => ?_⟩
      · rcases List.mem_cons.1 ((h s).1 (List.mem_cons_of_mem _ hs)) with e | e
        · rw [e] at hs; exact absurd (p1.1 a hs) (irr a)
        · exact e
      · rcases List.mem_cons.1 ((h s).2 (List.mem_cons_of_mem _ hs)) with e | e
        · rw [e] at hs; exact absurd (p2.1 a hs) (irr a)
        · exact e
theorem addQ_mem {b : List Atm} {a x : Atm} : x ∈ addQ b a ↔ x ∈ b ∨ x = a := by
  unfold addQ
  split
  · rename_i h
    constructor
    · exact .inl
    · rintro (h' | rfl)
      · exact h'
      · simpa using h
  · simp
theorem addQ_nodup {b : List Atm} (h : b.Nodup) (a : Atm) : (addQ b a).Nodup := by
  unfold addQ
  split
  · exact h
  · rename_i hc
    rw [List.nodup_append]
    refine ⟨h, by simp, fun x hx y hy e => ?_⟩
    rw [List.mem_singleton] at hy
    subst hy
    subst e
    exact hc (by simpa using hx)
theorem given_fold (l : List Atm) : ∀ b : List Atm, b.Nodup → (l.foldl addQ b).Nodup ∧ ∀ x, x ∈ l.foldl addQ b ↔ x ∈ b ∨ x ∈ l := by
  induction l with
  | nil => intro b h; exact ⟨h, fun x => by simp⟩
  | cons a r ih =>
    intro b h
    obtain ⟨h1, h2⟩ := ih (addQ b a) (addQ_nodup h a)
    refine ⟨h1, fun x => ?_⟩
    rw [List.foldl_cons, h2, addQ_mem, List.mem_cons]
    constructor
    · rintro ((h | h) | h)
      · exact .inl h
      · exact .inr (.inl h)
      · exact .inr (.inr h)
    · rintro (h | h | h)
      · exact .inl (.inl h)
      · exact .inl (.inr h)
      · exact .inr h
theorem given_nodup (l : List Atm) : (givenS l).Nodup := (given_fold l [] List.nodup_nil).1
theorem mem_given (l : List Atm) (x : Atm) : x ∈ givenS l ↔ x ∈ l := by
  have := (given_fold l [] List.nodup_nil).2 x
  unfold givenS
  rw [this]
  simp
theorem safe_safe {r : Rul} (hs : safeS r = true) : SafeR r := by
  unfold safeS at hs
  rw [List.all_eq_true] at hs
  have key : ∀ s, s ∈ varsS r → ∃ x ∈ r.body, positiveS x = true ∧ hasV x.atom.args s := by
    intro s hm
    have := hs s hm
    have hb : s ∈ boundS r := by simpa using this
    unfold boundS at hb
    rw [mem_addB] at hb
    rcases hb with hb | ⟨x, hx, hv⟩
    · cases hb
    · rw [List.mem_filter] at hx
      refine ⟨x, hx.1, ?_, hv⟩
      have := hx.2
      unfold posS compsS at this
      unfold positiveS
      simpa using this
  have mk : ∀ l : List Arg, (∀ s, hasV l s → s ∈ varsS r) → SafeV r l := by
    intro l hl a ha hk
    obtain ⟨x, hx, hp, y, hy, hyk, hyt⟩ := key a.text (hl a.text ⟨a, ha, hk, rfl⟩)
    exact ⟨x, hx, hp, y, hy, hyk, hyt⟩
  constructor
  · refine mk _ fun s hv => ?_
    unfold varsS
    rw [mem_addB, mem_addV]
    exact .inl (.inr hv)
  · intro x hx
    refine mk _ fun s hv => ?_
    unfold varsS
    rw [mem_addB]
    exact .inr ⟨x, hx, hv⟩
theorem rule_head {r : Rul} (h : ruleS r = true) : atomS r.head = true := by
  unfold ruleS at h
  simp only [Bool.and_eq_true] at h
  exact h.1.1.1
theorem checked_ok {l : List Rul} (hc : (checkS53 l).2 = 0) : ∀ r ∈ l, RuleOk r := fun r hr => by
  obtain ⟨h1, h2⟩ := ((checkS_ok l).1 hc).2.1 r hr
  exact ⟨safe_safe h2, rule_head h1⟩
structure Rows (l : List Rul) (m : KMap) (R : List (List Bs)) : Prop where
  meets : Meets l (getV m)
  pos : ∀ s, 0 ≤ getV m s
  lt : ∀ r ∈ l, Lv m r.head.name < R.length
  row : ∀ (i : Nat) (h : i < R.length), ∀ r ∈ l, r.head.name ∈ R[i] ↔ Lv m r.head.name = i
theorem rows_of {l : List Rul} (hc : (checkS53 l).2 = 0) : ∃ m, Rows l m (strataS l).1 := by
  obtain ⟨m, hm, e⟩ := strata_ok hc
  refine ⟨m, ?_⟩
  have h1 := levels_law l m hm
  have h2 := (strata_rows l m hm).1
  rw [← e] at h2
  have hin : ∀ r ∈ l, r.head.name ∈ insNames [] l := fun r hr => ((insNames_mem l [] List.Pairwise.nil).2 _).2 (.inr ⟨r, hr, r.head, List.mem_cons_self, rfl⟩)
  refine ⟨h1.2.2.1, fun s => (h1.2.1 s).1, fun r hr => h2.lt _ (hin r hr), fun i hi r hr => ?_⟩
  have hrow := h2.row i
  rw [List.getD_eq_getElem?_getD, List.getElem?_eq_getElem hi] at hrow
  simp only [Option.getD_some] at hrow
  rw [hrow, List.mem_filter]
  simp [hin r hr]
theorem mem_own {l : List Rul} {names : List Bs} {r : Rul} : r ∈ ownS l names ↔ r ∈ l ∧ r.head.name ∈ names := by
  unfold ownS
  rw [List.mem_filter]
  simp
theorem lit_neg {x : Ltl} (hp : positiveS x = false) (ho : x.op.isEmpty = true) : x.neg = true ∧ compsS x = false := by
  unfold positiveS at hp
  unfold compsS
  rw [ho] at hp ⊢
  simpa using hp
theorem lit_pos {x : Ltl} (hp : positiveS x = true) : compsS x = false := by
  unfold positiveS at hp
  unfold compsS
  rw [Bool.and_eq_true] at hp
  rw [hp.1]; rfl
theorem Rows.level {l : List Rul} {m : KMap} {R : List (List Bs)} (h : Rows l m R) {r : Rul} (hr : r ∈ l) {x : Ltl} (hx : x ∈ r.body) (hc : compsS x = false) : Lv m x.atom.name + (if x.neg then 1 else 0) ≤ Lv m r.head.name := by
  have := h.meets r hr x hx hc
  have h0 := h.pos x.atom.name
  have h1 := h.pos r.head.name
  unfold Lv
  split at this
  · rename_i hn; rw [if_pos hn]; omega
  · rename_i hn; rw [if_neg hn]; omega
theorem Rows.neg {l : List Rul} {m : KMap} {R : List (List Bs)} (h : Rows l m R) {i : Nat} (hi : i < R.length) : NegOk (ownS l R[i]) := by
  intro r hr x hx hp ho r' hr' e
  obtain ⟨h1, h2⟩ := mem_own.1 hr
  obtain ⟨h3, h4⟩ := mem_own.1 hr'
  have e1 := (h.row i hi r h1).1 h2
  have e2 := (h.row i hi r' h3).1 h4
  obtain ⟨hn, hc⟩ := lit_neg hp ho
  have := h.level h1 hx hc
  rw [hn, if_pos rfl, ← e, e1, e2] at this
  omega
structure MInv (l : List Rul) (m : KMap) (g : List Atm) (i : Nat) (b : List Atm) : Prop where
  nd : b.Nodup
  gr : Gr b
  sub : ∀ a ∈ g, a ∈ b
  heads : ∀ a ∈ b, a ∈ g ∨ ∃ r ∈ l, r.head.name = a.name ∧ Lv m r.head.name < i
  closed : ∀ r ∈ l, Lv m r.head.name < i → ∀ a, Con r b b a → a ∈ b
  supp : ∀ a ∈ b, a ∈ g ∨ ∃ r ∈ l, Con r b b a
theorem con_level {l : List Rul} {m : KMap} {R : List (List Bs)} (h : Rows l m R) {b b' : List Atm} {i : Nat} (hs : ∀ a ∈ b, a ∈ b') (hnew : ∀ a ∈ b', a ∈ b ∨ Lv m a.name = i) {r : Rul} (hr : r ∈ l) (hlt : Lv m r.head.name < i) {a : Atm} : Con r b' b' a ↔ Con r b b a := by
  have hmem : ∀ x ∈ r.body, compsS x = false → ∀ θ, subT θ x.atom ∈ b' ↔ subT θ x.atom ∈ b := by
    intro x hx hc θ
    refine ⟨fun hm => ?_, hs _⟩
    rcases hnew _ hm with hm | hm
    · exact hm
    · have := h.level hr hx hc
      have hm : Lv m x.atom.name = i := hm
      split at this <;> omega
  unfold Con
  constructor
  · rintro ⟨θ, h1, h2, h3⟩
    exact ⟨θ, fun x hx hp => (hmem x hx (lit_pos hp) θ).1 (h1 x hx hp), fun x hx hp ho hm => h2 x hx hp ho ((hmem x hx (lit_neg hp ho).2 θ).2 hm), h3⟩
  · rintro ⟨θ, h1, h2, h3⟩
    exact ⟨θ, fun x hx hp => (hmem x hx (lit_pos hp) θ).2 (h1 x hx hp), fun x hx hp ho hm => h2 x hx hp ho ((hmem x hx (lit_neg hp ho).2 θ).1 hm), h3⟩
theorem stratum_step {l : List Rul} {m : KMap} {R : List (List Bs)} (h : Rows l m R) (hok : ∀ r ∈ l, RuleOk r) {g b b' : List Atm} {i : Nat} (hi : i < R.length) (hm : MInv l m g i b) (hb : BInv (ownS l R[i]) b b') (hd : ∀ a, a ∈ b' ↔ Der (ownS l R[i]) b a) (hcl : ∀ r ∈ ownS l R[i], ∀ a, Con r b' b' a → a ∈ b') : MInv l m g (i + 1) b' := by
  have hnew : ∀ a ∈ b', a ∈ b ∨ Lv m a.name = i := by
    intro a ha
    rcases hb.heads a ha with ha | ⟨r, hr, e⟩
    · exact .inl ha
    · right
      rw [← e]
      exact (h.row i hi r (mem_own.1 hr).1).1 (mem_own.1 hr).2
  refine ⟨hb.nd, hb.gr, fun a ha => hb.sub a (hm.sub a ha), ?_, ?_, ?_⟩
  · intro a ha
    rcases hb.heads a ha with ha | ⟨r, hr, e⟩
    · rcases hm.heads a ha with ha | ⟨r, hr, e, hlt⟩
      · exact .inl ha
      · exact .inr ⟨r, hr, e, by omega⟩
    · refine .inr ⟨r, (mem_own.1 hr).1, e, ?_⟩
      have := (h.row i hi r (mem_own.1 hr).1).1 (mem_own.1 hr).2
      omega
  · intro r hr hlt a hc
    by_cases hi2 : Lv m r.head.name = i
    · exact hcl r (mem_own.2 ⟨hr, (h.row i hi r hr).2 hi2⟩) a hc
    · exact hb.sub a (hm.closed r hr (by omega) a ((con_level h hb.sub hnew hr (by omega)).1 hc))
  · intro a ha
    have hda := (hd a).1 ha
    by_cases hab : a ∈ b
    · rcases hm.supp a hab with hg | ⟨r, hr, hc⟩
      · exact .inl hg
      · by_cases hlt : Lv m r.head.name < i
        · exact .inr ⟨r, hr, (con_level h hb.sub hnew hr hlt).2 hc⟩
        · rcases hm.heads a hab with hg | ⟨r', hr', e, hlt'⟩
          · exact .inl hg
          · exfalso
            obtain ⟨θ, -, -, -, e2⟩ := hc
            have e3 : a.name = r.head.name := by rw [e2]; rfl
            rw [e3] at e
            rw [e] at hlt'
            exact hlt hlt'
    · cases hda with
      | base hx => exact absurd hx hab
      | step θ hr hp hn hcmp =>
        rename_i r
        right
        refine ⟨r, (mem_own.1 hr).1, θ, fun x hx hpx => (hd _).2 (hp x hx hpx), fun x hx hpx ho hmx => hn x hx hpx ho ?_, hcmp, rfl⟩
        exact (hb.neg (h.neg hi) hr hx hpx ho θ).1 hmx
theorem modGo_law {l : List Rul} {m : KMap} {R : List (List Bs)} (h : Rows l m R) (hok : ∀ r ∈ l, RuleOk r) (g : List Atm) (most : Nat) : ∀ (k i : Nat) (b b' : List Atm), R.length = i + k → MInv l m g i b → b.length ≤ most → modGo most l (R.drop i) b = some b' → MInv l m g R.length b' ∧ b'.length ≤ most := by
  intro k
  induction k with
  | zero =>
    intro i b b' hk hm hl he
    rw [List.drop_of_length_le (by omega), modGo] at he
    injection he with he
    subst he
    have : i = R.length := by omega
    subst this
    exact ⟨hm, hl⟩
  | succ k ih =>
    intro i b b' hk hm hl he
    have hi : i < R.length := by omega
    rw [List.drop_eq_getElem_cons hi, modGo] at he
    have hst := stratum_law (h.neg hi) (fun r hr => hok r (mem_own.1 hr).1) most hm.nd hm.gr hl
    have hgo := satGo_law (h.neg hi) (fun r hr => hok r (mem_own.1 hr).1) most (most + 2) b (binv_init hm.nd hm.gr) hl (by omega)
    cases hs : satGo most (ownS l R[i]) (most + 2) b with
    | none => rw [hs] at he; cases he
    | some b1 =>
      rw [hs] at he hst hgo
      simp only at he hst hgo
      obtain ⟨s1, s2, s3⟩ := hst
      exact ih (i + 1) b1 b' (by omega) (stratum_step h hok hi hm s1 s3 hgo.2.2) s2 he
theorem minv_init {l : List Rul} {m : KMap} {g : List Atm} (hn : g.Nodup) (hg : Gr g) : MInv l m g 0 g := ⟨hn, hg, fun a h => h, fun a h => .inl h, fun r _ h => absurd h (Nat.not_lt_zero _), fun a h => .inl h⟩
end Go.Proofs.YtkjoaodoioicpaaGreatDoor
