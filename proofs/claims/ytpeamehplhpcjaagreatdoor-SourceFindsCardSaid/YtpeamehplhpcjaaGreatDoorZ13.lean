/- A part of the proofs of the laws of one package; see the law's own text, which comes last in 'order'. No conditions of its own. -/
import Derived.Test.YtpeamehplhpcjaaGreatDoorZ03
import Derived.Test.YtpeamehplhpcjaaGreatDoorZ04
set_option linter.unusedVariables false
set_option linter.unusedSimpArgs false
namespace Go.Proofs.YtpeamehplhpcjaaGreatDoor
theorem ltS_irr (a : Bs) : ltS a a = false := by
  induction a with
  | nil => rfl
  | cons x r ih => simp [ltS, ih]
theorem ltS_trans (a : Bs) : ∀ b c, ltS a b = true → ltS b c = true → ltS a c = true := by
  induction a with
  | nil =>
    intro b c h1 h2
    cases b with
    | nil => cases h1
    | cons y t =>
      cases c with
      | nil => cases h2
      | cons z u => rfl
  | cons x r ih =>
    intro b c h1 h2
    cases b with
    | nil => cases h1
    | cons y t =>
      cases c with
      | nil => cases h2
      | cons z u =>
        simp only [ltS] at h1 h2 ⊢
        by_cases hxy : x = y
        · subst hxy
          rw [if_pos rfl] at h1
          by_cases hxz : x = z
          · subst hxz
            rw [if_pos rfl] at h2 ⊢
            exact ih _ _ h1 h2
          · rw [if_neg hxz] at h2 ⊢
            exact h2
        · rw [if_neg hxy] at h1
          by_cases hyz : y = z
          · subst hyz
            rw [if_neg hxy]
            exact h1
          · rw [if_neg hyz] at h2
            simp only [decide_eq_true_eq] at h1 h2
            have hxz : x ≠ z := fun e => by subst e; omega
            rw [if_neg hxz]
            simp only [decide_eq_true_eq]
            omega
theorem ltS_tot (a : Bs) : ∀ b, ltS a b = true ∨ a = b ∨ ltS b a = true := by
  induction a with
  | nil => intro b; cases b with | nil => exact .inr (.inl rfl) | cons y t => exact .inl rfl
  | cons x r ih =>
    intro b
    cases b with
    | nil => exact .inr (.inr rfl)
    | cons y t =>
      simp only [ltS]
      by_cases h : x = y
      · subst h
        rw [if_pos rfl, if_pos rfl]
        rcases ih t with h | h | h
        · exact .inl h
        · exact .inr (.inl (by rw [h]))
        · exact .inr (.inr h)
      · rw [if_neg h, if_neg (Ne.symm h)]
        have : x.toNat ≠ y.toNat := fun e => h (UInt8.toNat_inj.1 e)
        simp only [decide_eq_true_eq]
        omega
abbrev Srt {α : Type} (lt : α → α → Bool) (l : List α) : Prop := l.Pairwise fun a b => lt a b = true
structure Strict {α : Type} (lt : α → α → Bool) : Prop where
  irr : ∀ a, lt a a = false
  trans : ∀ a b c, lt a b = true → lt b c = true → lt a c = true
theorem strS : Strict ltS := ⟨ltS_irr, ltS_trans⟩
theorem strMac : Strict ltMac := ⟨fun a => ltS_irr _, fun a b c => ltS_trans _ _ _⟩
theorem strLn : Strict ltLn := by
  refine ⟨fun a => ?_, fun a b c h1 h2 => ?_⟩
  · unfold ltLn; simp [ltS_irr]
  · unfold ltLn at *
    simp only [Bool.or_eq_true, Bool.and_eq_true, beq_iff_eq, decide_eq_true_eq] at *
    rcases h1 with h1 | ⟨e1, h1⟩ <;> rcases h2 with h2 | ⟨e2, h2⟩
    · exact .inl (ltS_trans _ _ _ h1 h2)
    · exact .inl (e2 ▸ h1)
    · exact .inl (e1 ▸ h2)
    · exact .inr ⟨e1.trans e2, by omega⟩
theorem ltLn_tot (a b : Ln) : ltLn a b = true ∨ a = b ∨ ltLn b a = true := by
  obtain ⟨p, n⟩ := a
  obtain ⟨q, m⟩ := b
  unfold ltLn
  simp only [Bool.or_eq_true, Bool.and_eq_true, beq_iff_eq, decide_eq_true_eq]
  rcases ltS_tot p q with h | h | h
  · exact .inl (.inl h)
  · subst h
    rcases Int.lt_trichotomy n m with h | h | h
    · exact .inl (.inr ⟨rfl, h⟩)
    · exact .inr (.inl (by rw [h]))
    · exact .inr (.inr (.inr ⟨rfl, h⟩))
  · exact .inr (.inr (.inl h))
theorem srt_unique {α : Type} {lt : α → α → Bool} (hs : Strict lt) : ∀ {l m : List α}, Srt lt l → Srt lt m → (∀ x, x ∈ l ↔ x ∈ m) → l = m := by
  intro l
  induction l with
  | nil =>
    intro m _ _ h
    cases m with
    | nil => rfl
    | cons y t => exact absurd ((h y).2 (by simp)) (by simp)
  | cons x r ih =>
    intro m h1 h2 h
    cases m with
    | nil => exact absurd ((h x).1 (by simp)) (by simp)
    | cons y t =>
      have p1 := List.pairwise_cons.1 h1
      have p2 := List.pairwise_cons.1 h2
      have hxy : x = y := by
        have a1 := (h x).1 (by simp)
        have a2 := (h y).2 (by simp)
        rcases List.mem_cons.1 a1 with e | e
        · exact e
        · rcases List.mem_cons.1 a2 with e' | e'
          · exact e'.symm
          · have := hs.trans _ _ _ (p1.1 y e') (p2.1 x e)
            rw [hs.irr] at this
            cases this
      subst hxy
      rw [ih p1.2 p2.2 fun z => ?_]
      constructor
      · intro hz
        rcases List.mem_cons.1 ((h z).1 (List.mem_cons_of_mem _ hz)) with e | e
        · subst e
          have := p1.1 z hz
          rw [hs.irr] at this
          cases this
        · exact e
      · intro hz
        rcases List.mem_cons.1 ((h z).2 (List.mem_cons_of_mem _ hz)) with e | e
        · subst e
          have := p2.1 z hz
          rw [hs.irr] at this
          cases this
        · exact e
theorem mem_insG {α : Type} {lt : α → α → Bool} (x : α) : ∀ (l : List α) (_ : ∀ y ∈ l, lt y x = true ∨ y = x ∨ lt x y = true) (z : α), z ∈ insG lt x l ↔ z = x ∨ z ∈ l := by
  intro l
  induction l with
  | nil => intro _ z; simp [insG]
  | cons y r ih =>
    intro h z
    unfold insG
    split
    · rw [List.mem_cons, ih (fun a ha => h a (List.mem_cons_of_mem _ ha)), List.mem_cons]
      constructor
      · rintro (h | h | h)
        · exact .inr (.inl h)
        · exact .inl h
        · exact .inr (.inr h)
      · rintro (h | h | h)
        · exact .inr (.inl h)
        · exact .inl h
        · exact .inr (.inr h)
    · split
      · rw [List.mem_cons]
      · rename_i h1 h2
        rcases h y (by simp) with e | e | e
        · exact absurd e h1
        · subst e
          constructor
          · exact .inr
          · rintro (e | e)
            · rw [e]; simp
            · exact e
        · exact absurd e h2
theorem srt_insG {α : Type} {lt : α → α → Bool} (hs : Strict lt) (x : α) : ∀ (l : List α) (_ : ∀ y ∈ l, lt y x = true ∨ y = x ∨ lt x y = true), Srt lt l → Srt lt (insG lt x l) := by
  intro l
  induction l with
  | nil => intro _ _; simp [insG, Srt]
  | cons y r ih =>
    intro h hp
    have p := List.pairwise_cons.1 hp
    have hr : ∀ a ∈ r, lt a x = true ∨ a = x ∨ lt x a = true := fun a ha => h a (List.mem_cons_of_mem _ ha)
    unfold insG
    split
    · rename_i h1
      refine List.pairwise_cons.2 ⟨fun b hb => ?_, ih hr p.2⟩
      rcases (mem_insG x r hr b).1 hb with rfl | h2
      · exact h1
      · exact p.1 b h2
    · split
      · rename_i h2
        refine List.pairwise_cons.2 ⟨fun b hb => ?_, hp⟩
        rcases List.mem_cons.1 hb with rfl | h4
        · exact h2
        · exact hs.trans _ _ _ h2 (p.1 b h4)
      · exact hp
theorem sortG_law {α : Type} {lt : α → α → Bool} (hs : Strict lt) : ∀ (l : List α) (_ : ∀ x ∈ l, ∀ y ∈ l, lt y x = true ∨ y = x ∨ lt x y = true), Srt lt (sortG lt l) ∧ ∀ x, x ∈ sortG lt l ↔ x ∈ l := by
  intro l
  induction l with
  | nil => intro _; exact ⟨List.Pairwise.nil, fun x => Iff.rfl⟩
  | cons a r ih =>
    intro h
    obtain ⟨h1, h2⟩ := ih fun x hx y hy => h x (List.mem_cons_of_mem _ hx) y (List.mem_cons_of_mem _ hy)
    have hc : ∀ y ∈ sortG lt r, lt y a = true ∨ y = a ∨ lt a y = true := fun y hy => h a (by simp) y (List.mem_cons_of_mem _ ((h2 y).1 hy))
    refine ⟨srt_insG hs a _ hc h1, fun x => ?_⟩
    show x ∈ insG lt a (sortG lt r) ↔ _
    rw [mem_insG a _ hc, h2, List.mem_cons]
def inSp (s : Spn) (x : Ln) : Prop := s.path = x.path ∧ s.fr ≤ x.n ∧ x.n < s.tu
def inL (l : List Spn) (x : Ln) : Prop := ∃ s ∈ l, inSp s x
def befSp (a b : Spn) : Prop := ltS a.path b.path = true ∨ (a.path = b.path ∧ a.tu < b.fr)
def NF (l : List Spn) : Prop := l.Pairwise befSp ∧ ∀ s ∈ l, s.fr < s.tu
theorem NF.tail {s : Spn} {l : List Spn} (h : NF (s :: l)) : NF l := ⟨(List.pairwise_cons.1 h.1).2, fun x hx => h.2 x (List.mem_cons_of_mem _ hx)⟩
theorem NF.head {s : Spn} {l : List Spn} (h : NF (s :: l)) : s.fr < s.tu ∧ ∀ b ∈ l, befSp s b := ⟨h.2 s (by simp), (List.pairwise_cons.1 h.1).1⟩
theorem NF.least {s : Spn} {l : List Spn} (h : NF (s :: l)) {x : Ln} (hx : inL (s :: l) x) : x = ⟨s.path, s.fr⟩ ∨ ltLn ⟨s.path, s.fr⟩ x = true := by
  obtain ⟨a, ha, h1, h2, h3⟩ := hx
  rcases List.mem_cons.1 ha with rfl | ha
  · rcases Int.lt_or_eq_of_le h2 with h4 | h4
    · right; unfold ltLn; simp [h1, h4]
    · left; cases x; simp_all
  · right
    unfold ltLn
    rcases h.head.2 a ha with h4 | ⟨h4, h5⟩
    · simp [← h1, h4]
    · have : s.fr < s.tu := h.head.1
      simp only [Bool.or_eq_true, Bool.and_eq_true, beq_iff_eq, decide_eq_true_eq]
      exact .inr ⟨h4.trans h1, by omega⟩
theorem NF.first {s : Spn} {l : List Spn} (h : NF (s :: l)) : inL (s :: l) ⟨s.path, s.fr⟩ := ⟨s, by simp, rfl, Int.le_refl _, h.head.1⟩
theorem NF.gap {s : Spn} {l : List Spn} (h : NF (s :: l)) : ¬ inL (s :: l) ⟨s.path, s.tu⟩ := by
  rintro ⟨a, ha, h1, h2, h3⟩
  simp only at h1 h2 h3
  rcases List.mem_cons.1 ha with rfl | ha
  · omega
  · rcases h.head.2 a ha with h4 | ⟨h4, h5⟩
    · rw [h1, ltS_irr] at h4; cases h4
    · omega
theorem nf_unique : ∀ {l m : List Spn}, NF l → NF m → (∀ x, inL l x ↔ inL m x) → l = m := by
  intro l
  induction l with
  | nil =>
    intro m _ h2 h
    cases m with
    | nil => rfl
    | cons y t => obtain ⟨s, hs, _⟩ := (h _).2 h2.first; cases hs
  | cons a r ih =>
    intro m h1 h2 h
    cases m with
    | nil => obtain ⟨s, hs, _⟩ := (h _).1 h1.first; cases hs
    | cons b t =>
      have e1 : (⟨a.path, a.fr⟩ : Ln) = ⟨b.path, b.fr⟩ := by
        rcases h2.least ((h _).1 h1.first) with e | e
        · exact e
        · rcases h1.least ((h _).2 h2.first) with e' | e'
          · exact e'.symm
          · have := strLn.trans _ _ _ e e'
            rw [strLn.irr] at this
            cases this
      have ep : a.path = b.path := congrArg Ln.path e1
      have ef : a.fr = b.fr := congrArg Ln.n e1
      have et : a.tu = b.tu := by
        rcases Int.lt_trichotomy a.tu b.tu with h3 | h3 | h3
        · exact absurd ((h _).2 ⟨b, by simp, ep.symm, by have := h1.head.1; show b.fr ≤ a.tu; omega, h3⟩) h1.gap
        · exact h3
        · exact absurd ((h _).1 ⟨a, by simp, ep, by have := h2.head.1; show a.fr ≤ b.tu; omega, h3⟩) h2.gap
      have eab : a = b := by cases a; cases b; simp_all
      subst eab
      rw [ih h1.tail h2.tail fun x => ?_]
      have hout : ∀ {q : List Spn}, NF (a :: q) → inL q x → ¬ inSp a x := by
        rintro q hq ⟨c, hc, k1, k2, k3⟩ ⟨j1, j2, j3⟩
        rcases hq.head.2 c hc with h4 | ⟨h4, h5⟩
        · rw [j1, k1, ltS_irr] at h4; cases h4
        · omega
      constructor
      · intro hx
        obtain ⟨c, hc, hcx⟩ := (h x).1 (by obtain ⟨c, hc, hcx⟩ := hx; exact ⟨c, List.mem_cons_of_mem _ hc, hcx⟩)
        rcases List.mem_cons.1 hc with rfl | hc
        · exact absurd hcx (hout h1 hx)
        · exact ⟨c, hc, hcx⟩
      · intro hx
        obtain ⟨c, hc, hcx⟩ := (h x).2 (by obtain ⟨c, hc, hcx⟩ := hx; exact ⟨c, List.mem_cons_of_mem _ hc, hcx⟩)
        rcases List.mem_cons.1 hc with rfl | hc
        · exact absurd hcx (hout h2 hx)
        · exact ⟨c, hc, hcx⟩
end Go.Proofs.YtpeamehplhpcjaaGreatDoor
namespace Go.Proofs.YtpeamehplhpcjaaGreatDoor
theorem inL_append (l m : List Spn) (x : Ln) : inL (l ++ m) x ↔ inL l x ∨ inL m x := by
  unfold inL
  constructor
  · rintro ⟨s, hs, h⟩
    rcases List.mem_append.1 hs with hs | hs
    · exact .inl ⟨s, hs, h⟩
    · exact .inr ⟨s, hs, h⟩
  · rintro (⟨s, hs, h⟩ | ⟨s, hs, h⟩)
    · exact ⟨s, List.mem_append_left _ hs, h⟩
    · exact ⟨s, List.mem_append_right _ hs, h⟩
theorem inL_one (s : Spn) (x : Ln) : inL [s] x ↔ inSp s x := ⟨fun ⟨a, ha, h⟩ => (List.mem_singleton.1 ha) ▸ h, fun h => ⟨s, by simp, h⟩⟩
theorem inL_cons (s : Spn) (l : List Spn) (x : Ln) : inL (s :: l) x ↔ inSp s x ∨ inL l x := by
  have := inL_append [s] l x
  rw [inL_one] at this
  exact this
theorem inSp_line (p : Bs) (n : Int) (x : Ln) : inSp ⟨p, n, n + 1⟩ x ↔ x = ⟨p, n⟩ := by
  unfold inSp
  obtain ⟨q, m⟩ := x
  simp only [Ln.mk.injEq]
  constructor
  · rintro ⟨rfl, h1, h2⟩; exact ⟨rfl, by omega⟩
  · rintro ⟨rfl, rfl⟩; exact ⟨rfl, by omega, by omega⟩
theorem nf_append {l m : List Spn} : NF (l ++ m) ↔ NF l ∧ NF m ∧ ∀ a ∈ l, ∀ b ∈ m, befSp a b := by
  unfold NF
  rw [List.pairwise_append]
  constructor
  · rintro ⟨⟨h1, h2, h3⟩, h4⟩
    exact ⟨⟨h1, fun s hs => h4 s (List.mem_append_left _ hs)⟩, ⟨h2, fun s hs => h4 s (List.mem_append_right _ hs)⟩, h3⟩
  · rintro ⟨⟨h1, h4⟩, ⟨h2, h5⟩, h3⟩
    exact ⟨⟨h1, h2, h3⟩, fun s hs => (List.mem_append.1 hs).elim (h4 s) (h5 s)⟩
theorem nf_one {s : Spn} (h : s.fr < s.tu) : NF [s] := ⟨List.pairwise_singleton _ _, fun x hx => by rw [List.mem_singleton.1 hx]; exact h⟩
def befLn (s : Spn) (x : Ln) : Prop := ltS s.path x.path = true ∨ (s.path = x.path ∧ s.tu ≤ x.n)
theorem join_law : ∀ (l : List Ln) (out : List Spn), Srt ltLn l → NF out → (∀ s ∈ out, ∀ x ∈ l, befLn s x) → NF (joinLn out l) ∧ ∀ x, inL (joinLn out l) x ↔ inL out x ∨ x ∈ l := by
  intro l
  induction l with
  | nil => intro out _ h _; exact ⟨h, fun x => by simp [joinLn]⟩
  | cons y r ih =>
    intro out hs hn hb
    have p := List.pairwise_cons.1 hs
    have hafter : ∀ x ∈ r, ltS y.path x.path = true ∨ (y.path = x.path ∧ y.n < x.n) := fun x hx => by
      have := p.1 x hx
      unfold ltLn at this
      simpa only [Bool.or_eq_true, Bool.and_eq_true, beq_iff_eq, decide_eq_true_eq] using this
    have hlb : ∀ x ∈ r, befLn ⟨y.path, y.n, y.n + 1⟩ x := fun x hx => (hafter x hx).imp id fun ⟨a, b⟩ => ⟨a, by show y.n + 1 ≤ x.n; omega⟩
    have happ : (∀ a ∈ out, befSp a ⟨y.path, y.n, y.n + 1⟩) → NF (joinLn (out ++ [⟨y.path, y.n, y.n + 1⟩]) r) ∧ ∀ x, inL (joinLn (out ++ [⟨y.path, y.n, y.n + 1⟩]) r) x ↔ inL out x ∨ x ∈ y :: r := by
      intro h
      obtain ⟨h1, h2⟩ := ih (out ++ [⟨y.path, y.n, y.n + 1⟩]) p.2 (nf_append.2 ⟨hn, nf_one (by show y.n < y.n + 1; omega), fun a ha b hbm => by rw [List.mem_singleton.1 hbm]; exact h a ha⟩) (fun s hs x hx => by
        rcases List.mem_append.1 hs with hs | hs
        · exact hb s hs x (List.mem_cons_of_mem _ hx)
        · rw [List.mem_singleton.1 hs]; exact hlb x hx)
      refine ⟨h1, fun x => ?_⟩
      rw [h2, inL_append, inL_one, inSp_line, List.mem_cons, or_assoc]
    rcases List.eq_nil_or_concat out with rfl | ⟨ini, k, rfl⟩
    · unfold joinLn
      simp only [List.getLast?_nil]
      exact happ fun a ha => by cases ha
    · rw [List.concat_eq_append] at *
      unfold joinLn
      simp only [List.getLast?_append, List.getLast?_singleton, Option.some_or, List.dropLast_concat]
      obtain ⟨hn1, hn2, hn3⟩ := nf_append.1 hn
      have hk : k.fr < k.tu := hn2.2 k (by simp)
      split
      · rename_i hm
        obtain ⟨hm1, hm2⟩ := hm
        obtain ⟨h1, h2⟩ := ih (ini ++ [⟨k.path, k.fr, k.tu + 1⟩]) p.2 (nf_append.2 ⟨hn1, nf_one (by show k.fr < k.tu + 1; omega), fun a ha b hbm => by rw [List.mem_singleton.1 hbm]; exact hn3 a ha k (by simp)⟩) (fun s hs x hx => by
          rcases List.mem_append.1 hs with hs | hs
          · exact hb s (List.mem_append_left _ hs) x (List.mem_cons_of_mem _ hx)
          · rw [List.mem_singleton.1 hs]
            have := hlb x hx
            unfold befLn at this ⊢
            simp only at this ⊢
            rw [hm1, hm2]
            exact this)
        refine ⟨h1, fun x => ?_⟩
        rw [h2, inL_append, inL_one, inL_append, inL_one, List.mem_cons, or_assoc, or_assoc]
        have : inSp ⟨k.path, k.fr, k.tu + 1⟩ x ↔ inSp k x ∨ x = y := by
          unfold inSp
          obtain ⟨q, m⟩ := x
          obtain ⟨yp, yn⟩ := y
          simp only at hm1 hm2
          subst hm1 hm2
          simp only [Ln.mk.injEq]
          constructor
          · rintro ⟨rfl, a, b⟩
            rcases Int.lt_or_le m k.tu with h | h
            · exact .inl ⟨rfl, a, h⟩
            · exact .inr ⟨rfl, by omega⟩
          · rintro (⟨rfl, a, b⟩ | ⟨rfl, rfl⟩)
            · exact ⟨rfl, a, by omega⟩
            · exact ⟨rfl, by omega, by omega⟩
        rw [this, or_assoc]
      · rename_i hm
        refine happ fun a ha => ?_
        have hby := fun s hs => hb s hs y (by simp)
        have hky : befSp k ⟨y.path, y.n, y.n + 1⟩ := by
          rcases hby k (by simp) with h | ⟨h, h'⟩
          · exact .inl h
          · refine .inr ⟨h, ?_⟩
            show k.tu < y.n
            have : k.tu ≠ y.n := fun e => hm ⟨h, e⟩
            omega
        rcases List.mem_append.1 ha with ha | ha
        · rcases hn3 a ha k (by simp) with h | ⟨h, h'⟩
          · rcases hky with h2 | ⟨h2, _⟩
            · exact .inl (ltS_trans _ _ _ h h2)
            · exact .inl (h2 ▸ h)
          · rcases hky with h2 | ⟨h2, h3⟩
            · exact .inl (h ▸ h2)
            · exact .inr ⟨h.trans h2, by show a.tu < y.n; have : k.tu < y.n := h3; omega⟩
        · rw [List.mem_singleton.1 ha]; exact hky
theorem spans_law (l : List Ln) : NF (spansS l) ∧ ∀ x, inL (spansS l) x ↔ x ∈ l := by
  obtain ⟨h1, h2⟩ := sortG_law strLn l fun x _ y _ => ltLn_tot y x
  obtain ⟨h3, h4⟩ := join_law (sortG ltLn l) [] h1 ⟨List.Pairwise.nil, fun s hs => by cases hs⟩ fun s hs => by cases hs
  refine ⟨h3, fun x => ?_⟩
  show inL (joinLn [] (sortG ltLn l)) x ↔ _
  rw [h4, h2]
  constructor
  · rintro (⟨s, hs, _⟩ | h)
    · cases hs
    · exact h
  · exact .inr
def touchS (s x : Spn) : Bool := s.path == x.path && (decide (s.fr ≤ x.tu) && decide (x.fr ≤ s.tu))
def afterS (s x : Spn) : Bool := ltS x.path s.path || (s.path == x.path && decide (x.tu < s.fr))
def addR : List Spn → Spn → Bool → List Spn
  | [], x, d => if d then [] else [x]
  | s :: r, x, d => if touchS s x then addR r ⟨x.path, min x.fr s.fr, max x.tu s.tu⟩ d
      else if !d && afterS s x then x :: s :: addR r x true else s :: addR r x d
theorem addR_done : ∀ (l : List Spn) (x : Spn), (∀ s ∈ l, befSp x s) → addR l x true = l := by
  intro l
  induction l with
  | nil => intro x _; rfl
  | cons s r ih =>
    intro x h
    unfold addR
    have ht : touchS s x = false := by
      unfold touchS
      rcases h s (by simp) with h1 | ⟨h1, h2⟩
      · have : (s.path == x.path) = false := by rw [beq_eq_false_iff_ne]; intro e; rw [e, ltS_irr] at h1; cases h1
        rw [this]; rfl
      · have : decide (s.fr ≤ x.tu) = false := by rw [decide_eq_false_iff_not]; omega
        rw [this]; simp
    rw [ht]
    simp only [Bool.false_eq_true, if_false, Bool.not_true, Bool.false_and]
    rw [ih x fun a ha => h a (List.mem_cons_of_mem _ ha)]
theorem addR_bef (z : Spn) : ∀ (l : List Spn) (x : Spn), befSp z x → (∀ a ∈ l, befSp z a) → (∀ a ∈ l, ∀ x', befSp z x' → befSp z a) → ∀ d, ∀ a ∈ addR l x d, befSp z a := by
  intro l
  induction l with
  | nil =>
    intro x h _ _ d a ha
    unfold addR at ha
    cases d with
    | true => cases ha
    | false => rw [List.mem_singleton.1 ha]; exact h
  | cons s r ih =>
    intro x h hl h3 d a ha
    have hr : ∀ a ∈ r, befSp z a := fun a ha => hl a (List.mem_cons_of_mem _ ha)
    have hr3 : ∀ a ∈ r, ∀ x', befSp z x' → befSp z a := fun a ha => h3 a (List.mem_cons_of_mem _ ha)
    unfold addR at ha
    split at ha
    · rename_i ht
      refine ih _ ?_ hr hr3 d a ha
      unfold touchS at ht
      simp only [Bool.and_eq_true, beq_iff_eq, decide_eq_true_eq] at ht
      rcases h with h1 | ⟨h1, h2⟩
      · exact .inl h1
      · refine .inr ⟨h1, ?_⟩
        show z.tu < min x.fr s.fr
        rcases hl s (by simp) with h4 | ⟨h4, h5⟩
        · rw [ht.1, ← h1, ltS_irr] at h4; cases h4
        · omega
    · split at ha
      · rcases List.mem_cons.1 ha with rfl | ha
        · exact h
        · rcases List.mem_cons.1 ha with rfl | ha
          · exact hl _ (by simp)
          · exact ih x h hr hr3 true a ha
      · rcases List.mem_cons.1 ha with rfl | ha
        · exact hl _ (by simp)
        · exact ih x h hr hr3 d a ha
theorem addR_law : ∀ (l : List Spn) (x : Spn), NF l → x.fr < x.tu → NF (addR l x false) ∧ ∀ y, inL (addR l x false) y ↔ inL l y ∨ inSp x y := by
  intro l
  induction l with
  | nil =>
    intro x _ hx
    refine ⟨nf_one hx, fun y => ?_⟩
    show inL [x] y ↔ _
    rw [inL_one]
    constructor
    · exact .inr
    · rintro (⟨s, hs, _⟩ | h)
      · cases hs
      · exact h
  | cons s r ih =>
    intro x hn hx
    have hs := hn.head
    unfold addR
    by_cases ht : touchS s x = true
    · rw [if_pos ht]
      unfold touchS at ht
      simp only [Bool.and_eq_true, beq_iff_eq, decide_eq_true_eq] at ht
      obtain ⟨h1, h2⟩ := ih ⟨x.path, min x.fr s.fr, max x.tu s.tu⟩ hn.tail (by show min x.fr s.fr < max x.tu s.tu; omega)
      refine ⟨h1, fun y => ?_⟩
      rw [h2, inL_cons]
      have : inSp ⟨x.path, min x.fr s.fr, max x.tu s.tu⟩ y ↔ inSp s y ∨ inSp x y := by
        unfold inSp
        simp only
        rw [ht.1]
        constructor
        · rintro ⟨a, b, c⟩
          by_cases h : x.fr ≤ y.n ∧ y.n < x.tu
          · exact .inr ⟨a, h.1, h.2⟩
          · exact .inl ⟨a, by omega, by omega⟩
        · rintro (⟨a, b, c⟩ | ⟨a, b, c⟩)
          · exact ⟨a, by omega, by omega⟩
          · exact ⟨a, by omega, by omega⟩
      rw [this, or_left_comm, ← or_assoc]
    · have ht' : touchS s x = false := by simpa using ht
      rw [ht']
      simp only [Bool.false_eq_true, if_false, Bool.not_false, Bool.true_and]
      by_cases ha : afterS s x = true
      · rw [if_pos ha]
        have hbx : befSp x s := by
          unfold afterS at ha
          simp only [Bool.or_eq_true, Bool.and_eq_true, beq_iff_eq, decide_eq_true_eq] at ha
          exact ha.imp id fun ⟨a, b⟩ => ⟨a.symm, b⟩
        have hall : ∀ b ∈ r, befSp x b := fun b hb => by
          rcases hs.2 b hb with h | ⟨h, h'⟩
          · rcases hbx with h2 | ⟨h2, _⟩
            · exact .inl (ltS_trans _ _ _ h2 h)
            · exact .inl (h2 ▸ h)
          · rcases hbx with h2 | ⟨h2, h3⟩
            · exact .inl (h ▸ h2)
            · exact .inr ⟨h2.trans h, by omega⟩
        rw [addR_done r x hall]
        refine ⟨⟨List.pairwise_cons.2 ⟨fun b hb => ?_, hn.1⟩, fun b hb => ?_⟩, fun y => ?_⟩
        · rcases List.mem_cons.1 hb with rfl | hb
          · exact hbx
          · exact hall b hb
        · rcases List.mem_cons.1 hb with rfl | hb
          · exact hx
          · exact hn.2 b hb
        · rw [inL_cons, or_comm]
      · have ha' : afterS s x = false := by simpa using ha
        rw [ha']
        simp only [Bool.false_eq_true, if_false]
        have hbs : befSp s x := by
          unfold touchS at ht'
          unfold afterS at ha'
          rcases ltS_tot s.path x.path with h | h | h
          · exact .inl h
          · refine .inr ⟨h, ?_⟩
            simp only [h, beq_self_eq_true, Bool.true_and, Bool.and_eq_false_iff, decide_eq_false_iff_not] at ht'
            simp only [h, ltS_irr, beq_self_eq_true, Bool.true_and, Bool.false_or, decide_eq_false_iff_not] at ha'
            omega
          · rw [h] at ha'; simp at ha'
        obtain ⟨h1, h2⟩ := ih x hn.tail hx
        refine ⟨⟨List.pairwise_cons.2 ⟨fun b hb => addR_bef s r x hbs hs.2 (fun a ha _ _ => hs.2 a ha) false b hb, h1.1⟩, fun b hb => ?_⟩, fun y => ?_⟩
        · rcases List.mem_cons.1 hb with rfl | hb
          · exact hs.1
          · exact h1.2 b hb
        · rw [inL_cons, h2, inL_cons, or_assoc]
end Go.Proofs.YtpeamehplhpcjaaGreatDoor
namespace Go.Proofs.YtpeamehplhpcjaaGreatDoor
def rinsGo : List Bs → Bs → Bool → List Bs
  | [], s, d => if d then [] else [s]
  | x :: r, s, d =>
    let d2 := d || !ltS x s
    (if !d && !ltS x s then [s] else []) ++ (if x = s then [] else [x]) ++ rinsGo r s d2
def rins (l : List Bs) (s : Bs) : List Bs := rinsGo l s false
structure Rst where
  flags : List Bs
  macros : List Mac
  items : List Itm
  heads : List Spn
  files : List Bs
  opn : List Bs
  count : Nat
  deriving DecidableEq, Repr, Inhabited
def rflt (e : Int) (p : Bs) (n : Int) : Flt := ⟨e, -1, -1, ⟨p, n⟩⟩
def rdefined (s : Rst) (x : Bs) : Bool := s.flags.contains x || s.macros.any fun m => m.name == x
def rdefine (s : Rst) (m : Mac) : Rst × Int :=
  if rdefined s m.name then (s, 6) else if 128 ≤ s.macros.length then (s, 10)
  else ({ s with macros := s.macros.filter (fun x => ltS x.name m.name) ++ [m] ++ s.macros.filter (fun x => ltS m.name x.name) }, 0)
def rundef (s : Rst) (x : Bs) : Rst × Int :=
  if !rdefined s x then (s, 7) else ({ s with flags := s.flags.filter (fun y => y != x), macros := s.macros.filter (fun m => m.name != x) }, 0)
def ritem (s : Rst) (x : Itm) : Rst × Int :=
  if s.items.any (fun y => y.name == x.name) then (s, 6) else if 128 ≤ s.items.length then (s, 10) else ({ s with items := s.items ++ [x] }, 0)
abbrev RGrp := Bs → List Bs → Nat → Nat → Rst → Flt × Rst
def rfile (g : RGrp) (p : Bs) (lines : List Bs) (s : Rst) : Flt × Rst :=
  let r := g p lines 0 lines.length { s with files := rins s.files p, opn := s.opn ++ [p] }
  (r.1, { r.2 with opn := r.2.opn.take (r.2.opn.length - 1) })
def rincl (t : List Fil) (deep : Bool) (p ref : Bs) (s : Rst) : Bs × List Bs × Int :=
  let q := refS ((splitS 47 p).headD []) ref
  if q.2 ≠ 0 then ([], [], q.2)
  else if s.opn.contains q.1 then ([], [], 12)
  else match findT t q.1 with
    | none => ([], [], 7)
    | some d =>
      let l := linesS d
      if l.2 ≠ 0 then ([], [], l.2) else if deep then ([], [], 11) else (q.1, l.1, 0)
def rgo : Option RGrp → Bs → List Bs → Rst → Flt × Rst
  | none, _, _, s => (flt0, s)
  | some g, p, l, s => rfile g p l s
def rhead (t : List Fil) (nest : Option RGrp) (p : Bs) (lines : List Bs) (i : Nat) (h : Hd) (s : Rst) : Flt × Rst :=
  let body : Spn := ⟨p, (i : Int) + 1, (i : Int) + 1 + h.n⟩
  let at_ := fun (r : Rst × Int) => if r.2 ≠ 0 then (rflt r.2 p i, r.1) else (flt0, r.1)
  if h.word = 1 then
    let x := rincl t nest.isNone p h.name s
    if x.2.2 ≠ 0 then (rflt x.2.2 p i, s)
    else rgo nest x.1 x.2.1 s
  else if h.word = 2 then at_ (rdefine s ⟨h.name, h.params, body⟩)
  else if h.word = 3 then at_ (rundef s h.name)
  else if h.word = 4 ∨ h.word = 5 then
    if rdefined s h.name == decide (h.word = 4) then
      match nest with
      | none => (rflt 11 p i, s)
      | some g => g p lines (i + 1) (i + 1 + h.n.toNat) s
    else (flt0, s)
  else if h.word = 7 then at_ (ritem s ⟨h.name, 3, 3, [], spn0⟩)
  else if h.word = 8 then at_ (ritem s ⟨h.name, 1, h.mode, h.params, body⟩)
  else if h.word = 9 then at_ (ritem s ⟨h.name, 2, h.mode, [], body⟩)
  else (flt0, s)
def rloop (t : List Fil) (nest : Option RGrp) (p : Bs) (lines : List Bs) (tu : Nat) : Nat → Nat → Rst → Flt × Rst
  | 0, _, s => (flt0, s)
  | f + 1, i, s =>
    if tu ≤ i then (flt0, s)
    else if 2048 ≤ s.count then (rflt 10 p i, s)
    else
      let s := { s with count := s.count + 1 }
      let h := parseH (lines.getD i [])
      let e := if h.2 = 0 ∧ (tu : Int) < i + 1 + h.1.n then 13 else h.2
      if e ≠ 0 then (rflt e p i, s)
      else
        let s := { s with heads := addR s.heads ⟨p, i, (i : Int) + 1⟩ false }
        let r := rhead t nest p lines i h.1 s
        if r.1.err ≠ 0 then r else rloop t nest p lines tu f (i + 1 + h.1.n.toNat) r.2
def rgroup (t : List Fil) : Nat → RGrp
  | 0 => fun p lines fr tu s => rloop t none p lines tu (tu - fr) fr s
  | d + 1 => fun p lines fr tu s => rloop t (some (rgroup t d)) p lines tu (tu - fr) fr s
def rst0 (flags : List Bs) : Rst := ⟨flags.foldl rins [], [], [], [], [], [], 0⟩
def runt (p : Bs) (s : Rst) : Unt := ⟨p, s.flags, s.macros, s.items, s.heads, s.files⟩
def rscanS (t : List Fil) (p : Bs) (flags : List Bs) : Unt × Flt :=
  let b := startS t p flags
  if b.2.2 ≠ 0 then (unt0, ⟨b.2.2, -1, -1, b.2.1⟩)
  else
    let r := rfile (rgroup t 24) p b.1 (rst0 flags)
    if r.1.err ≠ 0 then (unt0, r.1) else (runt p r.2, flt0)
structure Agr (s : Sst) (r : Rst) : Prop where
  fl : Srt ltS r.flags ∧ ∀ x, x ∈ r.flags ↔ x ∈ s.flags.map (·.1)
  ft : ∀ p ∈ s.flags, p.2 = true
  fn : (s.flags.map (·.1)).Nodup
  ma : Srt ltMac r.macros ∧ ∀ x, x ∈ r.macros ↔ x ∈ s.macros.map (·.2)
  mky : ∀ p ∈ s.macros, p.1 = p.2.name
  mn : (s.macros.map (·.1)).Nodup
  it : r.items = s.items
  he : NF r.heads ∧ ∀ x, inL r.heads x ↔ x ∈ s.heads.map (·.1)
  fi : Srt ltS r.files ∧ ∀ x, x ∈ r.files ↔ x ∈ s.files.map (·.1)
  op : r.opn = s.opn
  co : r.count = s.count
  ml : s.macros.length ≤ 128
  il : s.items.length ≤ 128
  cb : s.count ≤ 2048
section maps
variable {κ ν : Type} [DecidableEq κ]
theorem keys_setM (m : List (κ × ν)) (k : κ) (v : ν) (x : κ) : x ∈ (setM m k v).map (·.1) ↔ x = k ∨ x ∈ m.map (·.1) := by
  induction m with
  | nil => simp [setM]
  | cons p r ih =>
    unfold setM
    split
    · rename_i h
      simp only [List.map_cons, List.mem_cons, h]
      constructor
      · rintro (h | h)
        · exact .inl h
        · exact .inr (.inr h)
      · rintro (h | h | h)
        · exact .inl h
        · exact .inl h
        · exact .inr h
    · simp only [List.map_cons, List.mem_cons, ih]
      constructor
      · rintro (h | h | h)
        · exact .inr (.inl h)
        · exact .inl h
        · exact .inr (.inr h)
      · rintro (h | h | h)
        · exact .inr (.inl h)
        · exact .inl h
        · exact .inr (.inr h)
theorem setM_new (m : List (κ × ν)) (k : κ) (v : ν) (h : k ∉ m.map (·.1)) : setM m k v = m ++ [(k, v)] := by
  induction m with
  | nil => rfl
  | cons p r ih =>
    simp only [List.map_cons, List.mem_cons, not_or] at h
    unfold setM
    rw [if_neg (fun e => h.1 e.symm), ih h.2]
    rfl
theorem nodup_setM (m : List (κ × ν)) (k : κ) (v : ν) (h : (m.map (·.1)).Nodup) : ((setM m k v).map (·.1)).Nodup := by
  induction m with
  | nil => simp [setM]
  | cons p r ih =>
    simp only [List.map_cons, List.nodup_cons] at h
    unfold setM
    split
    · rename_i e
      simp only [List.map_cons, List.nodup_cons]
      exact ⟨e ▸ h.1, h.2⟩
    · rename_i e
      simp only [List.map_cons, List.nodup_cons]
      exact ⟨fun hm => ((keys_setM r k v p.1).1 hm).elim e h.1, ih h.2⟩
theorem mem_setM (m : List (κ × ν)) (k : κ) (v : ν) (p : κ × ν) (h : p ∈ setM m k v) : p = (k, v) ∨ p ∈ m := by
  induction m with
  | nil => simp [setM] at h; exact .inl h
  | cons q r ih =>
    unfold setM at h
    split at h
    · rcases List.mem_cons.1 h with h | h
      · exact .inl h
      · exact .inr (List.mem_cons_of_mem _ h)
    · rcases List.mem_cons.1 h with h | h
      · exact .inr (by rw [h]; simp)
      · exact (ih h).imp id (List.mem_cons_of_mem _)
theorem hasM_iff (m : List (κ × ν)) (k : κ) : hasM m k = true ↔ k ∈ m.map (·.1) := by
  unfold hasM
  simp only [List.any_eq_true, beq_iff_eq, List.mem_map]
theorem getM_true (m : List (κ × Bool)) (k : κ) (h : ∀ p ∈ m, p.2 = true) : (getM m k).getD false = true ↔ k ∈ m.map (·.1) := by
  unfold getM
  rw [List.mem_map]
  constructor
  · intro hg
    cases hf : m.find? (fun p => p.1 == k) with
    | none => rw [hf] at hg; cases hg
    | some p => exact ⟨p, List.mem_of_find?_eq_some hf, by simpa using List.find?_some hf⟩
  · rintro ⟨p, hp, he⟩
    cases hf : m.find? (fun p => p.1 == k) with
    | none => exact absurd (List.find?_eq_none.1 hf p hp) (by simp [he])
    | some q => simpa using h q (List.mem_of_find?_eq_some hf)
theorem len_setM (m : List (κ × ν)) (k : κ) (v : ν) : (setM m k v).length ≤ m.length + 1 := by
  induction m with
  | nil => simp [setM]
  | cons p r ih => unfold setM; split <;> simp <;> omega
theorem keys_delM (m : List (κ × ν)) (k x : κ) : x ∈ (delM m k).map (·.1) ↔ x ∈ m.map (·.1) ∧ x ≠ k := by
  unfold delM
  simp only [List.mem_map, List.mem_filter, bne_iff_ne]
  constructor
  · rintro ⟨p, ⟨hp, hn⟩, rfl⟩; exact ⟨⟨p, hp, rfl⟩, hn⟩
  · rintro ⟨⟨p, hp, rfl⟩, hn⟩; exact ⟨p, ⟨hp, hn⟩, rfl⟩
theorem nodup_delM (m : List (κ × ν)) (k : κ) (h : (m.map (·.1)).Nodup) : ((delM m k).map (·.1)).Nodup :=
  List.Nodup.sublist ((List.filter_sublist (l := m)).map _) h
end maps
theorem rins_law (s : Bs) : ∀ (l : List Bs), Srt ltS l → Srt ltS (rins l s) ∧ ∀ x, x ∈ rins l s ↔ x = s ∨ x ∈ l := by
  have hdone : ∀ l : List Bs, (∀ x ∈ l, x ≠ s) → rinsGo l s true = l := by
    intro l
    induction l with
    | nil => intro _; rfl
    | cons x r ih =>
      intro h
      unfold rinsGo
      simp only [Bool.true_or, Bool.not_true, Bool.false_and, Bool.false_eq_true, if_false, List.nil_append]
      rw [if_neg (h x (by simp)), ih fun y hy => h y (List.mem_cons_of_mem _ hy)]
      rfl
  intro l
  induction l with
  | nil => intro _; exact ⟨List.pairwise_singleton _ _, fun x => by simp [rins, rinsGo]⟩
  | cons y r ih =>
    intro h
    have p := List.pairwise_cons.1 h
    unfold rins at ih ⊢
    unfold rinsGo
    simp only [Bool.false_or, Bool.not_false, Bool.true_and]
    rcases ltS_tot y s with h1 | h1 | h1
    · have hne : y ≠ s := fun e => by subst e; rw [ltS_irr] at h1; cases h1
      rw [h1, if_neg hne]
      simp only [Bool.not_true, Bool.false_eq_true, if_false, List.nil_append]
      obtain ⟨h2, h3⟩ := ih p.2
      refine ⟨List.pairwise_cons.2 ⟨fun b hb => ?_, h2⟩, fun x => ?_⟩
      · rcases (h3 b).1 hb with rfl | hb
        · exact h1
        · exact p.1 b hb
      · show x ∈ y :: rinsGo r s false ↔ _
        rw [List.mem_cons, h3, List.mem_cons]
        constructor
        · rintro (h | h | h)
          · exact .inr (.inl h)
          · exact .inl h
          · exact .inr (.inr h)
        · rintro (h | h | h)
          · exact .inr (.inl h)
          · exact .inl h
          · exact .inr (.inr h)
    · subst h1
      have hr : ∀ x ∈ r, x ≠ y := fun x hx e => by subst e; have := p.1 x hx; rw [ltS_irr] at this; cases this
      rw [ltS_irr, if_pos rfl]
      simp only [Bool.not_false, if_true]
      rw [hdone r hr]
      refine ⟨h, fun x => ?_⟩
      show x ∈ y :: r ↔ _
      rw [List.mem_cons]
      constructor
      · exact .inr
      · rintro (h | h)
        · exact .inl h
        · exact h
    · have hn : ltS y s = false := by
        cases e : ltS y s with
        | false => rfl
        | true => have := ltS_trans _ _ _ e h1; rw [ltS_irr] at this; cases this
      have hne : y ≠ s := fun e => by subst e; rw [ltS_irr] at h1; cases h1
      have hr : ∀ x ∈ r, x ≠ s := fun x hx e => by subst e; have := ltS_trans _ _ _ h1 (p.1 x hx); rw [ltS_irr] at this; cases this
      rw [hn, if_neg hne]
      simp only [Bool.not_false, if_true]
      rw [hdone r hr]
      refine ⟨List.pairwise_cons.2 ⟨fun b hb => ?_, h⟩, fun x => ?_⟩
      · rcases List.mem_cons.1 hb with rfl | hb
        · exact h1
        · exact ltS_trans _ _ _ h1 (p.1 b hb)
      · show x ∈ s :: y :: r ↔ _
        rw [List.mem_cons]
end Go.Proofs.YtpeamehplhpcjaaGreatDoor
