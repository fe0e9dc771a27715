/- Query (package licitlaw54): a part of the proofs of its laws; see the law's own text, which comes last in 'order'. No conditions of its own. -/
import Derived.Test.YtkjoaodoioicpaaGreatDoorWA08
set_option linter.unusedVariables false
set_option linter.unusedSimpArgs false
namespace Go.Proofs.YtkjoaodoioicpaaGreatDoor
theorem getA_set (v : Bnd) (s t : Bs) (x : Arg) : getA (setA v s x) t = if s = t then some x else getA v t := by
  induction v with
  | nil =>
    simp only [setA, getA, beq_iff_eq]
  | cons p r ih =>
    simp only [setA]
    by_cases h : p.1 = s
    · simp only [h, beq_self_eq_true, if_true, getA, beq_iff_eq]
      by_cases hs : s = t
      · simp [hs]
      · simp [hs]
    · have h' : (p.1 == s) = false := by simpa using h
      simp only [h', Bool.false_eq_true, if_false, getA, beq_iff_eq, ih]
      by_cases hp : p.1 = t
      · subst hp
        simp [Ne.symm h]
      · simp [hp]
abbrev Sub := Bs → Arg
def subA (θ : Sub) (a : Arg) : Arg := if a.kind = 1 then θ a.text else a
def subT (θ : Sub) (a : Atm) : Atm := ⟨a.name, a.args.map (subA θ)⟩
def Agr (v : Bnd) (θ : Sub) : Prop := ∀ s x, getA v s = some x → θ s = x
def OkC (x : Arg) : Prop := formedS x = true ∧ x.kind ≠ 1
def Gr (b : List Atm) : Prop := ∀ f ∈ b, groundP f = true
def GrB (v : Bnd) : Prop := ∀ s x, getA v s = some x → OkC x
def Ext (v w : Bnd) : Prop := ∀ s x, getA v s = some x → getA w s = some x
def Cov (v : Bnd) (l : List Arg) : Prop := ∀ a ∈ l, a.kind = 1 → (getA v a.text).isSome = true
def thS (w : Bnd) : Sub := fun s => (getA w s).getD default
theorem ground_args {a : Atm} (h : groundP a = true) : ∀ x ∈ a.args, OkC x := by
  intro x hx
  unfold groundP at h
  rw [Bool.and_eq_true, Bool.not_eq_true'] at h
  obtain ⟨h1, h2⟩ := h
  refine ⟨atomS_args h1 x hx, fun hk => ?_⟩
  rw [List.any_eq_false] at h2
  exact h2 x hx (by simpa using hk)
theorem under_ne {v : Bnd} {a : Arg} (h : a.kind ≠ 1) : under v a = a := by
  unfold under
  split
  · rw [if_neg h]
  · rfl
theorem under_some {v : Bnd} {a y : Arg} (h : a.kind = 1) (hg : getA v a.text = some y) : under v a = y := by
  unfold under
  rw [hg]
  simp [h]
theorem under_none {v : Bnd} {a : Arg} (hg : getA v a.text = none) : under v a = a := by
  unfold under
  rw [hg]
theorem under_ext {v w : Bnd} (he : Ext v w) {l : List Arg} (hc : Cov v l) {a : Arg} (ha : a ∈ l) : under w a = under v a := by
  by_cases h : a.kind = 1
  · have := hc a ha h
    obtain ⟨y, hy⟩ := Option.isSome_iff_exists.1 this
    rw [under_some h hy, under_some h (he _ _ hy)]
  · rw [under_ne h, under_ne h]
theorem under_sub {v : Bnd} {θ : Sub} (hv : Agr v θ) {l : List Arg} (hc : Cov v l) {a : Arg} (ha : a ∈ l) : under v a = subA θ a := by
  unfold subA
  by_cases h : a.kind = 1
  · obtain ⟨y, hy⟩ := Option.isSome_iff_exists.1 (hc a ha h)
    rw [under_some h hy, if_pos h, hv _ _ hy]
  · rw [under_ne h, if_neg h]
theorem Ext.trans {u v w : Bnd} (h1 : Ext u v) (h2 : Ext v w) : Ext u w := fun s x h => h2 s x (h1 s x h)
theorem Cov.ext {v w : Bnd} (he : Ext v w) {l : List Arg} (hc : Cov v l) : Cov w l := fun a ha hk => by
  obtain ⟨y, hy⟩ := Option.isSome_iff_exists.1 (hc a ha hk)
  rw [he _ _ hy]; rfl
theorem agr_th (w : Bnd) : Agr w (thS w) := fun s x h => by unfold thS; rw [h]; rfl
theorem fit_sound : ∀ (xs fs : List Arg) (v w : Bnd), fitGo v xs fs = some w → GrB v → (∀ x ∈ fs, OkC x) → xs.length = fs.length → GrB w ∧ Ext v w ∧ Cov w xs ∧ xs.map (under w) = fs := by
  intro xs
  induction xs with
  | nil =>
    intro fs v w h hv hf hl
    simp only [fitGo, Option.some.injEq] at h
    subst h
    cases fs with
    | nil => exact ⟨hv, fun s x h => h, fun a ha => (by cases ha), rfl⟩
    | cons => cases hl
  | cons x xs ih =>
    intro fs v w h hv hf hl
    cases fs with
    | nil => cases hl
    | cons f fs =>
      simp only [fitGo, List.headD_cons, List.drop_one, List.tail_cons] at h
      have hl' : xs.length = fs.length := by simpa using hl
      have hf' : ∀ x ∈ fs, OkC x := fun y hy => hf y (List.mem_cons_of_mem _ hy)
      have hff := hf f List.mem_cons_self
      by_cases hk : (under v x).kind ≠ 1
      · rw [if_pos hk] at h
        by_cases he : under v x = f
        · rw [if_pos he] at h
          obtain ⟨g1, g2, g3, g4⟩ := ih fs v w h hv hf' hl'
          have hcx : x.kind = 1 → (getA v x.text).isSome = true := by
            intro hx1
            cases hg : getA v x.text with
            | none => rw [under_none hg] at hk; exact absurd hx1 hk
            | some y => rfl
          have hux : under w x = f := by
            rw [← he]
            exact under_ext g2 (l := [x]) (fun a ha => by rw [List.mem_singleton.1 ha]; exact hcx) (by simp)
          refine ⟨g1, g2, ?_, by rw [List.map_cons, g4, hux]⟩
          intro a ha
          rcases List.mem_cons.1 ha with rfl | ha
          · intro h1
            obtain ⟨y, hy⟩ := Option.isSome_iff_exists.1 (hcx h1)
            rw [g2 _ _ hy]; rfl
          · exact g3 a ha
        · rw [if_neg he] at h; cases h
      · rw [if_neg hk] at h
        have hk : (under v x).kind = 1 := Classical.not_not.1 hk
        have hx1 : x.kind = 1 ∧ getA v x.text = none := by
          by_cases h1 : x.kind = 1
          · cases hg : getA v x.text with
            | none => exact ⟨h1, rfl⟩
            | some y =>
              rw [under_some h1 hg] at hk
              exact absurd hk (hv _ _ hg).2
          · rw [under_ne h1] at hk; exact absurd hk h1
        have hv2 : GrB (setA v x.text f) := by
          intro s y hy
          rw [getA_set] at hy
          split at hy
          · injection hy with hy; rw [← hy]; exact hff
          · exact hv s y hy
        obtain ⟨g1, g2, g3, g4⟩ := ih fs _ w h hv2 hf' hl'
        have hw : getA w x.text = some f := g2 _ _ (by rw [getA_set, if_pos rfl])
        refine ⟨g1, fun s y hy => g2 s y ?_, ?_, by rw [List.map_cons, g4, under_some hx1.1 hw]⟩
        · rw [getA_set, if_neg]
          · exact hy
          · intro e; rw [← e, hx1.2] at hy; cases hy
        · intro a ha
          rcases List.mem_cons.1 ha with rfl | ha
          · intro _; rw [hw]; rfl
          · exact g3 a ha
theorem fit_complete (θ : Sub) : ∀ (xs : List Arg) (v : Bnd), Agr v θ → GrB v → (∀ x ∈ xs.map (subA θ), OkC x) → ∃ w, fitGo v xs (xs.map (subA θ)) = some w ∧ Agr w θ ∧ GrB w := by
  intro xs
  induction xs with
  | nil => intro v ha hv _; exact ⟨v, rfl, ha, hv⟩
  | cons x xs ih =>
    intro v ha hv hf
    simp only [List.map_cons, fitGo, List.headD_cons, List.drop_one, List.tail_cons]
    have hf' : ∀ y ∈ xs.map (subA θ), OkC y := fun y hy => hf y (List.mem_cons_of_mem _ hy)
    have hff := hf (subA θ x) List.mem_cons_self
    by_cases hx : x.kind = 1
    · cases hg : getA v x.text with
      | none =>
        rw [under_none hg, if_neg (by simp [hx])]
        refine ih _ ?_ ?_ hf'
        · intro s y hy
          rw [getA_set] at hy
          split at hy
          · rename_i e
            injection hy with hy
            rw [← hy, ← e]; unfold subA; rw [if_pos hx]
          · exact ha s y hy
        · intro s y hy
          rw [getA_set] at hy
          split at hy
          · injection hy with hy; rw [← hy]; exact hff
          · exact hv s y hy
      | some y =>
        have he : y = subA θ x := by unfold subA; rw [if_pos hx, ha _ _ hg]
        rw [under_some hx hg, if_pos (hv _ _ hg).2, if_pos he]
        exact ih v ha hv hf'
    · have he : x = subA θ x := by unfold subA; rw [if_neg hx]
      rw [under_ne hx, if_pos hx, if_pos he]
      exact ih v ha hv hf'
theorem mem_cand {b : List Atm} {a f : Atm} : f ∈ candS b a ↔ f ∈ b ∧ f.name = a.name ∧ f.args.length = a.args.length := by
  simp [candS, and_assoc]
theorem binds_sound {b : List Atm} (hb : Gr b) : ∀ (body : List Ltl) (v w : Bnd), w ∈ bindsS b body v → GrB v → GrB w ∧ Ext v w ∧ ∀ l ∈ body, positiveS l = true → Cov w l.atom.args ∧ atomV w l.atom ∈ b := by
  intro body
  induction body with
  | nil =>
    intro v w h hv
    rw [bindsS, List.mem_singleton] at h
    subst h
    exact ⟨hv, fun s x h => h, fun l hl => by cases hl⟩
  | cons l r ih =>
    intro v w h hv
    rw [bindsS] at h
    by_cases hp : positiveS l = true
    · rw [if_neg (by simp [hp]), List.mem_flatMap] at h
      obtain ⟨f, hf, hw⟩ := h
      obtain ⟨hfb, hn, hl⟩ := mem_cand.1 hf
      cases hfit : fitGo v l.atom.args f.args with
      | none => rw [hfit] at hw; cases hw
      | some u =>
        rw [hfit] at hw
        obtain ⟨g1, g2, g3, g4⟩ := fit_sound _ _ _ _ hfit hv (ground_args (hb f hfb)) hl.symm
        obtain ⟨k1, k2, k3⟩ := ih u w hw g1
        refine ⟨k1, g2.trans k2, ?_⟩
        intro l' hl' hp'
        rcases List.mem_cons.1 hl' with rfl | hl'
        · refine ⟨g3.ext k2, ?_⟩
          have : atomV w l'.atom = f := by
            unfold atomV
            obtain ⟨fn, fa⟩ := f
            simp only at hn g4
            rw [hn, ← g4]
            congr 1
            exact List.map_congr_left fun a ha => under_ext k2 g3 ha
          rw [this]; exact hfb
        · exact k3 l' hl' hp'
    · rw [if_pos (by simp [hp])] at h
      obtain ⟨k1, k2, k3⟩ := ih v w h hv
      refine ⟨k1, k2, ?_⟩
      intro l' hl' hp'
      rcases List.mem_cons.1 hl' with rfl | hl'
      · exact absurd hp' hp
      · exact k3 l' hl' hp'
theorem binds_complete {b : List Atm} (hb : Gr b) (θ : Sub) : ∀ (body : List Ltl) (v : Bnd), (∀ l ∈ body, positiveS l = true → subT θ l.atom ∈ b) → Agr v θ → GrB v → ∃ w ∈ bindsS b body v, Agr w θ := by
  intro body
  induction body with
  | nil => intro v _ ha _; exact ⟨v, by simp [bindsS], ha⟩
  | cons l r ih =>
    intro v h ha hv
    have h' : ∀ l ∈ r, positiveS l = true → subT θ l.atom ∈ b := fun l hl => h l (List.mem_cons_of_mem _ hl)
    rw [bindsS]
    by_cases hp : positiveS l = true
    · rw [if_neg (by simp [hp])]
      have hm := h l List.mem_cons_self hp
      obtain ⟨u, hu, ha2, hv2⟩ := fit_complete θ l.atom.args v ha hv (ground_args (hb _ hm))
      obtain ⟨w, hw, haw⟩ := ih u h' ha2 hv2
      refine ⟨w, List.mem_flatMap.2 ⟨subT θ l.atom, mem_cand.2 ⟨hm, rfl, by simp [subT]⟩, ?_⟩, haw⟩
      show w ∈ (match fitGo v l.atom.args (l.atom.args.map (subA θ)) with | Option.some w => bindsS b r w | none => [])
      rw [hu]
      exact hw
    · rw [if_pos (by simp [hp])]
      exact ih v h' ha hv
def SafeV (r : Rul) (l : List Arg) : Prop := ∀ a ∈ l, a.kind = 1 → ∃ x ∈ r.body, positiveS x = true ∧ ∃ y ∈ x.atom.args, y.kind = 1 ∧ y.text = a.text
def SafeR (r : Rul) : Prop := SafeV r r.head.args ∧ ∀ x ∈ r.body, SafeV r x.atom.args
def Con (r : Rul) (b nb : List Atm) (h : Atm) : Prop := ∃ θ : Sub, (∀ l ∈ r.body, positiveS l = true → subT θ l.atom ∈ b) ∧
  (∀ l ∈ r.body, positiveS l = false → l.op.isEmpty = true → subT θ l.atom ∉ nb) ∧
  (∀ l ∈ r.body, l.op.isEmpty = false → compareS l.op (subA θ (l.atom.args.headD default)) (subA θ ((l.atom.args.drop 1).headD default)) = true) ∧ h = subT θ r.head
theorem atomV_sub {v : Bnd} {θ : Sub} (hv : Agr v θ) {a : Atm} (hc : Cov v a.args) : atomV v a = subT θ a := by
  unfold atomV subT
  congr 1
  exact List.map_congr_left fun x hx => under_sub hv hc hx
theorem under_headD {v : Bnd} {θ : Sub} (hv : Agr v θ) {l : List Arg} (hc : Cov v l) : under v (l.headD default) = subA θ (l.headD default) := by
  cases l with
  | nil => rw [List.headD_nil, under_ne (by decide)]; unfold subA; rw [if_neg (by decide)]
  | cons a r => exact under_sub hv hc List.mem_cons_self
theorem rest_iff {nb : List Atm} {w : Bnd} {θ : Sub} (hw : Agr w θ) : ∀ body : List Ltl, (∀ l ∈ body, Cov w l.atom.args) → (restS nb w body = true ↔
    (∀ l ∈ body, positiveS l = false → l.op.isEmpty = true → subT θ l.atom ∉ nb) ∧ (∀ l ∈ body, l.op.isEmpty = false → compareS l.op (subA θ (l.atom.args.headD default)) (subA θ ((l.atom.args.drop 1).headD default)) = true)) := by
  intro body
  induction body with
  | nil => intro _; simp [restS]
  | cons l r ih =>
    intro hc
    have hcl := hc l List.mem_cons_self
    have ih := ih (fun l hl => hc l (List.mem_cons_of_mem _ hl))
    have hcd : Cov w (l.atom.args.drop 1) := fun a ha => hcl a (List.mem_of_mem_drop ha)
    rw [restS, under_headD hw hcl, under_headD hw hcd, atomV_sub hw hcl]
    simp only [List.forall_mem_cons]
    by_cases hp : positiveS l = true
    · have ho : l.op.isEmpty = true := by unfold positiveS at hp; rw [Bool.and_eq_true] at hp; exact hp.1
      rw [if_pos hp, ih]
      simp [hp, ho]
    · rw [if_neg hp]
      have hp' : positiveS l = false := by simpa using hp
      by_cases ho : l.op.isEmpty = false
      · rw [if_pos ho]
        by_cases hcm : compareS l.op (subA θ (l.atom.args.headD default)) (subA θ ((l.atom.args.drop 1).headD default)) = true
        · rw [if_pos hcm, ih]
          simp only [ho, hp', hcm]
          simp
        · rw [if_neg hcm]
          constructor
          · intro h; cases h
          · intro h; exact absurd (h.2.1 ho) hcm
      · rw [if_neg ho]
        have ho' : l.op.isEmpty = true := by simpa using ho
        by_cases hm : subT θ l.atom ∈ nb
        · rw [if_pos (by simpa using hm)]
          constructor
          · intro h; cases h
          · intro h; exact absurd hm (h.1.1 hp' ho')
        · rw [if_neg (by simpa using hm), ih]
          simp only [ho', hp']
          simp [hm]
theorem cov_all {r : Rul} (hs : SafeR r) {w : Bnd} (hw : ∀ l ∈ r.body, positiveS l = true → Cov w l.atom.args) : Cov w r.head.args ∧ ∀ l ∈ r.body, Cov w l.atom.args := by
  have key : ∀ l, SafeV r l → Cov w l := by
    intro l hl a ha hk
    obtain ⟨x, hx, hp, y, hy, hyk, hyt⟩ := hl a ha hk
    rw [← hyt]
    exact hw x hx hp y hy hyk
  exact ⟨key _ hs.1, fun l hl => key _ (hs.2 l hl)⟩
theorem each_sound {r : Rul} (hs : SafeR r) {b nb : List Atm} (hb : Gr b) {v : Bnd} (hv : v ∈ eachQ r.body b nb) : Con r b nb (atomV v r.head) ∧ GrB v ∧ Cov v r.head.args := by
  unfold eachQ at hv
  rw [List.mem_filter] at hv
  obtain ⟨h1, h2⟩ := hv
  obtain ⟨g1, -, g3⟩ := binds_sound hb _ _ _ h1 (fun s x h => by cases h)
  obtain ⟨c1, c2⟩ := cov_all hs (fun l hl hp => (g3 l hl hp).1)
  have hr := (rest_iff (nb := nb) (agr_th v) r.body c2).1 h2
  refine ⟨⟨thS v, fun l hl hp => ?_, hr.1, hr.2, atomV_sub (agr_th v) c1⟩, g1, c1⟩
  rw [← atomV_sub (agr_th v) (c2 l hl)]
  exact (g3 l hl hp).2
theorem each_complete {r : Rul} (hs : SafeR r) {b nb : List Atm} (hb : Gr b) {h : Atm} (hc : Con r b nb h) : ∃ v ∈ eachQ r.body b nb, atomV v r.head = h := by
  obtain ⟨θ, h1, h2, h3, rfl⟩ := hc
  obtain ⟨w, hw, ha⟩ := binds_complete hb θ r.body [] h1 (fun s x h => by cases h) (fun s x h => by cases h)
  obtain ⟨g1, -, g3⟩ := binds_sound hb _ _ _ hw (fun s x h => by cases h)
  obtain ⟨c1, c2⟩ := cov_all hs (fun l hl hp => (g3 l hl hp).1)
  exact ⟨w, List.mem_filter.2 ⟨hw, (rest_iff ha r.body c2).2 ⟨h2, h3⟩⟩, atomV_sub ha c1⟩
theorem under_okc {v : Bnd} (hv : GrB v) {l : List Arg} (hc : Cov v l) (hf : ∀ a ∈ l, formedS a = true) : ∀ x ∈ l.map (under v), OkC x := by
  intro x hx
  obtain ⟨a, ha, rfl⟩ := List.mem_map.1 hx
  by_cases h : a.kind = 1
  · obtain ⟨y, hy⟩ := Option.isSome_iff_exists.1 (hc a ha h)
    rw [under_some h hy]
    exact hv _ _ hy
  · rw [under_ne h]
    exact ⟨hf a ha, h⟩
theorem atomV_ground {v : Bnd} (hv : GrB v) {a : Atm} (ha : atomS a = true) (hc : Cov v a.args) : groundP (atomV v a) = true := by
  have hk := under_okc hv hc (atomS_args ha)
  unfold groundP
  rw [Bool.and_eq_true, Bool.not_eq_true', List.any_eq_false]
  refine ⟨?_, fun x hx h => (hk x hx).2 (by simpa using h)⟩
  unfold atomS at ha ⊢
  unfold atomV at *
  rw [Bool.and_eq_true, Bool.and_eq_true] at ha ⊢
  refine ⟨⟨ha.1.1, ?_⟩, ?_⟩
  · simpa using ha.1.2
  · unfold argsS
    rw [List.all_eq_true]
    exact fun x hx => (hk x hx).1
end Go.Proofs.YtkjoaodoioicpaaGreatDoor
namespace Go.Proofs.YtkjoaodoioicpaaGreatDoor
theorem headF_iter (b : List Atm) (most : Nat) (head : Atm) : ∀ (L : List Bnd) (s : List Atm), s.Nodup → (∀ h ∈ s, h ∉ b) →
    (iterF (headF b most head) L s).1.Nodup ∧ (∀ h ∈ (iterF (headF b most head) L s).1, h ∉ b) ∧ (∀ h ∈ (iterF (headF b most head) L s).1, h ∈ s ∨ ∃ v ∈ L, h = atomV v head) ∧ (∃ t, (iterF (headF b most head) L s).1 = s ++ t) ∧
    (b.length + (iterF (headF b most head) L s).1.length ≤ most → ∀ v ∈ L, atomV v head ∈ b ∨ atomV v head ∈ (iterF (headF b most head) L s).1) := by
  intro L
  induction L with
  | nil => intro s hs hd; exact ⟨hs, hd, fun h hh => .inl hh, ⟨[], by simp [iterF]⟩, fun _ v hv => by cases hv⟩
  | cons v L ih =>
    intro s hs hd
    have hstep : ∃ u, (headF b most head s v).1 = s ++ u ∧ (s ++ u).Nodup ∧ (∀ h ∈ s ++ u, h ∉ b) ∧ (∀ h ∈ s ++ u, h ∈ s ∨ h = atomV v head) ∧ (atomV v head ∈ b ∨ atomV v head ∈ s ++ u) ∧ (headF b most head s v).2 = decide (b.length + (s ++ u).length ≤ most) := by
      unfold headF
      simp only
      by_cases hb : atomV v head ∈ b
      · refine ⟨[], ?_, by simpa using hs, by simpa using hd, fun h hh => .inl (by simpa using hh), .inl hb, ?_⟩
        · rw [if_pos (by simp [hb])]; simp
        · rw [if_pos (by simp [hb])]; simp
      · by_cases hm : atomV v head ∈ s
        · refine ⟨[], ?_, by simpa using hs, by simpa using hd, fun h hh => .inl (by simpa using hh), .inr (by simpa using hm), ?_⟩
          · rw [if_pos (by simp [hm])]; simp
          · rw [if_pos (by simp [hm])]; simp
        · refine ⟨[atomV v head], ?_, ?_, ?_, by simp, .inr (by simp), ?_⟩
          · rw [if_neg (by simp [hb, hm])]
          · rw [List.nodup_append]
            refine ⟨hs, by simp, ?_⟩
            intro a ha c hc e
            rw [List.mem_singleton] at hc
            exact hm (by rw [← hc, ← e]; exact ha)
          · intro h hh
            rcases List.mem_append.1 hh with hh | hh
            · exact hd h hh
            · rw [List.mem_singleton.1 hh]; exact hb
          · rw [if_neg (by simp [hb, hm])]
    obtain ⟨u, e1, n1, d1, m1, c1, e2⟩ := hstep
    rw [iterF, e2, e1]
    by_cases hle : b.length + (s ++ u).length ≤ most
    · rw [if_pos (by simpa using hle)]
      obtain ⟨k1, k2, k3, ⟨t, k4⟩, k5⟩ := ih (s ++ u) n1 d1
      refine ⟨k1, k2, ?_, ⟨u ++ t, by rw [k4, List.append_assoc]⟩, ?_⟩
      · intro h hh
        rcases k3 h hh with hh | ⟨v', hv', e⟩
        · rcases m1 h hh with hh | hh
          · exact .inl hh
          · exact .inr ⟨v, List.mem_cons_self, hh⟩
        · exact .inr ⟨v', List.mem_cons_of_mem _ hv', e⟩
      · intro hl v' hv'
        rcases List.mem_cons.1 hv' with rfl | hv'
        · rcases c1 with c1 | c1
          · exact .inl c1
          · right; rw [k4]; exact List.mem_append_left _ c1
        · exact k5 hl v' hv'
    · rw [if_neg (by simpa using hle)]
      refine ⟨n1, d1, ?_, ⟨u, rfl⟩, fun hl => absurd hl hle⟩
      intro h hh
      rcases m1 h hh with hh | hh
      · exact .inl hh
      · exact .inr ⟨v, List.mem_cons_self, hh⟩
def RuleOk (r : Rul) : Prop := SafeR r ∧ atomS r.head = true
inductive Der (own : List Rul) (b0 : List Atm) : Atm → Prop
  | base {a : Atm} : a ∈ b0 → Der own b0 a
  | step {r : Rul} (θ : Sub) : r ∈ own → (∀ l ∈ r.body, positiveS l = true → Der own b0 (subT θ l.atom)) → (∀ l ∈ r.body, positiveS l = false → l.op.isEmpty = true → subT θ l.atom ∉ b0) →
      (∀ l ∈ r.body, l.op.isEmpty = false → compareS l.op (subA θ (l.atom.args.headD default)) (subA θ ((l.atom.args.drop 1).headD default)) = true) → Der own b0 (subT θ r.head)
def NegOk (own : List Rul) : Prop := ∀ r ∈ own, ∀ l ∈ r.body, positiveS l = false → l.op.isEmpty = true → ∀ r' ∈ own, r'.head.name ≠ l.atom.name
structure BInv (own : List Rul) (b0 b : List Atm) : Prop where
  nd : b.Nodup
  gr : Gr b
  sub : ∀ a ∈ b0, a ∈ b
  heads : ∀ a ∈ b, a ∈ b0 ∨ ∃ r ∈ own, r.head.name = a.name
  der : ∀ a ∈ b, Der own b0 a
theorem BInv.neg {own : List Rul} {b0 b : List Atm} (h : BInv own b0 b) (hn : NegOk own) {r : Rul} (hr : r ∈ own) {l : Ltl} (hl : l ∈ r.body) (hp : positiveS l = false) (ho : l.op.isEmpty = true) (θ : Sub) : subT θ l.atom ∈ b ↔ subT θ l.atom ∈ b0 := by
  refine ⟨fun hm => ?_, h.sub _⟩
  rcases h.heads _ hm with hm | ⟨r', hr', e⟩
  · exact hm
  · exact absurd e (hn r hr l hl hp ho r' hr')
theorem BInv.con {own : List Rul} {b0 b : List Atm} (h : BInv own b0 b) (hn : NegOk own) {r : Rul} (hr : r ∈ own) {a : Atm} (hc : Con r b b a) : Der own b0 a := by
  obtain ⟨θ, h1, h2, h3, rfl⟩ := hc
  exact .step θ hr (fun l hl hp => h.der _ (h1 l hl hp)) (fun l hl hp ho hm => h2 l hl hp ho (h.sub _ hm)) h3
theorem heads_law {own : List Rul} {b0 b : List Atm} (h : BInv own b0 b) (hn : NegOk own) (hok : ∀ r ∈ own, RuleOk r) {r : Rul} (hr : r ∈ own) (most : Nat) :
    BInv own b0 (b ++ headsS b most r) ∧ ((b ++ headsS b most r).length ≤ most → ∀ a, Con r b b a → a ∈ b ++ headsS b most r) := by
  obtain ⟨k1, k2, k3, -, k5⟩ := headF_iter b most r.head (eachQ r.body b b) [] List.nodup_nil (fun h hh => by cases hh)
  obtain ⟨hs, ha⟩ := hok r hr
  have e0 : (iterF (headF b most r.head) (eachQ r.body b b) []).1 = headsS b most r := rfl
  rw [e0] at k1 k2 k3 k5
  have hnew : ∀ a ∈ headsS b most r, Der own b0 a ∧ groundP a = true ∧ a.name = r.head.name := by
    intro a hm
    rcases k3 a hm with hm | ⟨v, hv, rfl⟩
    · cases hm
    · obtain ⟨c1, c2, c3⟩ := each_sound hs h.gr hv
      exact ⟨h.con hn hr c1, atomV_ground c2 ha c3, rfl⟩
  refine ⟨⟨?_, ?_, fun a ha => List.mem_append_left _ (h.sub a ha), ?_, ?_⟩, ?_⟩
  · rw [List.nodup_append]
    exact ⟨h.nd, k1, fun a hm c hc e => k2 c hc (e ▸ hm)⟩
  · intro a hm
    rcases List.mem_append.1 hm with hm | hm
    · exact h.gr a hm
    · exact (hnew a hm).2.1
  · intro a hm
    rcases List.mem_append.1 hm with hm | hm
    · exact h.heads a hm
    · exact .inr ⟨r, hr, (hnew a hm).2.2.symm⟩
  · intro a hm
    rcases List.mem_append.1 hm with hm | hm
    · exact h.der a hm
    · exact (hnew a hm).1
  · intro hl a hc
    obtain ⟨v, hv, rfl⟩ := each_complete hs h.gr hc
    rw [List.length_append] at hl
    exact List.mem_append.2 (k5 hl v hv)
theorem satR_law {own : List Rul} {b0 : List Atm} (hn : NegOk own) (hok : ∀ r ∈ own, RuleOk r) (most : Nat) : ∀ (rs : List Rul) (b : List Atm) (ag : Bool), (∀ r ∈ rs, r ∈ own) → BInv own b0 b → b.length ≤ most →
    match satR most rs b ag with
    | none => ∃ c : List Atm, BInv own b0 c ∧ most < c.length
    | some (b', ag') => BInv own b0 b' ∧ b'.length ≤ most ∧ (∃ t, b' = b ++ t) ∧ (ag = true → ag' = true) ∧ (ag' = false → b' = b ∧ ∀ r ∈ rs, ∀ a, Con r b b a → a ∈ b) ∧ (ag = false → ag' = true → b.length < b'.length) := by
  intro rs
  induction rs with
  | nil =>
    intro b ag _ h hl
    simp only [satR]
    exact ⟨h, hl, ⟨[], by simp⟩, fun h => h, fun _ => ⟨trivial, fun r hr => by cases hr⟩, fun h1 h2 => by rw [h1] at h2; cases h2⟩
  | cons r rs ih =>
    intro b ag hsub h hl
    have hr := hsub r List.mem_cons_self
    obtain ⟨h1, h2⟩ := heads_law h hn hok hr most
    simp only [satR]
    by_cases hm : most < (b ++ headsS b most r).length
    · rw [if_pos hm]
      exact ⟨_, h1, hm⟩
    · rw [if_neg hm]
      have ih := ih (b ++ headsS b most r) (ag || !(headsS b most r).isEmpty) (fun r hr => hsub r (List.mem_cons_of_mem _ hr)) h1 (by omega)
      have h2 := h2 (by omega)
      split at ih
      · exact ih
      · rename_i b' ag' e
        obtain ⟨g1, g2, ⟨t, g3⟩, g4, g5, g6⟩ := ih
        refine ⟨g1, g2, ⟨headsS b most r ++ t, by rw [g3, List.append_assoc]⟩, ?_, ?_, ?_⟩
        · intro ha; exact g4 (by rw [ha]; rfl)
        · intro ha
          have hne : (ag || !(headsS b most r).isEmpty) = false := by
            cases hx : (ag || !(headsS b most r).isEmpty)
            · rfl
            · rw [g4 hx] at ha; cases ha
          rw [Bool.or_eq_false_iff, Bool.not_eq_false'] at hne
          have hemp : headsS b most r = [] := List.isEmpty_iff.1 hne.2
          rw [hemp, List.append_nil] at g5 h2
          obtain ⟨e1, e2⟩ := g5 ha
          refine ⟨e1, fun r' hr' => ?_⟩
          rcases List.mem_cons.1 hr' with rfl | hr'
          · exact h2
          · exact e2 r' hr'
        · intro ha ha'
          by_cases hemp : headsS b most r = []
          · rw [hemp, List.append_nil] at g6
            exact g6 (by rw [ha]; rfl) ha'
          · rw [g3, List.length_append, List.length_append]
            have := List.length_pos_iff.2 hemp
            omega
theorem satGo_law {own : List Rul} {b0 : List Atm} (hn : NegOk own) (hok : ∀ r ∈ own, RuleOk r) (most : Nat) : ∀ (f : Nat) (b : List Atm), BInv own b0 b → b.length ≤ most → most + 2 ≤ f + b.length →
    match satGo most own f b with
    | none => ∃ c : List Atm, BInv own b0 c ∧ most < c.length
    | some b' => BInv own b0 b' ∧ b'.length ≤ most ∧ ∀ r ∈ own, ∀ a, Con r b' b' a → a ∈ b' := by
  intro f
  induction f with
  | zero => intro b _ hl hf; omega
  | succ f ih =>
    intro b h hl hf
    have hs := satR_law hn hok most own b false (fun r hr => hr) h hl
    simp only [satGo]
    split at hs
    · rename_i e
      rw [e]; exact hs
    · rename_i b' ag' e
      rw [e]
      obtain ⟨g1, g2, -, -, g5, g6⟩ := hs
      simp only
      cases ag' with
      | true =>
        have := g6 rfl rfl
        simp only [if_true]
        exact ih b' g1 g2 (by omega)
      | false =>
        obtain ⟨e1, e2⟩ := g5 rfl
        simp only [Bool.false_eq_true, if_false]
        rw [e1] at g1 g2 ⊢
        exact ⟨g1, g2, e2⟩
theorem binv_init {own : List Rul} {b0 : List Atm} (hnd : b0.Nodup) (hg : Gr b0) : BInv own b0 b0 := ⟨hnd, hg, fun a h => h, fun a h => .inl h, fun a h => .base h⟩
theorem closed_der {own : List Rul} {b0 b : List Atm} (h : BInv own b0 b) (hn : NegOk own) (hc : ∀ r ∈ own, ∀ a, Con r b b a → a ∈ b) {a : Atm} (hd : Der own b0 a) : a ∈ b := by
  induction hd with
  | base hm => exact h.sub _ hm
  | step θ hr hp hneg hcmp ih => exact hc _ hr _ ⟨θ, fun l hl hp => ih l hl hp, fun l hl hp ho hm => hneg l hl hp ho ((h.neg hn hr hl hp ho θ).1 hm), hcmp, rfl⟩
theorem stratum_law {own : List Rul} {b0 : List Atm} (hn : NegOk own) (hok : ∀ r ∈ own, RuleOk r) (most : Nat) (hnd : b0.Nodup) (hg : Gr b0) (hl : b0.length ≤ most) :
    match satGo most own (most + 2) b0 with
    | none => ∃ c : List Atm, c.Nodup ∧ (∀ a ∈ c, Der own b0 a) ∧ most < c.length
    | some b => BInv own b0 b ∧ b.length ≤ most ∧ ∀ a, a ∈ b ↔ Der own b0 a := by
  have h := satGo_law hn hok most (most + 2) b0 (binv_init hnd hg) hl (by omega)
  generalize satGo most own (most + 2) b0 = R at *
  cases R with
  | none =>
    obtain ⟨c, hc, hm⟩ := h
    exact ⟨c, hc.nd, hc.der, hm⟩
  | some b =>
    obtain ⟨h1, h2, h3⟩ := h
    exact ⟨h1, h2, fun a => ⟨h1.der a, closed_der h1 hn h3⟩⟩
theorem nodup_le : ∀ (c b : List Atm), c.Nodup → (∀ a ∈ c, a ∈ b) → c.length ≤ b.length := by
  intro c
  induction c with
  | nil => intro b _ _; exact Nat.zero_le _
  | cons a c ih =>
    intro b hc hs
    rw [List.nodup_cons] at hc
    have hab := hs a List.mem_cons_self
    have h := ih (b.erase a) hc.2 (fun x hx => (List.mem_erase_of_ne (fun e => hc.1 (by rw [← e]; exact hx))).2 (hs x (List.mem_cons_of_mem _ hx)))
    rw [List.length_erase_of_mem hab] at h
    have := List.length_pos_of_mem hab
    simp only [List.length_cons]
    omega
theorem der_congr {own own' : List Rul} {b0 b0' : List Atm} (h1 : ∀ r ∈ own, r ∈ own') (h2 : ∀ a, a ∈ b0 ↔ a ∈ b0') {a : Atm} (h : Der own b0 a) : Der own' b0' a := by
  induction h with
  | base hm => exact .base ((h2 _).1 hm)
  | step θ hr _ hneg hcmp ih => exact .step θ (h1 _ hr) ih (fun l hl hp ho hm => hneg l hl hp ho ((h2 _).2 hm)) hcmp
end Go.Proofs.YtkjoaodoioicpaaGreatDoor
