/- Expressions: runs of the plain parser with whatever fuel; plain lemmas. -/
import Derived.Test.YtchdpjgncojhaaaParseLen
set_option linter.unusedVariables false
set_option linter.unusedSimpArgs false
namespace Go.Proofs.Ytchdpjgncojhaaa

abbrev Part := PSt → PRes
def Part.le (p q : Part) : Prop := ∀ st x, p st = some x → q st = some x
theorem map_mono {r r' : PRes} {g : Bool × PSt × Int → Bool × PSt × Int} (h : ∀ x, r = some x → r' = some x) : ∀ x, r.map g = some x → r'.map g = some x := by
  intro x hx
  cases hr : r with
  | none => rw [hr] at hx; cases hx
  | some y => rw [hr] at hx; rw [h y hr]; exact hx
theorem bind_mono {r r' : PRes} {g g' : Bool × PSt × Int → PRes} (h : ∀ x, r = some x → r' = some x) (hg : ∀ y x, g y = some x → g' y = some x) : ∀ x, r.bind g = some x → r'.bind g' = some x := by
  intro x hx
  cases hr : r with
  | none => rw [hr] at hx; cases hx
  | some y => rw [hr] at hx; rw [h y hr]; exact hg _ _ hx
theorem pwithin_mono {p q : Part} (h : p.le q) : Part.le (pwithin p) (pwithin q) := by
  intro st x hx
  unfold pwithin at hx ⊢
  split
  · rename_i hd; rw [if_pos hd] at hx; exact hx
  · rename_i hd; rw [if_neg hd] at hx; exact map_mono (h _) _ hx
theorem pparens_mono {p q : Part} (h : p.le q) : Part.le (pparens p) (pparens q) := by
  intro st x hx
  unfold pparens at hx ⊢
  split
  · rename_i hd; rw [if_pos hd] at hx; exact pwithin_mono (p := fun s => pclose (p s)) (q := fun s => pclose (q s)) (fun st x hx => map_mono (h st) x hx) _ _ hx
  · rename_i hd; rw [if_neg hd] at hx; exact hx
theorem pr_up (f : Nat) : ∀ tag, Part.le (pr f tag) (pr (f + 1) tag) := by
  induction f with
  | zero => intro tag st x h; cases h
  | succ f ih =>
    intro tag st x h
    cases tag with
    | nothing => rw [pr] at h ⊢; exact h
    | bin l =>
      rw [pr] at h ⊢
      split
      · rename_i hl; rw [if_pos hl] at h; exact ih _ _ _ h
      · rename_i hl; rw [if_neg hl] at h
        refine bind_mono (ih _ _) (fun y x hy => ?_) _ h
        split
        · rename_i hb; rw [if_pos hb] at hy; exact ih _ _ _ hy
        · rename_i hb; rw [if_neg hb] at hy; exact hy
    | loop l =>
      rw [pr] at h ⊢
      cases hr : st.rest with
      | nil => rw [hr] at h; exact h
      | cons t r =>
        rw [hr] at h
        simp only at h ⊢
        split
        · rename_i hl; rw [if_pos hl] at h
          refine bind_mono (ih _ _) (fun y x hy => ?_) _ h
          split
          · rename_i hb; rw [if_pos hb] at hy; exact ih _ _ _ hy
          · rename_i hb; rw [if_neg hb] at hy; exact hy
        · rename_i hl; rw [if_neg hl] at h; exact h
    | args n =>
      rw [pr] at h ⊢
      split
      · rename_i hl; rw [if_pos hl] at h; exact h
      · rename_i hl; rw [if_neg hl] at h; exact ih _ _ _ h
    | more n =>
      rw [pr] at h ⊢
      refine bind_mono (ih _ _) (fun y x hy => ?_) _ h
      split
      · rename_i hb; rw [if_pos hb] at hy
        split
        · rename_i hc; rw [if_pos hc] at hy
          split
          · rename_i hd; rw [if_pos hd] at hy; exact hy
          · rename_i hd; rw [if_neg hd] at hy; exact ih _ _ _ hy
        · rename_i hc; rw [if_neg hc] at hy; exact hy
      · rename_i hb; rw [if_neg hb] at hy; exact hy
    | single =>
      rw [pr] at h ⊢
      cases hr : st.rest with
      | nil => rw [hr] at h; exact h
      | cons t r =>
        rw [hr] at h
        simp only at h ⊢
        split
        · rename_i hl; rw [if_pos hl] at h; exact h
        · rename_i hl; rw [if_neg hl] at h
          split
          · rename_i hl; rw [if_pos hl] at h
            split
            · rename_i hl; rw [if_pos hl] at h; exact map_mono (map_mono (pwithin_mono (ih _) _)) _ h
            · rename_i hl; rw [if_neg hl] at h; exact map_mono (pparens_mono (ih _) _) _ h
          · rename_i hl; rw [if_neg hl] at h
            split
            · rename_i hl; rw [if_pos hl] at h; exact map_mono (map_mono (pparens_mono (ih _) _)) _ h
            · rename_i hl; rw [if_neg hl] at h
              split
              · rename_i hl; rw [if_pos hl] at h; exact map_mono (map_mono (pparens_mono (ih _) _)) _ h
              · rename_i hl; rw [if_neg hl] at h
                split
                · rename_i hl; rw [if_pos hl] at h
                  split
                  · rename_i hl; rw [if_pos hl] at h; exact map_mono (pparens_mono (ih _) _) _ h
                  · rename_i hl; rw [if_neg hl] at h; exact h
                · rename_i hl; rw [if_neg hl] at h; exact h
theorem pr_le {f g : Nat} (h : f ≤ g) (tag : PTag) : Part.le (pr f tag) (pr g tag) := by
  induction h with
  | refl => exact fun _ _ h => h
  | step _ ih => exact fun st x hx => pr_up _ _ _ _ (ih st x hx)

/-- A run, with whatever fuel. -/
def Run (tag : PTag) (st : PSt) (x : Bool × PSt × Int) : Prop := ∃ f, pr f tag st = some x
theorem Run.one {tag : PTag} {st : PSt} {x y : Bool × PSt × Int} (h : Run tag st x) (k : Run tag st y) : x = y := by
  obtain ⟨f, h⟩ := h
  obtain ⟨g, k⟩ := k
  have h1 := pr_le (Nat.le_max_left f g) tag _ _ h
  have k1 := pr_le (Nat.le_max_right f g) tag _ _ k
  rw [h1] at k1
  injection k1
/-- A run that finds the depth too great. -/
def Deep (tag : PTag) (st : PSt) : Prop := ∃ s n, Run tag st (false, s, n) ∧ s.err = 11

theorem run_bin11 {st : PSt} {x : Bool × PSt × Int} (h : Run .single st x) : Run (.bin 11) st x := by
  obtain ⟨f, h⟩ := h
  exact ⟨f + 1, by rw [pr, if_pos rfl]; exact h⟩
theorem deep_bin11 {st : PSt} (h : Deep .single st) : Deep (.bin 11) st := by
  obtain ⟨s, n, h, e⟩ := h
  exact ⟨s, n, run_bin11 h, e⟩
theorem run_bin {l : Nat} {st s : PSt} {n : Int} {x : Bool × PSt × Int} (hl : l ≤ 10) (h : Run (.bin (l + 1)) st (true, s, n)) (k : Run (.loop l) s x) : Run (.bin l) st x := by
  obtain ⟨f, h⟩ := h
  obtain ⟨g, k⟩ := k
  refine ⟨max f g + 1, ?_⟩
  rw [pr, if_neg (by omega), pr_le (Nat.le_max_left f g) _ _ _ h]
  exact pr_le (Nat.le_max_right f g) _ _ _ k
theorem deep_bin {l : Nat} {st : PSt} (hl : l ≤ 10) (h : Deep (.bin (l + 1)) st) : Deep (.bin l) st := by
  obtain ⟨s, n, ⟨f, h⟩, e⟩ := h
  exact ⟨s, 0, ⟨f + 1, by rw [pr, if_neg (by omega), h]; rfl⟩, e⟩
/-- What may follow a part on a level. -/
def stops (l : Nat) (r : List Tok) : Prop := ∀ t r', r = t :: r' → t ≠ ⟨3, [40]⟩ ∧ (t.kind = 3 → level t.text < l)
theorem stops.up {l k : Nat} {r : List Tok} (h : stops l r) (hk : l ≤ k) : stops k r := fun t r' e => ⟨(h t r' e).1, fun q => Nat.lt_of_lt_of_le ((h t r' e).2 q) hk⟩
theorem stops.nil (l : Nat) : stops l [] := fun _ _ e => by cases e
theorem run_stop {l : Nat} {st : PSt} (h : stops l st.rest) : Run (.loop l) st (true, st, 0) := by
  refine ⟨1, ?_⟩
  rw [pr]
  cases hr : st.rest with
  | nil => rfl
  | cons t r =>
    simp only
    have := h t r hr
    rw [if_neg]
    rintro ⟨h1, h2⟩
    have := this.2 h1
    omega
theorem run_loop {l : Nat} {st s : PSt} {t : Tok} {r : List Tok} {n : Int} {x : Bool × PSt × Int} (hr : st.rest = t :: r) (hk : t.kind = 3) (hl : level t.text = l)
    (h : Run (.bin (l + 1)) { st with rest := r } (true, s, n)) (k : Run (.loop l) (pput s 7 t.text 0).2 x) : Run (.loop l) st x := by
  obtain ⟨f, h⟩ := h
  obtain ⟨g, k⟩ := k
  refine ⟨max f g + 1, ?_⟩
  rw [pr, hr]
  simp only
  rw [if_pos ⟨hk, hl⟩, pr_le (Nat.le_max_left f g) _ _ _ h]
  exact pr_le (Nat.le_max_right f g) _ _ _ k
theorem deep_loop {l : Nat} {st : PSt} {t : Tok} {r : List Tok} (hr : st.rest = t :: r) (hk : t.kind = 3) (hl : level t.text = l)
    (h : Deep (.bin (l + 1)) { st with rest := r }) : Deep (.loop l) st := by
  obtain ⟨s, n, ⟨f, h⟩, e⟩ := h
  refine ⟨s, 0, ⟨f + 1, ?_⟩, e⟩
  rw [pr, hr]
  simp only
  rw [if_pos ⟨hk, hl⟩, h]
  rfl

/-- The state behind tokens that were read. -/
def ext (st : PSt) (r : List Tok) (ops : List Opn) : PSt := { st with rest := r, out := st.out ++ ops }
theorem pfail_deep {st : PSt} (h : st.err = 0) : (pfail st 11).2.err = 11 := by simp [pfail, h]

end Go.Proofs.Ytchdpjgncojhaaa
