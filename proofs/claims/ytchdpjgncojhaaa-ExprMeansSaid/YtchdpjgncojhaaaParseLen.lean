/- Expressions: what every run of the plain parser keeps: depth, lengths; that its fuel is enough. -/
import Derived.Test.YtchdpjgncojhaaaParseSpec
set_option linter.unusedVariables false
set_option linter.unusedSimpArgs false
namespace Go.Proofs.Ytchdpjgncojhaaa

def PSt.m (s : PSt) : Nat := s.out.length + s.rest.length
structure PInv (st s : PSt) : Prop where
  depth : s.depth = st.depth
  rest : s.rest.length ≤ st.rest.length
  m : s.m ≤ st.m
theorem PInv.refl (s : PSt) : PInv s s := ⟨rfl, Nat.le_refl _, Nat.le_refl _⟩
theorem PInv.trans {a b c : PSt} (h : PInv a b) (k : PInv b c) : PInv a c := ⟨k.depth.trans h.depth, Nat.le_trans k.rest h.rest, Nat.le_trans k.m h.m⟩
theorem pfail_inv (st : PSt) (e : Int) : PInv st (pfail st e).2 := by unfold pfail; split <;> exact ⟨rfl, Nat.le_refl _, Nat.le_refl _⟩
theorem ptail_inv (st : PSt) : PInv st { st with rest := st.rest.tail } := ⟨rfl, by simp, by simp [PSt.m]⟩
theorem ptake_inv (st : PSt) (s : Bs) : PInv st (ptake st s).2 := by
  unfold ptake
  split
  · exact ptail_inv st
  · exact pfail_inv _ _
theorem ptake_yes {st : PSt} {s : Bs} (h : (ptake st s).1 = true) : (ptake st s).2.m + 1 ≤ st.m := by
  unfold ptake at h ⊢
  split at h
  · rename_i hn
    simp only [hn, if_true]
    unfold pnext at hn
    cases hr : st.rest with
    | nil => rw [hr] at hn; simp at hn
    | cons t r => simp [PSt.m, hr]; omega
  · simp [pfail] at h

def Good (part : PSt → PRes) : Prop := ∀ st x, part st = some x → PInv st x.2.1
/-- One token at least has gone. -/
structure PInv1 (st : PSt) (x : Bool × PSt × Int) : Prop where
  inv : PInv st x.2.1
  one : x.1 = true → x.2.1.m + 1 ≤ st.m

theorem pwithin_inv {part : PSt → PRes} (hp : Good part) {st : PSt} (hr : 1 ≤ st.rest.length) {x : Bool × PSt × Int} (h : pwithin part st = some x) : PInv1 st x := by
  unfold pwithin at h
  split at h
  · injection h with h
    subst h
    exact ⟨pfail_inv _ _, fun h => by simp [pfail] at h⟩
  · unfold pdown at h
    cases hq : part { st with depth := st.depth + 1, rest := st.rest.tail } with
    | none => rw [hq] at h; cases h
    | some y =>
      rw [hq] at h
      simp only [Option.map_some, Option.some.injEq] at h
      subst h
      have hi := hp _ _ hq
      have hm := hi.m
      have hrr := hi.rest
      simp only [PSt.m, List.length_tail] at hm hrr
      exact ⟨⟨by simp only; rw [hi.depth]; simp, by simp only; omega, by simp only [PSt.m]; omega⟩, fun _ => by simp only [PSt.m]; omega⟩
theorem pclose_good {part : PSt → PRes} (hp : Good part) : Good (fun s => pclose (part s)) := by
  intro st x h
  unfold pclose at h
  simp only at h
  cases hq : part st with
  | none => rw [hq] at h; cases h
  | some y =>
    rw [hq] at h
    simp only [Option.map_some, Option.some.injEq] at h
    subst h
    split
    · exact (hp _ _ hq).trans (ptake_inv _ _)
    · exact hp _ _ hq
theorem pparens_inv {part : PSt → PRes} (hp : Good part) {st : PSt} {x : Bool × PSt × Int} (h : pparens part st = some x) : PInv1 st x := by
  unfold pparens at h
  split at h
  · rename_i hn
    refine pwithin_inv (pclose_good hp) ?_ h
    unfold pnext at hn
    cases hr : st.rest with
    | nil => rw [hr] at hn; simp at hn
    | cons t r => simp
  · injection h with h
    subst h
    exact ⟨pfail_inv _ _, fun h => by simp [pfail] at h⟩
theorem pzero_inv {st : PSt} {r : PRes} (hr : ∀ x, r = some x → PInv1 st x) {x : Bool × PSt × Int} (h : pzero r = some x) : PInv1 st x := by
  unfold pzero at h
  cases hq : r with
  | none => rw [hq] at h; cases h
  | some y =>
    rw [hq] at h
    simp only [Option.map_some, Option.some.injEq] at h
    subst h
    exact ⟨(hr y hq).inv, (hr y hq).one⟩
theorem pput_inv {st s : PSt} (h : PInv st s) (h1 : s.m + 1 ≤ st.m) (k : Int) (t : Bs) (n : Int) : PInv st (pput s k t n).2 :=
  ⟨h.depth, h.rest, by simp only [pput, PSt.m, List.length_append, List.length_cons, List.length_nil] at h1 ⊢; omega⟩
theorem pthen_inv {st : PSt} {r : PRes} (hr : ∀ x, r = some x → PInv1 st x) {k : Int} {t : Bs} {x : Bool × PSt × Int} (h : pthen r k t = some x) : PInv st x.2.1 := by
  unfold pthen at h
  cases hq : r with
  | none => rw [hq] at h; cases h
  | some y =>
    rw [hq] at h
    simp only [Option.map_some, Option.some.injEq] at h
    subst h
    have hy := hr y hq
    split
    · rename_i hb
      exact pput_inv hy.inv (hy.one hb) _ _ _
    · exact hy.inv

theorem bind_some {r : PRes} {k : Bool × PSt × Int → PRes} {x : Bool × PSt × Int} (h : r.bind k = some x) : ∃ y, r = some y ∧ k y = some x := by
  cases r with
  | none => cases h
  | some y => exact ⟨y, rfl, h⟩

theorem pr_inv (f : Nat) : ∀ tag, Good (pr f tag) := by
  induction f with
  | zero => intro tag st x h; cases h
  | succ f ih =>
    intro tag st x h
    cases tag with
    | nothing => rw [pr] at h; injection h with h; subst h; exact PInv.refl _
    | bin l =>
      rw [pr] at h
      split at h
      · exact ih _ _ _ h
      · obtain ⟨y, hy, h⟩ := bind_some h
        have h1 := ih _ _ _ hy
        split at h
        · exact h1.trans (ih _ _ _ h)
        · injection h with h; subst h; exact h1
    | loop l =>
      rw [pr] at h
      split at h
      · injection h with h; subst h; exact PInv.refl _
      · rename_i t r hr
        split at h
        · obtain ⟨y, hy, h⟩ := bind_some h
          have h1 := ih _ _ _ hy
          have h0 : PInv st { st with rest := r } := ⟨rfl, by simp [hr], by simp [PSt.m, hr]⟩
          have h2 : y.2.1.m + 1 ≤ st.m := by have := h1.m; simp only [PSt.m, hr, List.length_cons] at this ⊢; omega
          split at h
          · exact (pput_inv (h0.trans h1) h2 _ _ _).trans (ih _ _ _ h)
          · injection h with h; subst h; exact h0.trans h1
        · injection h with h; subst h; exact PInv.refl _
    | args n =>
      rw [pr] at h
      split at h
      · injection h with h; subst h; exact PInv.refl _
      · exact ih _ _ _ h
    | more n =>
      rw [pr] at h
      obtain ⟨y, hy, h⟩ := bind_some h
      have h1 := ih _ _ _ hy
      split at h
      · split at h
        · split at h
          · injection h with h; subst h; exact h1.trans (pfail_inv _ _)
          · exact (h1.trans (ptail_inv _)).trans (ih _ _ _ h)
        · injection h with h; subst h; exact h1
      · injection h with h; subst h; exact h1
    | single =>
      rw [pr] at h
      split at h
      · injection h with h; subst h; exact pfail_inv _ _
      · rename_i t r hr
        have h0 : PInv st { st with rest := r } := ⟨rfl, by simp [hr], by simp [PSt.m, hr]⟩
        have h01 : ({ st with rest := r } : PSt).m + 1 ≤ st.m := by simp [PSt.m, hr]; omega
        have lift : ∀ {x : Bool × PSt × Int}, PInv1 { st with rest := r } x → PInv1 st x := fun hx => ⟨h0.trans hx.inv, fun hb => Nat.le_trans (Nat.add_le_add_right hx.inv.m 1) h01⟩
        split at h
        · injection h with h; subst h; exact pput_inv h0 h01 _ _ _
        · split at h
          · split at h
            · exact pthen_inv (fun x hx => pzero_inv (fun y hy => pwithin_inv (ih _) (by simp [hr]) hy) hx) h
            · exact (pzero_inv (fun y hy => pparens_inv (ih _) hy) h).inv
          · split at h
            · exact pthen_inv (fun x hx => pzero_inv (fun y hy => lift (pparens_inv (ih _) hy)) hx) h
            · split at h
              · exact pthen_inv (fun x hx => pzero_inv (fun y hy => lift (pparens_inv (ih _) hy)) hx) h
              · split at h
                · split at h
                  · exact pthen_inv (fun x hx => lift (pparens_inv (ih _) hx)) h
                  · injection h with h; subst h; exact pput_inv h0 h01 _ _ _
                · injection h with h; subst h; exact pfail_inv _ _

def rank : PTag → Nat
  | .bin l => 12 - l | .loop _ => 0 | .single => 0 | .nothing => 0 | .args _ => 13 | .more _ => 12
def okTag : PTag → Prop
  | .bin l => l ≤ 11 | .loop l => l ≤ 10 | _ => True
theorem pr_some (f : Nat) : ∀ tag st, okTag tag → 16 * st.rest.length + rank tag + 1 ≤ f → ∃ x, pr f tag st = some x := by
  induction f with
  | zero => intro tag st _ h; omega
  | succ f ih =>
    intro tag st ho hf
    have hwithin : ∀ (tg : PTag) (s : PSt), okTag tg → s.rest.length ≤ st.rest.length → 1 ≤ s.rest.length → rank tg ≤ 13 → ∃ x, pwithin (pr f tg) s = some x := by
      intro tg s h1 h2 h3 h4
      unfold pwithin
      split
      · exact ⟨_, rfl⟩
      · obtain ⟨x, hx⟩ := ih tg { s with depth := s.depth + 1, rest := s.rest.tail } h1 (by simp only [List.length_tail]; omega)
        rw [hx]; exact ⟨_, rfl⟩
    have hparens : ∀ (tg : PTag) (s : PSt), okTag tg → s.rest.length ≤ st.rest.length → rank tg ≤ 13 → ∃ x, pparens (pr f tg) s = some x := by
      intro tg s h1 h2 h4
      unfold pparens
      split
      · rename_i hn
        have h3 : 1 ≤ s.rest.length := by
          unfold pnext at hn
          cases hr : s.rest with
          | nil => rw [hr] at hn; simp at hn
          | cons t r => simp
        unfold pwithin
        split
        · exact ⟨_, rfl⟩
        · obtain ⟨x, hx⟩ := ih tg { s with depth := s.depth + 1, rest := s.rest.tail } h1 (by simp only [List.length_tail]; omega)
          show ∃ x, pdown (pclose (pr f tg { s with depth := s.depth + 1, rest := s.rest.tail })) = some x
          rw [hx]; exact ⟨_, rfl⟩
      · exact ⟨_, rfl⟩
    cases tag with
    | nothing => exact ⟨_, rfl⟩
    | bin l =>
      simp only [okTag] at ho
      rw [pr]
      split
      · exact ih _ _ trivial (by simp only [rank] at hf ⊢; omega)
      · obtain ⟨y, hy⟩ := ih (.bin (l + 1)) st (by simp only [okTag]; omega) (by simp only [rank] at hf ⊢; omega)
        rw [hy]
        simp only [Option.bind_some]
        have := (pr_inv _ _ _ _ hy).rest
        split
        · exact ih _ _ (by simp only [okTag]; omega) (by simp only [rank] at hf ⊢; omega)
        · exact ⟨_, rfl⟩
    | loop l =>
      simp only [okTag] at ho
      rw [pr]
      split
      · exact ⟨_, rfl⟩
      · rename_i t r hr
        rw [hr, List.length_cons] at hf
        split
        · obtain ⟨y, hy⟩ := ih (.bin (l + 1)) { st with rest := r } (by simp only [okTag]; omega) (by simp only [rank] at hf ⊢; omega)
          rw [hy]
          simp only [Option.bind_some]
          have := (pr_inv _ _ _ _ hy).rest
          simp only at this
          split
          · exact ih _ _ (by simp only [okTag]; omega) (by simp only [rank, pput] at hf ⊢; omega)
          · exact ⟨_, rfl⟩
        · exact ⟨_, rfl⟩
    | args n =>
      rw [pr]
      split
      · exact ⟨_, rfl⟩
      · exact ih _ _ trivial (by simp only [rank] at hf ⊢; omega)
    | more n =>
      rw [pr]
      obtain ⟨y, hy⟩ := ih (.bin 1) st (by simp [okTag]) (by simp only [rank] at hf ⊢; omega)
      rw [hy]
      simp only [Option.bind_some]
      have := (pr_inv _ _ _ _ hy).rest
      split
      · split
        · rename_i hn
          split
          · exact ⟨_, rfl⟩
          · refine ih _ _ trivial ?_
            have h3 : 1 ≤ y.2.1.rest.length := by
              unfold pnext at hn
              cases hr : y.2.1.rest with
              | nil => rw [hr] at hn; simp at hn
              | cons t r => simp
            simp only [rank, List.length_tail] at hf ⊢; omega
        · exact ⟨_, rfl⟩
      · exact ⟨_, rfl⟩
    | single =>
      rw [pr]
      split
      · exact ⟨_, rfl⟩
      · rename_i t r hr
        have hl : ({ st with rest := r } : PSt).rest.length ≤ st.rest.length := by simp [hr]
        split
        · exact ⟨_, rfl⟩
        · split
          · split
            · obtain ⟨x, hx⟩ := hwithin (.bin 11) st (by simp [okTag]) (Nat.le_refl _) (by simp [hr]) (by simp [rank])
              rw [hx]; exact ⟨_, rfl⟩
            · obtain ⟨x, hx⟩ := hparens (.bin 1) st (by simp [okTag]) (Nat.le_refl _) (by simp [rank])
              rw [hx]; exact ⟨_, rfl⟩
          · split
            · obtain ⟨x, hx⟩ := hparens (.bin 1) { st with rest := r } (by simp [okTag]) hl (by simp [rank])
              rw [hx]; exact ⟨_, rfl⟩
            · split
              · obtain ⟨x, hx⟩ := hparens .nothing { st with rest := r } (by simp [okTag]) hl (by simp [rank])
                rw [hx]; exact ⟨_, rfl⟩
              · split
                · split
                  · obtain ⟨x, hx⟩ := hparens (.args 0) { st with rest := r } (by simp [okTag]) hl (by simp [rank])
                    rw [hx]; exact ⟨_, rfl⟩
                  · exact ⟨_, rfl⟩
                · exact ⟨_, rfl⟩
end Go.Proofs.Ytchdpjgncojhaaa
