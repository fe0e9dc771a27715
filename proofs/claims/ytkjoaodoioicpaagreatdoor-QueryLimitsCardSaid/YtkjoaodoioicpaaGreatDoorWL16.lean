/- Query (package licitlaw54): a part of the proofs of its laws; see the law's own text, which comes last in 'order'. No conditions of its own. -/
import Derived.Test.YtkjoaodoioicpaaGreatDoorWL01
set_option linter.unusedVariables false
set_option linter.unusedSimpArgs false
namespace Go.Proofs.YtkjoaodoioicpaaGreatDoor
open Go.RowKit
instance : GoT Value where
  size := 1
  rd := fun _ _ g x => g 0 = x ∧ x.oneCell' = true
  keep := fun _ h => h
  wide := fun _ h => h
  same := fun hg h => ⟨(hg 0 (by omega)).trans h.1, h.2⟩
  one := fun h j hj => by obtain rfl : j = 0 := by omega
                          rw [h.1]; exact h.2
section
variable {w w' : World} {T : Nat → Prop} {base e : Nat} {A : Option Addr} {c : Nat} {xs : List Value}
theorem Own.at1 (h : Own w T base e A c xs) {k : Nat} (hk : k < xs.length) : ∃ g, A = some ⟨g, 0, none⟩ ∧ base ≤ g ∧ g < w.heap.size ∧ w.cell? ⟨g, k, none⟩ = some xs[k] ∧ w.frozen? ⟨g, k, none⟩ = false := by
  obtain ⟨cs, ⟨hl, h2⟩, h3⟩ := h
  have hz : GoT.size Value = 1 := rfl
  rcases h2 with ⟨_, h0⟩ | ⟨g, cap, cur, hv, hb, hg, hn, hm, hcs, htk⟩
  · omega
  · injection hv with hA hn' hc'
    refine ⟨g, hA, hb, (Array.getElem?_eq_some_iff.1 hg).1, ?_, frz_blk hg k⟩
    rw [cell_blk hg]
    have hr := (h3 k hk).1
    rw [hz] at hl htk hr
    have hr : cs.getD (k * 1 + 0) undef = xs[k] := hr
    have hlt : k < cs.length := by omega
    rw [List.getD_eq_getElem?_getD, show k * 1 + 0 = k by omega, List.getElem?_eq_getElem hlt, Option.getD_some] at hr
    rw [← hr]
    have h5 : cs[k]? = some cs[k] := List.getElem?_eq_getElem hlt
    rw [← h5]
    conv => rhs; rw [← htk]
    rw [List.getElem?_take, if_pos (by omega), Array.getElem?_toList]
theorem Own.put1 (h : Own w T base e A c xs) {k g : Nat} (hk : k < xs.length) (hA : A = some ⟨g, 0, none⟩) (v : Value) (hv : v.oneCell' = true) : Own (w.setCell ⟨g, k, none⟩ v) T base e A c (xs.set k v) := by
  obtain ⟨cs, ⟨hl, h2⟩, h3⟩ := h
  have hz : GoT.size Value = 1 := rfl
  rw [hz] at hl
  rcases h2 with ⟨_, h0⟩ | ⟨g2, cap, cur, hv2, hb, hg, hn, hm, hcs, htk⟩
  · omega
  · injection hv2 with hA2 hn' hc'
    rw [hA] at hA2
    injection hA2 with hA2
    injection hA2 with hA2
    subst hA2
    refine ⟨cs.set k v, ⟨by rw [hz]; simp; omega, .inr ⟨g, cap, cur.setIfInBounds k v, by rw [List.length_set, hA, hc'], hb, Blk.set w hg k v, by simpa using hn, hm, by simpa using hcs, ?_⟩⟩, fun i hi => ?_⟩
    · rw [← htk, List.length_set, hz, Array.toList_setIfInBounds, List.take_set]
    · have hi' : i < xs.length := by simpa using hi
      have hr := h3 i hi'
      show _ = _ ∧ _
      rw [List.getElem_set]
      have hr1 := hr.1
      rw [hz] at hr1 ⊢
      have hr1 : cs.getD (i * 1 + 0) undef = xs[i] := hr1
      show (cs.set k v).getD (i * 1 + 0) undef = _ ∧ _
      rw [List.getD_eq_getElem?_getD, show i * 1 + 0 = i by omega, List.getElem?_eq_getElem (by omega), Option.getD_some] at hr1
      rw [List.getD_eq_getElem?_getD, show i * 1 + 0 = i by omega, List.getElem?_eq_getElem (by simp; omega), Option.getD_some, List.getElem_set]
      split
      · exact ⟨rfl, hv⟩
      · exact ⟨hr1, hr.2⟩
end
def NL (w : World) (base e t : Nat) (A : Option Addr) (c : Nat) (o : List (List (List UInt8))) : Prop :=
  ∃ vals : List Value, vals.length = o.length ∧ Own w (fun _ => False) base e A c vals ∧ ∃ (f : Nat → Option Addr) (cp : Nat → Nat),
    (∀ i (h : i < o.length), vals[i]? = some (.slice (f i) o[i].length (cp i)) ∧ Own w (fun _ => False) base t (f i) (cp i) o[i] ∧ ∀ k, (f i).map Addr.block = some k → A.map Addr.block ≠ some k) ∧
    (∀ i j k, i < o.length → j < o.length → (f i).map Addr.block = some k → (f j).map Addr.block = some k → i = j)
section
variable {w w' : World} {base e t : Nat} {A A' : Option Addr} {c c' : Nat} {o : List (List (List UInt8))}
theorem NL.nil (w : World) (base e t : Nat) : NL w base e t none 0 [] :=
  ⟨[], rfl, Own.nil w _ base e, fun _ => none, fun _ => 0, fun i h => absurd h (Nat.not_lt_zero i), fun i _ _ h => absurd h (Nat.not_lt_zero i)⟩
theorem NL.below (h : NL w base e t A c o) (hb : Below w.heap.size w w') : NL w' base e t A c o := by
  obtain ⟨vals, hl, ho, f, cp, h1, h2⟩ := h
  exact ⟨vals, hl, ho.below hb, f, cp, fun i hi => ⟨(h1 i hi).1, (h1 i hi).2.1.below hb, (h1 i hi).2.2⟩, h2⟩
theorem NL.alloc (h : NL w base e t A c o) (x : Obj) : NL (w.alloc x) base e t A c o := h.below ((Below.refl _ _).alloc (Nat.le_refl _) _)
theorem NL.cap (h : NL w base e t A c o) : o.length ≤ c ∧ c ≤ 9223372036854775807 := by
  obtain ⟨vals, hl, ho, _⟩ := h
  rw [← hl]
  exact ho.cap
theorem NL.lt (h : NL w base e t A c o) : ∀ k, A.map Addr.block = some k → base ≤ k ∧ k < w.heap.size := by
  obtain ⟨vals, hl, ho, _⟩ := h
  exact ho.lt
theorem NL.push (h : NL w base e t A c o) : ∃ vals : List Value, vals.length = o.length ∧ Own w (fun _ => False) base e A c vals ∧
    ∀ A' c' w', Own w' (fun _ => False) base e A' c' (vals ++ [.slice none 0 0]) → w.grownBy w' (A.map Addr.block) → (A'.map Addr.block = A.map Addr.block ∨ A'.map Addr.block = some w.heap.size) → NL w' base e t A' c' (o ++ [[]]) := by
  obtain ⟨vals, hl, ho, f, cp, h1, h2⟩ := h
  refine ⟨vals, hl, ho, fun A' c' w' ho' hg hat => ⟨_, by simp [hl], ho', fun i => if i < o.length then f i else none, fun i => if i < o.length then cp i else 0, fun i hi => ?_, fun i j k hi hj e1 e2 => ?_⟩⟩
  · rcases Nat.lt_or_ge i o.length with hlt | hge
    · obtain ⟨q1, q2, q3⟩ := h1 i hlt
      dsimp only
      rw [if_pos hlt, if_pos hlt, List.getElem_append_left hlt]
      refine ⟨by rw [List.getElem?_append_left (by omega)]; exact q1, q2.keep (fun k hk hs => hg.block k hk (fun e => ?_)), fun k hk e => ?_⟩
      · rcases hs with hs | hs
        · exact hs
        · exact q3 k hs e.symm
      · rcases hat with hat | hat
        · rw [hat] at e; exact q3 k hk e
        · rw [hat] at e; injection e with e; have := (q2.lt k hk).2; omega
    · have hie : i = o.length := by simp at hi; omega
      subst hie
      dsimp only
      rw [if_neg (by omega), if_neg (by omega), List.getElem_append_right (Nat.le_refl _)]
      refine ⟨by rw [List.getElem?_append_right (by omega)]; simp [hl], ?_, fun k hk => by cases hk⟩
      simp only [Nat.sub_self, List.getElem_cons_zero]
      exact Own.nil w' _ base t
  · dsimp only at e1 e2
    have hi' : i < o.length := by
      rcases Nat.lt_or_ge i o.length with hlt | hge
      · exact hlt
      · rw [if_neg (by omega)] at e1; cases e1
    have hj' : j < o.length := by
      rcases Nat.lt_or_ge j o.length with hlt | hge
      · exact hlt
      · rw [if_neg (by omega)] at e2; cases e2
    rw [if_pos hi'] at e1
    rw [if_pos hj'] at e2
    exact h2 i j k hi' hj' e1 e2
theorem NL.row (h : NL w base e t A c o) {i : Nat} (hi : i < o.length) : ∃ g B d, A = some ⟨g, 0, none⟩ ∧ base ≤ g ∧ g < w.heap.size ∧ w.cell? ⟨g, i, none⟩ = some (.slice B o[i].length d) ∧ w.frozen? ⟨g, i, none⟩ = false ∧
    B.map Addr.block ≠ some g ∧ Own w (fun _ => False) base t B d o[i] ∧
    ∀ B' d' w' x, Own w' (fun _ => False) base t B' d' (o[i] ++ [x]) → w.grownBy w' (B.map Addr.block) → (B'.map Addr.block = B.map Addr.block ∨ B'.map Addr.block = some w.heap.size) →
      NL (w'.setCell ⟨g, i, none⟩ (.slice B' (o[i].length + 1) d')) base e t A c (o.set i (o[i] ++ [x])) := by
  obtain ⟨vals, hl, ho, f, cp, h1, h2⟩ := h
  obtain ⟨g, hA, hbg, hgs, hc, hz⟩ := ho.at1 (k := i) (by omega)
  obtain ⟨q1, q2, q3⟩ := h1 i hi
  have hBg : (f i).map Addr.block ≠ some g := fun e => q3 g e (by rw [hA]; rfl)
  refine ⟨g, f i, cp i, hA, hbg, hgs, ?_, hz, hBg, q2, fun B' d' w' x ho' hg hat => ?_⟩
  · rw [hc]
    rw [List.getElem?_eq_getElem (by omega)] at q1
    exact q1
  have ho2 : Own w' (fun _ => False) base e A c vals := ho.keep (fun k hk hs => hg.block k hk (fun e => by
    rcases hs with hs | hs
    · exact hs
    · exact q3 k e.symm hs))
  have hset : ∀ k, k ≠ g → (w'.setCell ⟨g, i, none⟩ (.slice B' (o[i].length + 1) d')).heap[k]? = w'.heap[k]? := fun k hk => set_other w' g i _ k hk
  have hB'g : B'.map Addr.block ≠ some g := by
    rcases hat with hat | hat
    · rw [hat]; exact hBg
    · rw [hat]; intro e; injection e with e; omega
  refine ⟨vals.set i (.slice B' (o[i].length + 1) d'), by simp [hl], ho2.put1 (by omega) hA _ rfl, fun j => if j = i then B' else f j, fun j => if j = i then d' else cp j, fun j hj => ?_, fun j1 j2 k hj1 hj2 e1 e2 => ?_⟩
  · rw [List.length_set] at hj
    by_cases hji : j = i
    · subst hji
      dsimp only
      rw [if_pos rfl, if_pos rfl]
      simp only [List.getElem_set_self]
      refine ⟨by rw [List.getElem?_set_self (by omega)]; simp, ho'.keep (fun k _ hs => hset k (fun e => ?_)), fun k hk e => ?_⟩
      · rcases hs with hs | hs
        · exact hs
        · exact hB'g (e ▸ hs)
      · rw [hA] at e
        injection e with e
        exact hB'g (by rw [hk, ← e])
    · dsimp only
      rw [if_neg hji, if_neg hji]
      have hij : i ≠ j := fun e => hji e.symm
      obtain ⟨p1, p2, p3⟩ := h1 j hj
      simp only [List.getElem_set_ne hij]
      refine ⟨by rw [List.getElem?_set_ne hij]; exact p1, (p2.keep (w' := w') (fun k hk hs => hg.block k hk (fun e => ?_))).keep (fun k _ hs => hset k (fun e => ?_)), p3⟩
      · rcases hs with hs | hs
        · exact hs
        · exact hij (h2 i j k hi hj e.symm hs)
      · rcases hs with hs | hs
        · exact hs
        · exact p3 k hs (by rw [hA, e]; rfl)
  · rw [List.length_set] at hj1 hj2
    dsimp only at e1 e2
    by_cases ha : j1 = i <;> by_cases hb : j2 = i
    · rw [ha, hb]
    · rw [if_pos ha] at e1
      rw [if_neg hb] at e2
      rcases hat with hat | hat
      · rw [hat] at e1; rw [ha]; exact h2 i j2 k hi hj2 e1 e2
      · rw [hat] at e1; injection e1 with e1; have := ((h1 j2 hj2).2.1.lt k e2).2; omega
    · rw [if_neg ha] at e1
      rw [if_pos hb] at e2
      rcases hat with hat | hat
      · rw [hat] at e2; rw [hb]; exact h2 j1 i k hj1 hi e1 e2
      · rw [hat] at e2; injection e2 with e2; have := ((h1 j1 hj1).2.1.lt k e1).2; omega
    · rw [if_neg ha] at e1
      rw [if_neg hb] at e2
      exact h2 j1 j2 k hj1 hj2 e1 e2
theorem NL.sl (h : NL w base e t A c o) : Sl w (fun b => base ≤ b) A o.length c o := by
  have hcap := h.cap
  obtain ⟨vals, hl, ho, f, cp, h1, h2⟩ := h
  refine ⟨rfl, hcap.1, hcap.2, fun i hi => ?_⟩
  obtain ⟨g, hA, hbg, hgs, hc, hz⟩ := ho.at1 (k := i) (by omega)
  obtain ⟨q1, q2, q3⟩ := h1 i hi
  refine ⟨_, hA, hbg, fun _ => vals[i]'(by omega), fun j hj => ?_, ?_⟩
  · obtain rfl : j = 0 := by have : GoT.size (List (List UInt8)) = 1 := rfl; omega
    rw [add_plain]
    have : GoT.size (List (List UInt8)) = 1 := rfl
    rw [this, show 0 + (i * 1 + 0) = i by omega]
    exact hc
  · rw [List.getElem?_eq_getElem (by omega)] at q1
    injection q1 with q1
    exact ⟨_, _, _, q1, (q2.sl (by decide)).wide (fun k _ hk => hk.elim False.elim (fun hk => (q2.lt k hk).1)) (by decide), by decide⟩
end
end Go.Proofs.YtkjoaodoioicpaaGreatDoor
