/- A part of the proofs of the laws of one package; see the law's own text, which comes last in 'order'. No conditions of its own. -/
import Derived.Maps.RangeWalk
import Derived.Test.YtpeamehplhpcjaaGreatDoorWA28
set_option linter.unusedVariables false
set_option linter.unusedSimpArgs false
namespace Go.Proofs.YtpeamehplhpcjaaGreatDoor
open Go.RowKit
theorem RangeV.left_eq {κ : Type} {T : KeyT κ} {w : World} {b r : Nat} {m left : List (κ × Value)} (h : RangeV T w b r m left) : w.rangeLeft b r = left.length := by
  obtain ⟨es, clock, since, seen, c0, h1, h2, h3, h4, h5, h6, h7, h8, h9, h10⟩ := h
  unfold World.rangeLeft
  rw [h1, h5]
  have := congrArg List.length h9
  simpa using this
theorem RangeV.grown {κ : Type} {T : KeyT κ} {w w' : World} {b r : Nat} {m left : List (κ × Value)} {row : Option Nat} (h : RangeV T w b r m left) (hg : w.grownBy w' row) (hb : row ≠ some b) (hr : row ≠ some r) : RangeV T w' b r m left :=
  h.keep (hg.block b h.lt.1 fun e => hb e.symm) (hg.block r h.lt.2.1 fun e => hr e.symm)
theorem Own.ne_none {α : Type} [GoT α] {w : World} {T : Nat → Prop} {base e : Nat} {A : Option Addr} {c : Nat} {xs : List α} (h : Own w T base e A c xs) (hx : 0 < xs.length) : A ≠ none := by
  obtain ⟨cs, ⟨h1, h2⟩, h3⟩ := h
  rcases h2 with ⟨hv, h0⟩ | ⟨g, cap, cur, hv, _⟩
  · omega
  · injection hv with e1 e2 e3
    rw [e1]; simp
theorem Own.blk {α : Type} [GoT α] {w : World} {T : Nat → Prop} {base e : Nat} {A : Option Addr} {c : Nat} {xs : List α} (h : Own w T base e A c xs) (hx : A ≠ none) : ∃ g, A = some ⟨g, 0, none⟩ ∧ base ≤ g ∧ g < w.heap.size ∧ ∀ i, w.frozen? ⟨g, i, none⟩ = false := by
  obtain ⟨cs, ⟨h1, h2⟩, h3⟩ := h
  rcases h2 with ⟨hv, h0⟩ | ⟨g, cap, cur, hv, hb, hg, _⟩
  · injection hv with e1 e2 e3
    exact absurd e1 hx
  · injection hv with e1 e2 e3
    exact ⟨g, e1, hb, (Array.getElem?_eq_some_iff.1 hg).1, fun i => frz_blk hg i⟩
theorem Own.put {α : Type} [GoT α] {w : World} {T : Nat → Prop} {base e : Nat} {A : Option Addr} {c : Nat} {xs : List α} (h : Own w T base e A c xs) {g : Nat} (hA : A = some ⟨g, 0, none⟩) (hT : ∀ k, T k → k ≠ g) {k j : Nat} (hk : k < xs.length) (hj : j < GoT.size α) (v : Value) (y : α)
    (hy : ∀ (z : Nat → Value), GoT.rd w (fun b => T b ∧ A.map Addr.block ≠ some b) z xs[k] → GoT.rd w (fun b => T b ∧ A.map Addr.block ≠ some b) (fun i => if i = j then v else z i) y) :
    Own (w.setCell ⟨g, k * GoT.size α + j, none⟩ v) T base e A c (xs.set k y) := by
  obtain ⟨cs, ⟨h1, h2⟩, h3⟩ := h
  subst hA
  rcases h2 with ⟨hv, h0⟩ | ⟨g', cap, cur, hv, hb, hg, hn, hm, hcs, htk⟩
  · injection hv with e1 e2 e3
    cases e1
  · injection hv with e1 e2 e3
    injection e1 with e1
    injection e1 with e1
    subst e1
    have hmul : (k + 1) * GoT.size α ≤ xs.length * GoT.size α := Nat.mul_le_mul_right _ hk
    rw [Nat.add_mul, Nat.one_mul] at hmul
    refine ⟨cs.set (k * GoT.size α + j) v, ⟨by rw [List.length_set, h1, List.length_set], .inr ⟨g, cap, cur.setIfInBounds (k * GoT.size α + j) v, by rw [List.length_set, ← e3], hb, Blk.set w hg _ _, by rw [List.length_set]; exact hn, hm, by simpa using hcs, ?_⟩⟩, fun i hi => ?_⟩
    · rw [Array.toList_setIfInBounds, List.length_set, List.take_set, htk]
    · rw [List.length_set] at hi
      have hrd := h3 i hi
      refine GoT.keep (w := w) (fun b _ hb => set_other _ _ _ _ _ (hT b hb.1)) ?_
      by_cases hik : i = k
      · subst hik
        rw [List.getElem_set_self]
        refine GoT.same (fun q hq => ?_) (hy _ hrd)
        rw [List.getD_eq_getElem?_getD, List.getElem?_set]
        by_cases hq2 : q = j
        · subst hq2
          rw [if_pos rfl, if_pos (by omega)]; simp
        · rw [if_neg (by omega), List.getD_eq_getElem?_getD]; simp [hq2]
      · rw [List.getElem_set_ne (fun e => hik e.symm)]
        refine GoT.same (fun q hq => ?_) hrd
        rw [List.getD_eq_getElem?_getD, List.getElem?_set_ne, List.getD_eq_getElem?_getD]
        intro e
        have := Nat.div_add_mod
        rcases Nat.lt_or_gt_of_ne hik with h | h
        · have : (i + 1) * GoT.size α ≤ k * GoT.size α := Nat.mul_le_mul_right _ h
          rw [Nat.add_mul, Nat.one_mul] at this
          omega
        · have : (k + 1) * GoT.size α ≤ i * GoT.size α := Nat.mul_le_mul_right _ h
          rw [Nat.add_mul, Nat.one_mul] at this
          omega
end Go.Proofs.YtpeamehplhpcjaaGreatDoor
