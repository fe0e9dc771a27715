/- Expressions: Fold's results lie in uint32's range; a set, a cut of an owned row. -/
import Derived.Test.YtchdpjgncojhaaaF3
set_option linter.unusedVariables false
set_option linter.unusedSimpArgs false
namespace Go.Proofs.Ytchdpjgncojhaaa
open Go.RowKit

theorem u32_rng (n : Int) : 0 ≤ IntKind.u32.wrap n ∧ IntKind.u32.wrap n ≤ 4294967295 := by
  have : IntKind.u32.wrap n = n % 4294967296 := by simp [IntKind.wrap, IntKind.signed, IntKind.bits]
  rw [this]
  omega
theorem yes_rng (b : Bool) : 0 ≤ yes b ∧ yes b ≤ 4294967295 := by cases b <;> decide
theorem mod_rng (n : Int) : 0 ≤ n % 4294967296 ∧ n % 4294967296 ≤ 4294967295 := by omega
theorem unS_rng (op : Bs) (x : Int) : 0 ≤ (unS op x).1 ∧ (unS op x).1 ≤ 4294967295 := by
  unfold unS
  repeat' split
  all_goals (first | exact mod_rng _ | exact u32_rng _ | exact yes_rng _ | decide)
theorem rng_ite {c : Prop} [Decidable c] {a b : Int × Bool} (ha : 0 ≤ a.1 ∧ a.1 ≤ 4294967295) (hb : 0 ≤ b.1 ∧ b.1 ≤ 4294967295) : 0 ≤ (if c then a else b).1 ∧ (if c then a else b).1 ≤ 4294967295 := by
  by_cases h : c
  · rw [if_pos h]; exact ha
  · rw [if_neg h]; exact hb
theorem rng_ite' {c : Prop} [Decidable c] {a b : Int} (ha : 0 ≤ a ∧ a ≤ 4294967295) (hb : 0 ≤ b ∧ b ≤ 4294967295) : 0 ≤ (if c then a else b) ∧ (if c then a else b) ≤ 4294967295 := by
  by_cases h : c
  · rw [if_pos h]; exact ha
  · rw [if_neg h]; exact hb
theorem binS_rng (op : Bs) (x y : Int) (hx : 0 ≤ x) (hx2 : x ≤ 4294967295) : 0 ≤ (binS op x y).1 ∧ (binS op x y).1 ≤ 4294967295 := by
  unfold binS
  repeat (first | refine rng_ite (mod_rng _) ?_ | refine rng_ite (u32_rng _) ?_ | refine rng_ite (yes_rng _) ?_ | refine rng_ite (rng_ite' ⟨by decide, by decide⟩ (mod_rng _)) ?_ | refine rng_ite (rng_ite' ⟨hx, hx2⟩ (mod_rng _)) ?_)
  exact ⟨by decide, by decide⟩

section
variable {α : Type} [GoT α] {w w' : World} {T : Nat → Prop} {base e : Nat} {A : Option Addr} {c : Nat} {xs : List α}
theorem Own.take (h : Own w T base e A c xs) (k : Nat) : Own w T base e A c (xs.take k) := by
  obtain ⟨cs, ⟨h1, h2⟩, h3⟩ := h
  have hkl : (xs.take k).length ≤ xs.length := by rw [List.length_take]; omega
  have hkm : (xs.take k).length * GoT.size α ≤ xs.length * GoT.size α := Nat.mul_le_mul_right _ hkl
  refine ⟨cs.take ((xs.take k).length * GoT.size α), ⟨by rw [List.length_take, h1]; omega, ?_⟩, fun i hi => ?_⟩
  · rcases h2 with ⟨hv, h0⟩ | ⟨g, cap, cur, hv, hb, hg, hn, hm, hcs, htk⟩
    · injection hv with e1 e2 e3
      exact .inl ⟨by rw [e1, e3]; congr 1; omega, by omega⟩
    · injection hv with e1 e2 e3
      refine .inr ⟨g, cap, cur, by rw [e1, e3], hb, hg, by omega, hm, hcs, ?_⟩
      rw [← htk, List.take_take]
      congr 1
      omega
  · have hi' : i < xs.length := by omega
    have hr := h3 i hi'
    rw [List.getElem_take]
    refine GoT.same (fun j hj => ?_) hr
    have : i * GoT.size α + j < (xs.take k).length * GoT.size α := by
      have : (i + 1) * GoT.size α ≤ (xs.take k).length * GoT.size α := Nat.mul_le_mul_right _ hi
      rw [Nat.add_mul, Nat.one_mul] at this
      omega
    rw [List.getD_eq_getElem?_getD, List.getD_eq_getElem?_getD, List.getElem?_take, if_pos this]
end

theorem OutAt.set {w : World} {b g : Nat} {c : Nat} {out : List Opn} (h : OutAt w (b + 1) b (some ⟨g, 0, none⟩) c out) {k : Nat} (hk : k < out.length) (m : Int) :
    OutAt (w.setCell ⟨g, k * 3 + 2, none⟩ (.int .u32 m)) (b + 1) b (some ⟨g, 0, none⟩) c (out.set k { out[k] with n := m }) := by
  have hg := (h.2.lt g rfl).1
  refine ⟨?_, h.2.setN hk rfl m⟩
  rw [List.length_set]
  exact (set_other _ _ _ _ _ (by omega)).trans h.1
theorem OutAt.cut {w : World} {base b : Nat} {A : Option Addr} {c : Nat} {out : List Opn} (h : OutAt w base b A c out) (hbb : b < base) {k : Nat} (hk : k ≤ out.length) :
    OutAt (w.setCell ⟨b, 0, none⟩ (.slice A k c)) base b A c (out.take k) := by
  refine ⟨?_, (h.2.take k).keep fun i _ hi => set_other _ _ _ _ _ (by rcases hi with hi | hi; exact hi.elim; have := (h.2.lt i hi).1; omega)⟩
  rw [Blk.set w h.1 0, List.length_take, Nat.min_eq_left hk]
  rfl
theorem blw_set {W w : World} {B g i : Nat} {u : Value} (h : Below B W w) (hg : B ≤ g) : Below B W (w.setCell ⟨g, i, none⟩ u) := h.setCell (p := ⟨g, i, none⟩) hg u
theorem cell_off {w : World} {g i j : Nat} {u v : Value} (h : i ≠ j) (hc : w.cell? ⟨g, j, none⟩ = some v) : (w.setCell ⟨g, i, none⟩ u).cell? ⟨g, j, none⟩ = some v :=
  (World.cell?_setCell_other w _ _ _ (fun e => by injection e with _ e; exact h e)).trans hc
theorem cell_new {w : World} {g j : Nat} {o : Obj} {v : Value} (hc : w.cell? ⟨g, j, none⟩ = some v) : (w.alloc o).drew.cell? ⟨g, j, none⟩ = some v := by
  have hb := World.block_lt_of_cell? w _ hc
  exact (World.cell?_of_block (w := w) (w' := (w.alloc o).drew) (Below.heap_alloc w o g hb)).trans hc
end Go.Proofs.Ytchdpjgncojhaaa
