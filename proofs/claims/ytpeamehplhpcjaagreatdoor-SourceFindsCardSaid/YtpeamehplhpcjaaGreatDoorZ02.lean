/- A part of the proofs of the laws of one package; see the law's own text, which comes last in 'order'. No conditions of its own. -/
import Derived.Test.YtpeamehplhpcjaaGreatDoorRows
import Derived.WalkKit
import Derived.ProofKit
import Derived.Lib.Hide
import Derived.BigQuiet
import Derived.Deep.QuietTactic
import Derived.Maps.AppendAt
import Derived.Deep.AppendLies
import Derived.WalkSpells
import Derived.WalkLawsBesides
import Derived.Deep.RegionWith
import Derived.Deep.RegionLaw
import Derived.Deep.RegionHeld3
import Derived.Deep.LoopGhost
import Derived.Deep.Cut
import Derived.Deep.CutRange
import Derived.Deep.DeepFit
import Derived.Deep.DeepMust
import Derived.StillTailTactics
import Derived.Deep.Draws
import Derived.Deep.Upon
import Derived.Lib.SliceRun
import Derived.Test.YtpeamehplhpcjaaGreatDoorZ01
set_option linter.unusedVariables false
set_option linter.unusedSimpArgs false
namespace Go.Proofs.YtpeamehplhpcjaaGreatDoor
open Go.RowKit
theorem block_of_add (a : Addr) (n : Nat) : (a.add n).block = a.block := by unfold Addr.add; split <;> rfl
theorem add_of_add (a : Addr) (i j : Nat) : (a.add i).add j = a.add (i + j) := by
  unfold Addr.add
  by_cases hi : i = 0 <;> by_cases hj : j = 0 <;> simp [hi, hj, Nat.add_assoc]
theorem ret_bool {a b : Bool} (h : b = a) : Ending.returned (.bool a) = .returned (.bool b) := by rw [h]
theorem ret_int {k : IntKind} {a b : Int} (h : b = a) : Ending.returned (.int k a) = .returned (.int k b) := by rw [h]
theorem ret_tup {a b a' b' : Int} {k k' : IntKind} (h : a' = a) (h' : b' = b) : Ending.returned (.tuple #[.int k a, .int k' b]) = .returned (.tuple #[.int k a', .int k' b']) := by rw [h, h']
theorem ret_str {a b : List UInt8} (h : b = a) : Ending.returned (.string ⟨a.toArray⟩) = .returned (.string ⟨b.toArray⟩) := by rw [h]
def sameL {α : Type} [DecidableEq α] : List α → List α → Bool
  | [], [] => true
  | a :: r, b :: t => decide (a = b) && sameL r t
  | _, _ => false
theorem sameL_eq {α : Type} [DecidableEq α] (l t : List α) : sameL l t = decide (l = t) := by
  induction l generalizing t with
  | nil => cases t <;> simp [sameL]
  | cons a r ih => cases t <;> simp [sameL, ih]
theorem sameL_len {α : Type} [DecidableEq α] {l t : List α} (h : l.length ≠ t.length) : sameL l t = false := by
  rw [sameL_eq, decide_eq_false_iff_not]; exact fun e => h (by rw [e])
@[go_sem] theorem ba_get (l : List UInt8) (i : Nat) (h : i < (ByteArray.mk l.toArray).size) : (ByteArray.mk l.toArray)[i]'h = l[i]'(by simpa [ByteArray.size] using h) := by rfl
theorem toList_loop (b : ByteArray) (n i : Nat) (h : b.size - i = n) (r : List UInt8) : ByteArray.toList.loop b i r = r.reverse ++ b.data.toList.drop i := by
  induction n generalizing i r with
  | zero =>
    unfold ByteArray.toList.loop
    rw [if_neg (by omega), List.drop_of_length_le (by simp only [Array.length_toList]; exact Nat.le_of_sub_eq_zero h)]
    simp
  | succ n ih =>
    unfold ByteArray.toList.loop
    rw [if_pos (by omega), ih (i + 1) (by omega)]
    have hi : i < b.data.toList.length := by simp only [Array.length_toList]; show i < b.size; omega
    rw [List.drop_eq_getElem_cons hi]
    have hg : b.get! i = b.data.toList[i] := by
      simp only [Array.length_toList] at hi
      simp only [ByteArray.get!, Array.getElem_toList]
      exact getElem!_pos b.data i hi
    simp [hg]
@[go_sem] theorem ba_toList (l : List UInt8) : (ByteArray.mk l.toArray).toList = l := by
  unfold ByteArray.toList
  rw [toList_loop _ _ 0 rfl]
  simp
@[go_sem] theorem ba_extract (l : List UInt8) (a b : Nat) : (ByteArray.mk l.toArray).extract a b = ⟨((l.take b).drop a).toArray⟩ := by
  apply ByteArray.ext
  rw [ByteArray.data_extract]
  simp [List.drop_take]
@[go_sem] theorem ba_append (a b : List UInt8) : ByteArray.mk a.toArray ++ ByteArray.mk b.toArray = ⟨(a ++ b).toArray⟩ := by
  apply ByteArray.ext
  simp
structure Frm (M : Nat → Prop) (w w' : World) : Prop where
  os : w'.os = w.os
  tape : w'.tape = w.tape
  output : w'.output = w.output
  size : w.heap.size ≤ w'.heap.size
  block : ∀ k, k < w.heap.size → ¬ M k → w'.heap[k]? = w.heap[k]?
theorem Frm.refl (M : Nat → Prop) (w : World) : Frm M w w := ⟨rfl, rfl, rfl, Nat.le_refl _, fun _ _ _ => rfl⟩
theorem Frm.trans {M : Nat → Prop} {a b c : World} (h : Frm M a b) (k : Frm M b c) : Frm M a c :=
  ⟨k.os.trans h.os, k.tape.trans h.tape, k.output.trans h.output, Nat.le_trans h.size k.size, fun i hi hm => (k.block i (Nat.lt_of_lt_of_le hi h.size) hm).trans (h.block i hi hm)⟩
theorem Frm.transM {M M' : Nat → Prop} {a b c : World} (h : Frm M a b) (k : Frm M' b c) (hM : ∀ i, i < a.heap.size → M' i → M i) : Frm M a c :=
  ⟨k.os.trans h.os, k.tape.trans h.tape, k.output.trans h.output, Nat.le_trans h.size k.size, fun i hi hm => (k.block i (Nat.lt_of_lt_of_le hi h.size) (fun x => hm (hM i hi x))).trans (h.block i hi hm)⟩
theorem Frm.mono {M M' : Nat → Prop} {a b : World} (h : Frm M a b) (hM : ∀ i, i < a.heap.size → M i → M' i) : Frm M' a b :=
  ⟨h.os, h.tape, h.output, h.size, fun i hi hm => h.block i hi (fun x => hm (hM i hi x))⟩
theorem Frm.of_below {M : Nat → Prop} {B : Nat} {a b : World} (h : Below B a b) (hB : ∀ i, i < a.heap.size → B ≤ i → M i) : Frm M a b :=
  ⟨h.os, h.tape, h.output, h.size, fun i hi hm => h.block i (Nat.lt_of_not_le fun x => hm (hB i hi x))⟩
theorem Frm.below {M : Nat → Prop} {B : Nat} {a b : World} (h : Frm M a b) (hB : B ≤ a.heap.size) (hM : ∀ i, i < B → ¬ M i) : Below B a b :=
  ⟨h.os, h.tape, h.output, h.size, fun i hi => h.block i (Nat.lt_of_lt_of_le hi hB) (hM i hi)⟩
theorem Frm.drew {M : Nat → Prop} {a w : World} (h : Frm M a w) : Frm M a w.drew := ⟨h.os, h.tape, h.output, h.size, h.block⟩
theorem Frm.alloc {M : Nat → Prop} {a w : World} (h : Frm M a w) (o : Obj) : Frm M a (w.alloc o) :=
  h.trans ⟨rfl, rfl, rfl, by simp, fun k hk _ => Below.heap_alloc _ _ _ hk⟩
theorem Frm.setCell {M : Nat → Prop} {a w : World} (h : Frm M a w) {p : Addr} (hp : p.block < a.heap.size → M p.block) (u : Value) : Frm M a (w.setCell p u) :=
  ⟨h.os, h.tape, h.output, by simpa [World.setCell] using h.size, fun k hk hm => (Below.heap_setCell w p u k (fun e => by subst e; exact hm (hp hk))).trans (h.block k hk hm)⟩
theorem Frm.grown {M : Nat → Prop} {a w w' : World} {row : Option Nat} (h : Frm M a w) (hg : w.grownBy w' row) (hr : ∀ k, row = some k → k < a.heap.size → M k) : Frm M a w' :=
  ⟨hg.os.trans h.os, hg.tape.trans h.tape, hg.output.trans h.output, Nat.le_trans h.size hg.size,
    fun k hk hm => (hg.block k (Nat.lt_of_lt_of_le hk h.size) (fun e => hm (hr k e.symm hk))).trans (h.block k hk hm)⟩
class GoT (α : Type) where
  size : Nat
  rd : World → (Nat → Prop) → (Nat → Value) → α → Prop
  keep : ∀ {w w' : World} {S : Nat → Prop} {g : Nat → Value} {x : α}, (∀ k, k < w.heap.size → S k → w'.heap[k]? = w.heap[k]?) → rd w S g x → rd w' S g x
  wide : ∀ {w : World} {S S' : Nat → Prop} {g : Nat → Value} {x : α}, (∀ k, k < w.heap.size → S k → S' k) → rd w S g x → rd w S' g x
  same : ∀ {w : World} {S : Nat → Prop} {g g' : Nat → Value} {x : α}, (∀ j, j < size → g' j = g j) → rd w S g x → rd w S g' x
  one : ∀ {w : World} {S : Nat → Prop} {g : Nat → Value} {x : α}, rd w S g x → ∀ j, j < size → (g j).oneCell' = true
def Sl {α : Type} [GoT α] (w : World) (S : Nat → Prop) (A : Option Addr) (n c : Nat) (xs : List α) : Prop :=
  n = xs.length ∧ n ≤ c ∧ c ≤ 9223372036854775807 ∧ ∀ i (h : i < xs.length), ∃ ad, A = some ad ∧ S ad.block ∧
    ∃ g : Nat → Value, (∀ j, j < GoT.size α → w.cell? (ad.add (i * GoT.size α + j)) = some (g j)) ∧ GoT.rd w S g xs[i]
section
variable {α : Type} [GoT α] {w w' : World} {S S' : Nat → Prop} {A : Option Addr} {n c : Nat} {xs : List α}
theorem Sl.len (h : Sl w S A n c xs) : n = xs.length := h.1
theorem Sl.le (h : Sl w S A n c xs) : n ≤ 9223372036854775807 := Nat.le_trans h.2.1 h.2.2.1
theorem Sl.keep (h : Sl w S A n c xs) (hk : ∀ k, k < w.heap.size → S k → w'.heap[k]? = w.heap[k]?) : Sl w' S A n c xs := by
  refine ⟨h.1, h.2.1, h.2.2.1, fun i hi => ?_⟩
  obtain ⟨ad, hA, hS, g, hc, hr⟩ := h.2.2.2 i hi
  refine ⟨ad, hA, hS, g, fun j hj => ?_, GoT.keep hk hr⟩
  have h1 := hc j hj
  have hb := World.block_lt_of_cell? w _ h1
  rw [World.cell?_of_block (w := w) (hk _ hb (by rw [block_of_add]; exact hS)), h1]
theorem Sl.wide (h : Sl w S A n c xs) (hk : ∀ k, k < w.heap.size → S k → S' k) (hz : 0 < GoT.size α) : Sl w S' A n c xs := by
  refine ⟨h.1, h.2.1, h.2.2.1, fun i hi => ?_⟩
  obtain ⟨ad, hA, hS, g, hc, hr⟩ := h.2.2.2 i hi
  have hb := World.block_lt_of_cell? w _ (hc 0 hz)
  rw [block_of_add] at hb
  exact ⟨ad, hA, hk _ hb hS, g, hc, GoT.wide hk hr⟩
theorem Sl.below (h : Sl w S A n c xs) (hb : Below w.heap.size w w') : Sl w' S A n c xs := h.keep fun k hk _ => hb.block k hk
theorem Sl.alloc (h : Sl w S A n c xs) (o : Obj) : Sl (w.alloc o) S A n c xs := h.below ((Below.refl _ _).alloc (Nat.le_refl _) _)
theorem Sl.drew (h : Sl w S A n c xs) : Sl w.drew S A n c xs := h.below (Below.refl _ _).drew
theorem Sl.drewN (h : Sl w S A n c xs) (m : Nat) : Sl (w.drewN m) S A n c xs := h.below (below_drewN (Below.refl _ _) m)
theorem Sl.frm {M : Nat → Prop} (h : Sl w S A n c xs) (hf : Frm M w w') (hM : ∀ k, S k → ¬ M k) : Sl w' S A n c xs := h.keep fun k hk hs => hf.block k hk (hM k hs)
theorem Sl.nil (w : World) (S : Nat → Prop) (A : Option Addr) (c : Nat) (hc : c ≤ 9223372036854775807) : Sl (α := α) w S A 0 c [] := ⟨rfl, Nat.zero_le _, hc, fun i hi => absurd hi (Nat.not_lt_zero i)⟩
theorem Sl.at_ (h : Sl w S A n c xs) {k : Nat} (hk : k < xs.length) : ∃ ad, A = some ad ∧ S ad.block ∧
    ∃ g : Nat → Value, (∀ j, j < GoT.size α → w.cell? (ad.add (k * GoT.size α + j)) = some (g j)) ∧ GoT.rd w S g xs[k] := h.2.2.2 k hk
theorem Sl.cast {n' : Nat} (h : Sl w S A n c xs) (hn : n = n') : Sl w S A n' c xs := hn ▸ h
theorem Sl.cut (h : Sl w S A n c xs) {k : Nat} (hk : k ≤ n) :
    Sl w S (if c = k then A else A.map (·.add (k * GoT.size α))) (n - k) (c - k) (xs.drop k) := by
  have hl := h.1
  refine ⟨by rw [List.length_drop, h.1], by have := h.2.1; omega, by have := h.2.2.1; omega, fun i hi => ?_⟩
  rw [List.length_drop] at hi
  obtain ⟨ad, rfl, hS, g, hc, hr⟩ := h.2.2.2 (k + i) (by omega)
  have := h.2.1
  rw [if_neg (by omega)]
  refine ⟨_, rfl, by rw [block_of_add]; exact hS, g, fun j hj => ?_, by simpa using hr⟩
  rw [add_of_add, ← Nat.add_assoc, ← Nat.add_mul]
  exact hc j hj
theorem Sl.take (h : Sl w S A n c xs) {k : Nat} (hk : k ≤ n) : Sl w S A k c (xs.take k) := by
  have hl := h.1
  refine ⟨by rw [List.length_take]; omega, by have := h.2.1; omega, h.2.2.1, fun i hi => ?_⟩
  rw [List.length_take] at hi
  obtain ⟨ad, hA, hS, g, hc, hr⟩ := h.2.2.2 i (by omega)
  exact ⟨ad, hA, hS, g, hc, by simpa using hr⟩
end
instance : GoT (List UInt8) where
  size := 1
  rd := fun _ _ g x => g 0 = .string ⟨x.toArray⟩
  keep := fun _ h => h
  wide := fun _ h => h
  same := fun hg h => (hg 0 (by omega)).trans h
  one := fun h j hj => by obtain rfl : j = 0 := by omega
                          rw [h]; rfl
instance {α : Type} [GoT α] : GoT (List α) where
  size := 1
  rd := fun w S g xs => ∃ A n c, g 0 = .slice A n c ∧ Sl w S A n c xs ∧ 0 < GoT.size α
  keep := fun hk ⟨A, n, c, e, h, hz⟩ => ⟨A, n, c, e, h.keep hk, hz⟩
  wide := fun hk ⟨A, n, c, e, h, hz⟩ => ⟨A, n, c, e, h.wide hk hz, hz⟩
  same := fun hg ⟨A, n, c, e, h, hz⟩ => ⟨A, n, c, (hg 0 (by omega)).trans e, h, hz⟩
  one := fun ⟨A, n, c, e, _, _⟩ j hj => by obtain rfl : j = 0 := by omega
                                           rw [e]; rfl
theorem cell_blk {w : World} {b : Nat} {cs : Array Value} {t : TypeId} {fz : Nat × Nat} (h : w.heap[b]? = some (.cells cs t fz)) (j : Nat) : w.cell? ⟨b, j, none⟩ = cs[j]? := by
  simp only [World.cell?, h]
  simp
theorem next {w W w1 : World} {B : Nat} (h0 : Below B w W) (hb : Below W.heap.size W w1) (hB : B ≤ w.heap.size) : Below B w w1 := h0.trans (hb.mono (Nat.le_trans hB h0.size))
theorem frz_blk {w : World} {b : Nat} {cs : Array Value} {t : TypeId} (h : w.heap[b]? = some (.cells cs t (0, 0))) (j : Nat) : w.frozen? ⟨b, j, none⟩ = false := by simp [World.frozen?, h]
theorem keptBlk {W w1 : World} (hb : Below W.heap.size W w1) {b : Nat} {cs : Array Value} {t : TypeId} {fz : Nat × Nat} (h : W.heap[b]? = some (.cells cs t fz)) : w1.heap[b]? = some (.cells cs t fz) := by
  have hlt : b < W.heap.size := by
    rcases Nat.lt_or_ge b W.heap.size with hl | hg
    · exact hl
    · rw [Array.getElem?_eq_none hg] at h; cases h
  rw [hb.block b hlt, h]
theorem boxed {w : World} {cs : Array Value} {t : TypeId} : Below w.heap.size w (w.alloc (.cells cs t)) := (Below.refl _ _).alloc (Nat.le_refl _) _
theorem blkAt (w : World) (o : Obj) {k : Nat} (h : k = w.heap.size) : (w.alloc o).heap[k]? = some o := by subst h; exact heap_alloc_new w o
theorem blkOld {w : World} {k : Nat} {x : Obj} (h : w.heap[k]? = some x) (o : Obj) : (w.alloc o).heap[k]? = some x := by
  rw [Below.heap_alloc w o k (Array.getElem?_eq_some_iff.1 h).1, h]
theorem grownBlk {w w' : World} {row : Option Nat} (hg : w.grownBy w' row) {b : Nat} {x : Obj} (h : w.heap[b]? = some x) (hne : row ≠ some b) : w'.heap[b]? = some x := by
  rw [hg.block b (Array.getElem?_eq_some_iff.1 h).1 (fun e => hne e.symm), h]
theorem keptFrozen {W w1 : World} (hb : Below W.heap.size W w1) {b : Nat} {cs : Array Value} {t : TypeId} (h : W.heap[b]? = some (.cells cs t (0, 0))) (j : Nat) : w1.frozen? ⟨b, j, none⟩ = false := by
  have := keptBlk hb h
  simp [World.frozen?, this]
theorem keptCell {W w1 : World} (hb : Below W.heap.size W w1) {b : Nat} {cs : Array Value} {t : TypeId} {fz : Nat × Nat} (h : W.heap[b]? = some (.cells cs t fz)) (j : Nat) : w1.cell? ⟨b, j, none⟩ = cs[j]? :=
  cell_blk (keptBlk hb h) j
theorem add_plain (b o n : Nat) : (⟨b, o, none⟩ : Addr).add n = ⟨b, o + n, none⟩ := by
  unfold Addr.add; split <;> simp_all
theorem Sl.plain {α : Type} [GoT α] {w : World} {S : Nat → Prop} {A : Option Addr} {n c : Nat} {xs : List α} (h : Sl w S A n c xs) (hz : 0 < GoT.size α) {k : Nat} (hk : k < xs.length) :
    ∃ b o, A = some ⟨b, o, none⟩ ∧ S b ∧ b < w.heap.size ∧ ∃ g : Nat → Value, (∀ j, j < GoT.size α → w.cell? ⟨b, o + (k * GoT.size α + j), none⟩ = some (g j)) ∧ GoT.rd w S g xs[k] := by
  obtain ⟨ad0, hA0, _, g0, hc0, _⟩ := h.2.2.2 0 (Nat.lt_of_le_of_lt (Nat.zero_le _) hk)
  obtain ⟨ad, hA, hS, g, hc, hr⟩ := h.2.2.2 k hk
  have hs := hc0 0 hz
  rw [hA] at hA0
  injection hA0 with hA0
  subst hA0
  obtain ⟨b, o, s⟩ := ad
  have hsp : s = none := by
    cases s with
    | none => rfl
    | some s => simp [Addr.add, World.cell?] at hs; split at hs <;> simp at hs
  subst hsp
  have hb := World.block_lt_of_cell? w _ (hc 0 hz)
  rw [block_of_add] at hb
  exact ⟨b, o, hA, hS, hb, g, fun j hj => by rw [← add_plain]; exact hc j hj, hr⟩
section
variable {w w' : World} {S S' : Nat → Prop} {A : Option Addr} {n c k : Nat}
theorem Sl.str {xs : List (List UInt8)} (h : Sl w S A n c xs) (hk : k < xs.length) : ∃ b o, A = some ⟨b, o, none⟩ ∧ S b ∧ b < w.heap.size ∧
    w.cell? ⟨b, o + k, none⟩ = some (.string ⟨xs[k].toArray⟩) := by
  obtain ⟨b, o, hA, hS, hb, g, hc, h0⟩ := h.plain (by decide) hk
  have c0 := hc 0 (by decide)
  rw [h0] at c0
  exact ⟨b, o, hA, hS, hb, by simpa [GoT.size] using c0⟩
end
structure Elt (t e : TypeId) (size bytes : Nat) : Prop where
  und : Tryz.prog.underlying t = some (.slice e)
  info : ∃ i z, Tryz.prog.info? e = some i ∧ i.zero = some z ∧ i.size = size ∧ i.bytes = bytes ∧ z.cells.size = size
theorem Elt.mk' {t e size bytes : Nat} {z : Value} (h : Tryz.prog.underlying t = some (.slice e)) (hi : (Tryz.prog.info? e).map (fun i => (i.zero, i.size, i.bytes)) = some (some z, size, bytes)) (hz : z.cells.size = size) : Elt t e size bytes := by
  obtain ⟨i, h0, h1, h2, h3⟩ := info_parts hi
  exact ⟨h, i, z, h0, h1, h2, h3, hz⟩
theorem eltStr : Elt 29 9 1 16 := .mk' (z := .string ⟨#[]⟩) (by kernel_rfl) (by kernel_rfl) rfl
def Own {α : Type} [GoT α] (w : World) (T : Nat → Prop) (base e : Nat) (A : Option Addr) (c : Nat) (xs : List α) : Prop :=
  ∃ cs : List Value, w.ownsRow base e (GoT.size α) (.slice A xs.length c) xs.length cs ∧
    ∀ i (h : i < xs.length), GoT.rd w (fun b => T b ∧ A.map Addr.block ≠ some b) (fun j => cs.getD (i * GoT.size α + j) undef) xs[i]
section
variable {α : Type} [GoT α] {w w' : World} {T : Nat → Prop} {base e : Nat} {A : Option Addr} {c : Nat} {xs : List α}
theorem ownBlock_slice (A : Option Addr) (n c : Nat) : (Value.slice A n c).ownBlock = A.map Addr.block := by cases A <;> rfl
theorem Own.nil (w : World) (T : Nat → Prop) (base e : Nat) : Own (α := α) w T base e none 0 [] :=
  ⟨[], World.ownsRow_nil _ _ _ _, fun i h => absurd h (Nat.not_lt_zero i)⟩
theorem Own.lt (h : Own w T base e A c xs) : ∀ k, A.map Addr.block = some k → base ≤ k ∧ k < w.heap.size := by
  obtain ⟨cs, h, _⟩ := h
  intro k hk
  exact h.lt k (by rw [ownBlock_slice]; exact hk)
theorem Own.ne (h : Own w T base e A c xs) {k : Nat} (hk : w.heap.size ≤ k) : A.map Addr.block ≠ some k := fun e => by have := (h.lt k e).2; omega
theorem Own.ne_lt (h : Own w T base e A c xs) {k : Nat} (hk : k < base) : A.map Addr.block ≠ some k := fun e => by have := (h.lt k e).1; omega
theorem Own.cap (h : Own w T base e A c xs) : xs.length ≤ c ∧ c ≤ 9223372036854775807 := by
  obtain ⟨cs, ⟨_, h⟩, _⟩ := h
  rcases h with ⟨h, h0⟩ | ⟨g, cap, cur, h, _, _, h1, h2, _⟩
  · injection h with _ _ h; subst h; omega
  · injection h with _ _ h; subst h; exact ⟨h1, h2⟩
theorem Own.keep (h : Own w T base e A c xs) (hk : ∀ k, k < w.heap.size → (T k ∨ A.map Addr.block = some k) → w'.heap[k]? = w.heap[k]?) : Own w' T base e A c xs := by
  obtain ⟨cs, ⟨h1, h2⟩, h3⟩ := h
  refine ⟨cs, ⟨h1, ?_⟩, fun i hi => GoT.keep (fun k hk' hT => hk k hk' (.inl hT.1)) (h3 i hi)⟩
  rcases h2 with h2 | ⟨g, cap, cur, hv, hb, hg, h4⟩
  · exact .inl h2
  · refine .inr ⟨g, cap, cur, hv, hb, ?_, h4⟩
    injection hv with hA
    rw [hk g (Array.getElem?_eq_some_iff.1 hg).1 (.inr (by rw [hA]; rfl)), hg]
theorem Own.below (h : Own w T base e A c xs) (hb : Below w.heap.size w w') : Own w' T base e A c xs := h.keep fun k hk _ => hb.block k hk
theorem Own.alloc (h : Own w T base e A c xs) (o : Obj) : Own (w.alloc o) T base e A c xs := h.below ((Below.refl _ _).alloc (Nat.le_refl _) _)
theorem Own.drew (h : Own w T base e A c xs) : Own w.drew T base e A c xs := h.below (Below.refl _ _).drew
theorem Own.drewN (h : Own w T base e A c xs) (n : Nat) : Own (w.drewN n) T base e A c xs := h.below (below_drewN (Below.refl _ _) n)
theorem Own.sl (h : Own w T base e A c xs) (_hz : 0 < GoT.size α) : Sl w (fun b => T b ∨ A.map Addr.block = some b) A xs.length c xs := by
  have hc := h.cap
  obtain ⟨cs, h1, h3⟩ := h
  refine ⟨rfl, hc.1, hc.2, fun i hi => ?_⟩
  obtain ⟨hl, h2⟩ := h1
  rcases h2 with ⟨_, h0⟩ | ⟨g, cap, cur, hv, hb, hg, hn, hm, hcs, htk⟩
  · omega
  · injection hv with hA hn' hc'
    subst hA
    refine ⟨_, rfl, .inr rfl, fun j => cs.getD (i * GoT.size α + j) undef, fun j hj => ?_, GoT.wide (fun k _ hk => .inl hk.1) (h3 i hi)⟩
    rw [add_plain, cell_blk hg]
    have hlt : i * GoT.size α + j < cs.length := by
      rw [hl]
      have : (i + 1) * GoT.size α ≤ xs.length * GoT.size α := Nat.mul_le_mul_right _ hi
      rw [Nat.add_mul, Nat.one_mul] at this
      omega
    show _ = some (cs.getD (i * GoT.size α + j) undef)
    rw [List.getD_eq_getElem?_getD, List.getElem?_eq_getElem hlt, Option.getD_some, Nat.zero_add]
    have h5 : cs[i * GoT.size α + j]? = some cs[i * GoT.size α + j] := List.getElem?_eq_getElem hlt
    rw [← h5]
    conv => rhs; rw [← htk]
    rw [List.getElem?_take, if_pos (by rw [← hl]; exact hlt), Array.getElem?_toList]
theorem Own.res (h : Own w (fun b => base ≤ b) base e A c xs) (hz : 0 < GoT.size α := by decide) : Sl w (fun b => base ≤ b) A xs.length c xs :=
  (h.sl hz).wide (fun k _ hk => hk.elim id (fun hk => (h.lt k hk).1)) hz
theorem Own.wide {T' : Nat → Prop} (h : Own w T base e A c xs) (hT : ∀ k, k < w.heap.size → T k → T' k) : Own w T' base e A c xs := by
  obtain ⟨cs, h1, h3⟩ := h
  exact ⟨cs, h1, fun i hi => GoT.wide (fun k hk hk' => ⟨hT k hk hk'.1, hk'.2⟩) (h3 i hi)⟩
theorem run_app1 {t size bytes : Nat} (he : Elt t e size bytes) (hsz : GoT.size α = size) (hz : 0 < size) (ty : TypeId) (hown : Own w T base e A c xs) {b0 c0 : Nat} {cs : List Value} {t0 : TypeId} {fz : Nat × Nat} {x : α}
    (hb0 : w.heap[b0]? = some (.cells cs.toArray t0 fz)) (hcs : cs.length = size) (hx : GoT.rd w (fun b => T b ∧ A.map Addr.block ≠ some b) (fun j => cs.getD j undef) x)
    (h63 : xs.length + 1 ≤ 9223372036854775807) (hbytes : (xs.length + 1) * bytes ≤ 140737488355328) (hbase : base ≤ w.heap.size) :
    ∃ A' c' w', (Builtin.append_ #[t, t] ty #[.slice A xs.length c, .slice (some ⟨b0, 0, none⟩) 1 c0]).run Tryz.prog w = .ok (.slice A' (xs.length + 1) c') w' ∧ Own w' T base e A' c' (xs ++ [x]) ∧ w.grownBy w' (A.map Addr.block) ∧
      (A'.map Addr.block = A.map Addr.block ∨ A'.map Addr.block = some w.heap.size) := by
  subst hsz
  obtain ⟨ks, hrow, hrd⟩ := hown
  obtain ⟨i, z, hi, hzr, hs, hby, hzs⟩ := he.info
  have h1 : ∀ u ∈ cs, u.oneCell' = true := by
    intro u hu
    obtain ⟨j, hj, rfl⟩ := List.getElem_of_mem hu
    have := GoT.one hx j (by omega)
    simpa [List.getElem?_eq_getElem hj] using this
  have hcell : ∀ j u, cs[j]? = some u → w.cell? ((⟨b0, 0, none⟩ : Addr).add j) = some u := by
    intro j u hu
    rw [add_plain, cell_blk hb0]
    simpa using hu
  obtain ⟨v', w', hr, h2, h3, h4, h5⟩ := run_append_own_at (P := Tryz.prog) w base t ty e i z (GoT.size α) bytes he.und hi hzr hs hby hzs hz _ xs.length ks hrow ⟨b0, 0, none⟩ 1 c0 cs (by omega) hcell h1 (by simpa [maxLen] using h63) hbytes hbase
  rw [ownBlock_slice] at h3 h5
  have hform : ∃ A' c', v' = .slice A' (xs.length + 1) c' := by
    rcases h2.2 with ⟨_, h0⟩ | ⟨g, cap, cur, hv, _⟩
    · omega
    · exact ⟨_, _, hv⟩
  obtain ⟨A', c', rfl⟩ := hform
  rw [ownBlock_slice] at h5
  refine ⟨A', c', w', hr, ⟨ks ++ cs, by simpa using h2, ?_⟩, h3, h5⟩
  have hkl : ks.length = xs.length * GoT.size α := hrow.1
  have hkeep : ∀ {S : Nat → Prop} {g : Nat → Value} {y : α}, GoT.rd w (fun b => T b ∧ A.map Addr.block ≠ some b) g y → GoT.rd w' (fun b => T b ∧ A'.map Addr.block ≠ some b) g y := by
    intro S g y hy
    have hy' : GoT.rd w (fun b => (T b ∧ A.map Addr.block ≠ some b) ∧ A'.map Addr.block ≠ some b) g y := by
      refine GoT.wide (fun k hk hT => ⟨hT, ?_⟩) hy
      rcases h5 with h5 | h5
      · rw [h5]; exact hT.2
      · rw [h5]; intro e; injection e; omega
    have hy2 : GoT.rd w' (fun b => (T b ∧ A.map Addr.block ≠ some b) ∧ A'.map Addr.block ≠ some b) g y := GoT.keep (fun k hk hT => h3.block k hk (fun e => hT.1.2 e.symm)) hy'
    exact GoT.wide (fun k _ hk => ⟨hk.1.1, hk.2⟩) hy2
  intro i hi
  rcases Nat.lt_or_ge i xs.length with hlt | hge
  · rw [List.getElem_append_left hlt]
    refine GoT.same (fun j hj => ?_) (hkeep (S := T) (hrd i hlt))
    have : i * GoT.size α + j < ks.length := by
      rw [hkl]
      have : (i + 1) * GoT.size α ≤ xs.length * GoT.size α := Nat.mul_le_mul_right _ hlt
      rw [Nat.add_mul, Nat.one_mul] at this
      omega
    rw [List.getD_eq_getElem?_getD, List.getD_eq_getElem?_getD, List.getElem?_append_left this]
  · have : i = xs.length := by simp at hi; omega
    subst this
    rw [List.getElem_append_right (Nat.le_refl _)]
    simp only [Nat.sub_self, List.getElem_cons_zero]
    refine GoT.same (fun j hj => ?_) (hkeep (S := T) hx)
    rw [List.getD_eq_getElem?_getD, List.getD_eq_getElem?_getD, List.getElem?_append_right (by omega), hkl, Nat.add_sub_cancel_left]
theorem wpList_app1 {ops : Array Oper} {rest : List Oper} {o : Oper} {a : Act} {Q : Exit → Act → World → Prop} (hgd : o.guard = none) (s x : Operand) {t size bytes : Nat} (he : Elt t e size bytes) (hsz : GoT.size α = size) (hz : 0 < size)
    (ho : o.op = .call { callee := .builtin .append, args := #[s, x], argTypes := #[t, t] }) {n : Nat} (hs : a.eval s = .slice A n c) (hn : n = xs.length) (hown : Own w T base e A c xs)
    {b0 c0 : Nat} (hx : a.eval x = .slice (some ⟨b0, 0, none⟩) 1 c0) (cs : List Value) {t0 : TypeId} {fz : Nat × Nat} (y : α)
    (hb0 : w.heap[b0]? = some (.cells cs.toArray t0 fz)) (hcs : cs.length = size) (hy : GoT.rd w (fun b => T b ∧ A.map Addr.block ≠ some b) (fun j => cs.getD j undef) y)
    (h63 : xs.length + 1 ≤ 9223372036854775807) (hbytes : (xs.length + 1) * bytes ≤ 140737488355328) (hbase : base ≤ w.heap.size)
    (h : ∀ A' c' w', Own w' T base e A' c' (xs ++ [y]) → w.grownBy w' (A.map Addr.block) → (A'.map Addr.block = A.map Addr.block ∨ A'.map Addr.block = some w.heap.size) → wpList Tryz.prog ops Q rest (a.put o.dst (.slice A' (n + 1) c')) w') :
    wpList Tryz.prog ops Q (o :: rest) a w := by
  subst hn
  refine wpList_plain hgd fun K hK => ?_
  obtain ⟨A', c', w', hr, h2, h3, h4⟩ := run_app1 he hsz hz o.type hown (c0 := c0) hb0 hcs hy h63 hbytes hbase
  unfold Oper.wp execOp
  simp only [ho, resolve, invoke, builtin, Sem.run_bind, Sem.run_pure, Result.andThen_ok, List.map_toArray, List.map_cons, List.map_nil, hs, hx, hr]
  exact hK _ _ (h A' c' w' h2 h3 h4)
end
theorem Blk.set (w : World) {g : Nat} {cs : Array Value} {t : TypeId} (h : w.heap[g]? = some (.cells cs t (0, 0))) (i : Nat) (u : Value) : (w.setCell ⟨g, i, none⟩ u).heap[g]? = some (.cells (cs.setIfInBounds i u) t (0, 0)) := by
  simp [World.setCell, Array.getElem?_modify, h]
theorem set_other (w : World) (g i : Nat) (u : Value) (k : Nat) (h : k ≠ g) : (w.setCell ⟨g, i, none⟩ u).heap[k]? = w.heap[k]? := Below.heap_setCell w ⟨g, i, none⟩ u k h
theorem Frm.any {M : Nat → Prop} {w w' : World} (h : Below w.heap.size w w') : Frm M w w' := Frm.of_below h fun i hi hle => by omega
theorem lt_alloc (w : World) (o : Obj) : w.heap.size < (w.alloc o).heap.size := by simp
theorem dN {B : Nat} {a w : World} (h : Below B a w) (n : Nat) : Below B a (w.drewN n) := h.trans ⟨rfl, rfl, rfl, Nat.le_refl _, fun _ _ => rfl⟩
theorem blkAt2 {w : World} {o x : Obj} {k : Nat} (h : k = w.heap.size) (e : o = x) : (w.alloc o).heap[k]? = some x := by subst e; exact blkAt w o h
theorem blkDrw {w : World} {k : Nat} {x : Obj} (h : w.heap[k]? = some x) : w.drew.heap[k]? = some x := h
theorem belowA {w W : World} (h : Below w.heap.size w W) (o : Obj) : Below w.heap.size w (W.alloc o) := h.alloc h.size o
theorem belowD {w W : World} (h : Below w.heap.size w W) : Below w.heap.size w W.drew := h.drew
theorem Sl.any {α : Type} [GoT α] {w : World} {S : Nat → Prop} {A : Option Addr} {n c : Nat} {xs : List α} (h : Sl w S A n c xs) (hz : 0 < GoT.size α := by decide) : Sl w (fun _ => True) A n c xs := h.wide (fun _ _ _ => trivial) hz
theorem belowS {w W : World} (h : Below w.heap.size w W) {g : Nat} (hg : w.heap.size ≤ g) (i : Nat) (u : Value) : Below w.heap.size w (W.setCell ⟨g, i, none⟩ u) := h.setCell (p := ⟨g, i, none⟩) hg u
theorem cell_set {w : World} {g b i o : Nat} {u v : Value} (h : w.cell? ⟨b, o, none⟩ = some v) (hne : b ≠ g) : (w.setCell ⟨g, i, none⟩ u).cell? ⟨b, o, none⟩ = some v :=
  (World.cell?_of_block (w := w) (set_other w g i u b hne)).trans h
theorem cell_alloc' {w : World} {b o : Nat} {v : Value} (h : w.cell? ⟨b, o, none⟩ = some v) (x : Obj) : (w.alloc x).cell? ⟨b, o, none⟩ = some v :=
  (World.cell?_of_block (w := w) (w' := w.alloc x) (Below.heap_alloc w x b (World.block_lt_of_cell? w _ h))).trans h
section
variable {α : Type} [GoT α] {w w' : World} {T : Nat → Prop} {base e : Nat} {A : Option Addr} {c : Nat} {xs : List α}
theorem Own.take (h : Own w T base e A c xs) (k : Nat) : Own w T base e A c (xs.take k) := by
  obtain ⟨cs, ⟨h1, h2⟩, h3⟩ := h
  have hkl : (xs.take k).length ≤ xs.length := by rw [List.length_take]; omega
  have hkm : (xs.take k).length * GoT.size α ≤ xs.length * GoT.size α := Nat.mul_le_mul_right _ hkl
  refine ⟨cs.take ((xs.take k).length * GoT.size α), ⟨by rw [List.length_take, h1]; omega, ?_⟩, fun i hi => ?_⟩
  · rcases h2 with ⟨hv, h0⟩ | ⟨g, cap, cur, hv, hb, hg, hn, hm, hcs, htk⟩
    · injection hv with e1 e2 e3
      exact .inl ⟨by rw [e1, e3]; congr 1; omega, by omega⟩
    · injection hv with e1 e2 e3
      refine .inr ⟨g, cap, cur, by rw [e1, e3], hb, hg, by omega, hm, hcs, ?_⟩
      rw [← htk, List.take_take]
      congr 1
      omega
  · have hi' : i < xs.length := by omega
    have hr := h3 i hi'
    rw [List.getElem_take]
    refine GoT.same (fun j hj => ?_) hr
    have : i * GoT.size α + j < (xs.take k).length * GoT.size α := by
      have : (i + 1) * GoT.size α ≤ (xs.take k).length * GoT.size α := Nat.mul_le_mul_right _ hi
      rw [Nat.add_mul, Nat.one_mul] at this
      omega
    rw [List.getD_eq_getElem?_getD, List.getD_eq_getElem?_getD, List.getElem?_take, if_pos this]
end
section
variable {α : Type} [GoT α] {w w' : World} {T S : Nat → Prop} {base e : Nat} {A B : Option Addr} {c n : Nat} {xs ys : List α}
theorem Sl.cells {ad : Addr} (h : Sl w S (some ad) n c ys) (hz : 0 < GoT.size α) : ∃ news : List Value, news.length = n * GoT.size α ∧ (∀ j u, news[j]? = some u → w.cell? (ad.add j) = some u) ∧ (∀ u ∈ news, u.oneCell' = true) ∧
    ∀ i (_ : i < ys.length), GoT.rd w S (fun j => news.getD (i * GoT.size α + j) undef) ys[i] := by
  have hl := h.1
  have hat : ∀ k, k < n * GoT.size α → ∃ u, w.cell? (ad.add k) = some u ∧ u.oneCell' = true := by
    intro k hk
    have hi : k / GoT.size α < ys.length := by rw [← hl]; exact Nat.div_lt_of_lt_mul (by rwa [Nat.mul_comm])
    obtain ⟨a, hA, hS, g, hc, hr⟩ := h.at_ hi
    injection hA with hA
    subst hA
    have hm := Nat.mod_lt k hz
    have := hc _ hm
    rw [Nat.mul_comm, Nat.div_add_mod] at this
    exact ⟨_, this, GoT.one hr _ hm⟩
  refine ⟨(List.range (n * GoT.size α)).map (fun k => (w.cell? (ad.add k)).getD undef), by simp, fun j u hj => ?_, fun u hu => ?_, fun i hi => ?_⟩
  · rw [List.getElem?_map] at hj
    rcases Nat.lt_or_ge j (n * GoT.size α) with hlt | hge
    · rw [List.getElem?_range hlt] at hj
      obtain ⟨v, hv, _⟩ := hat j hlt
      simp only [Option.map_some, hv, Option.getD_some, Option.some.injEq] at hj
      rw [hv, hj]
    · rw [List.getElem?_eq_none (by simpa using hge)] at hj
      cases hj
  · obtain ⟨k, hk, rfl⟩ := List.mem_map.1 hu
    obtain ⟨v, hv, h1⟩ := hat k (List.mem_range.1 hk)
    rw [hv]
    exact h1
  · obtain ⟨a, hA, hS, g, hc, hr⟩ := h.at_ hi
    injection hA with hA
    subst hA
    refine GoT.same (fun j hj => ?_) hr
    have hlt : i * GoT.size α + j < n * GoT.size α := by
      have : (i + 1) * GoT.size α ≤ n * GoT.size α := Nat.mul_le_mul_right _ (by omega)
      rw [Nat.add_mul, Nat.one_mul] at this
      omega
    rw [List.getD_eq_getElem?_getD, List.getElem?_map, List.getElem?_range hlt]
    simp [hc j hj]
theorem run_appN {t size bytes : Nat} (he : Elt t e size bytes) (hsz : GoT.size α = size) (hz : 0 < size) (ty : TypeId) (hown : Own w T base e A c xs) {m c0 : Nat}
    (hs : Sl w (fun b => T b ∧ A.map Addr.block ≠ some b) B m c0 ys)
    (h63 : xs.length + m ≤ 9223372036854775807) (hbytes : (xs.length + m) * bytes ≤ 140737488355328) (hbase : base ≤ w.heap.size) :
    ∃ A' c' w', (Builtin.append_ #[t, t] ty #[.slice A xs.length c, .slice B m c0]).run Tryz.prog w = .ok (.slice A' (xs.length + m) c') w' ∧ Own w' T base e A' c' (xs ++ ys) ∧ w.grownBy w' (A.map Addr.block) ∧
      (A'.map Addr.block = A.map Addr.block ∨ A'.map Addr.block = some w.heap.size) := by
  subst hsz
  obtain ⟨i, z, hi, hzr, hsi, hby, hzs⟩ := he.info
  have hm := hs.1
  cases B with
  | none =>
    have hm0 : m = 0 := by
      rcases Nat.eq_zero_or_pos m with h0 | hpos
      · exact h0
      · obtain ⟨a, hA, _⟩ := hs.at_ (k := 0) (by omega)
        cases hA
    subst hm0
    have hy : ys = [] := List.eq_nil_of_length_eq_zero hm.symm
    subst hy
    have hr := run_append_nothing (P := Tryz.prog) w t t ty e i he.und hi A xs.length c hown.cap.1 (.slice none 0 c0) (Src.ofNil w he.und c0)
    exact ⟨A, c, w, hr, by simpa using hown, ⟨rfl, rfl, rfl, Nat.le_refl _, fun _ _ _ => rfl⟩, .inl rfl⟩
  | some ad =>
    obtain ⟨cs, hcl, hcell, h1, hrd2⟩ := hs.cells hz
    obtain ⟨ks, hrow, hrd⟩ := hown
    obtain ⟨v', w', hr, h2, h3, h4, h5⟩ := run_append_own_at (P := Tryz.prog) w base t ty e i z (GoT.size α) bytes he.und hi hzr hsi hby hzs hz _ xs.length ks hrow ad m c0 cs hcl hcell h1 (by simpa [maxLen] using h63) hbytes hbase
    rw [ownBlock_slice] at h3 h5
    have hform : ∃ A' c', v' = .slice A' (xs.length + m) c' := by
      rcases h2.2 with ⟨hv, h0⟩ | ⟨g, cap, cur, hv, _⟩
      · exact ⟨none, 0, by rw [hv, h0]⟩
      · exact ⟨_, _, hv⟩
    obtain ⟨A', c', rfl⟩ := hform
    rw [ownBlock_slice] at h5
    refine ⟨A', c', w', hr, ⟨ks ++ cs, by rw [List.length_append, ← hm]; exact h2, ?_⟩, h3, h5⟩
    have hkl : ks.length = xs.length * GoT.size α := hrow.1
    have hkeep : ∀ {g : Nat → Value} {y : α}, GoT.rd w (fun b => T b ∧ A.map Addr.block ≠ some b) g y → GoT.rd w' (fun b => T b ∧ A'.map Addr.block ≠ some b) g y := by
      intro g y hy
      have hy' : GoT.rd w (fun b => (T b ∧ A.map Addr.block ≠ some b) ∧ A'.map Addr.block ≠ some b) g y := by
        refine GoT.wide (fun k hk hT => ⟨hT, ?_⟩) hy
        rcases h5 with h5 | h5
        · rw [h5]; exact hT.2
        · rw [h5]; intro e; injection e; omega
      have hy2 : GoT.rd w' (fun b => (T b ∧ A.map Addr.block ≠ some b) ∧ A'.map Addr.block ≠ some b) g y := GoT.keep (fun k hk hT => h3.block k hk (fun e => hT.1.2 e.symm)) hy'
      exact GoT.wide (fun k _ hk => ⟨hk.1.1, hk.2⟩) hy2
    intro i hi
    rcases Nat.lt_or_ge i xs.length with hlt | hge
    · rw [List.getElem_append_left hlt]
      refine GoT.same (fun j hj => ?_) (hkeep (hrd i hlt))
      have : i * GoT.size α + j < ks.length := by
        rw [hkl]
        have : (i + 1) * GoT.size α ≤ xs.length * GoT.size α := Nat.mul_le_mul_right _ hlt
        rw [Nat.add_mul, Nat.one_mul] at this
        omega
      rw [List.getD_eq_getElem?_getD, List.getD_eq_getElem?_getD, List.getElem?_append_left this]
    · have hi2 : i - xs.length < ys.length := by rw [List.length_append] at hi; omega
      rw [List.getElem_append_right hge]
      refine GoT.same (fun j hj => ?_) (hkeep (hrd2 (i - xs.length) hi2))
      have hmul : (i - xs.length) * GoT.size α = i * GoT.size α - xs.length * GoT.size α := Nat.sub_mul _ _ _
      have hle : xs.length * GoT.size α ≤ i * GoT.size α := Nat.mul_le_mul_right _ hge
      have hidx : i * GoT.size α + j - ks.length = (i - xs.length) * GoT.size α + j := by rw [hkl, hmul]; omega
      rw [List.getD_eq_getElem?_getD, List.getD_eq_getElem?_getD, List.getElem?_append_right (by omega), hidx]
theorem wpList_appN {ops : Array Oper} {rest : List Oper} {o : Oper} {a : Act} {Q : Exit → Act → World → Prop} (hgd : o.guard = none) (s x : Operand) {t size bytes : Nat} (he : Elt t e size bytes) (hsz : GoT.size α = size) (hz : 0 < size)
    (ho : o.op = .call { callee := .builtin .append, args := #[s, x], argTypes := #[t, t] }) {n : Nat} (hs : a.eval s = .slice A n c) (hn : n = xs.length) (hown : Own w T base e A c xs)
    {m c0 : Nat} (hx : a.eval x = .slice B m c0) (hsl : Sl w (fun b => T b ∧ A.map Addr.block ≠ some b) B m c0 ys)
    (h63 : xs.length + m ≤ 9223372036854775807) (hbytes : (xs.length + m) * bytes ≤ 140737488355328) (hbase : base ≤ w.heap.size)
    (h : ∀ A' c' w', Own w' T base e A' c' (xs ++ ys) → w.grownBy w' (A.map Addr.block) → (A'.map Addr.block = A.map Addr.block ∨ A'.map Addr.block = some w.heap.size) → wpList Tryz.prog ops Q rest (a.put o.dst (.slice A' (n + m) c')) w') :
    wpList Tryz.prog ops Q (o :: rest) a w := by
  subst hn
  refine wpList_plain hgd fun K hK => ?_
  obtain ⟨A', c', w', hr, h2, h3, h4⟩ := run_appN he hsz hz o.type hown hsl h63 hbytes hbase
  unfold Oper.wp execOp
  simp only [ho, resolve, invoke, builtin, Sem.run_bind, Sem.run_pure, Result.andThen_ok, List.map_toArray, List.map_cons, List.map_nil, hs, hx, hr]
  exact hK _ _ (h A' c' w' h2 h3 h4)
end
section
variable {α : Type} [GoT α] {w w' : World} {T S : Nat → Prop} {base e : Nat} {A B : Option Addr} {c n : Nat} {xs ys : List α}
theorem Own.lit {b : Nat} {cs : List Value} (hb : w.heap[b]? = some (.cells cs.toArray e (0, 0))) (hbb : base ≤ b) (hl : cs.length = xs.length * GoT.size α) (hm : xs.length ≤ 9223372036854775807)
    (hr : ∀ i (h : i < xs.length), GoT.rd w (fun k => T k ∧ b ≠ k) (fun j => cs.getD (i * GoT.size α + j) undef) xs[i]) : Own w T base e (some ⟨b, 0, none⟩) xs.length xs := by
  refine ⟨cs, ⟨hl, .inr ⟨b, xs.length, cs.toArray, rfl, hbb, hb, Nat.le_refl _, by simpa [maxLen] using hm, by simpa using hl, List.take_of_length_le (by simp [hl])⟩⟩, fun i h => ?_⟩
  exact GoT.wide (fun k _ hk => ⟨hk.1, fun e => by injection e with e; exact hk.2 e⟩) (hr i h)
theorem Own.emp {b : Nat} (hb : w.heap[b]? = some (.cells #[] e (0, 0))) (hbb : base ≤ b) : Own (α := α) w T base e (some ⟨b, 0, none⟩) 0 [] :=
  Own.lit (cs := []) (xs := []) hb hbb (by simp) (by simp) (fun i h => absurd h (Nat.not_lt_zero i))
end
section
variable {α : Type} [GoT α] {w w' : World} {T S : Nat → Prop} {base e : Nat} {A B : Option Addr} {c n : Nat} {xs ys : List α}
theorem step_app1 {ops : Array Oper} {o : Oper} {a : Act} {K : Act → World → Prop} {Q : Exit → Act → World → Prop} {E : Prop} (hgd : o.guard = none) (s x : Operand) {t size bytes : Nat} (he : Elt t e size bytes) (hsz : GoT.size α = size) (hz : 0 < size)
    (ho : o.op = .call { callee := .builtin .append, args := #[s, x], argTypes := #[t, t] }) {n : Nat} (hs : a.eval s = .slice A n c) (hn : n = xs.length) (hown : Own w T base e A c xs)
    {b0 c0 : Nat} (hx : a.eval x = .slice (some ⟨b0, 0, none⟩) 1 c0) (cs : List Value) {t0 : TypeId} {fz : Nat × Nat} (y : α)
    (hb0 : w.heap[b0]? = some (.cells cs.toArray t0 fz)) (hcs : cs.length = size) (hy : GoT.rd w (fun b => T b ∧ A.map Addr.block ≠ some b) (fun j => cs.getD j undef) y)
    (h63 : xs.length + 1 ≤ 9223372036854775807) (hbytes : (xs.length + 1) * bytes ≤ 140737488355328) (hbase : base ≤ w.heap.size)
    (h : ∀ A' c' w', Own w' T base e A' c' (xs ++ [y]) → w.grownBy w' (A.map Addr.block) → (A'.map Addr.block = A.map Addr.block ∨ A'.map Addr.block = some w.heap.size) → K (a.put o.dst (.slice A' (n + 1) c')) w') :
    if Region.wanted o (yielded ops a.tmps) = true then Oper.wp Tryz.prog o a w K Q else E := by
  have hw : Region.wanted o (yielded ops a.tmps) = true := by simp [Region.wanted, hgd]
  rw [if_pos hw]
  subst hn
  obtain ⟨A', c', w', hr, h2, h3, h4⟩ := run_app1 he hsz hz o.type hown (c0 := c0) hb0 hcs hy h63 hbytes hbase
  unfold Oper.wp execOp
  simp only [ho, resolve, invoke, builtin, Sem.run_bind, Sem.run_pure, Result.andThen_ok, List.map_toArray, List.map_cons, List.map_nil, hs, hx, hr]
  exact h A' c' w' h2 h3 h4
theorem step_appN {ops : Array Oper} {o : Oper} {a : Act} {K : Act → World → Prop} {Q : Exit → Act → World → Prop} {E : Prop} (hgd : o.guard = none) (s x : Operand) {t size bytes : Nat} (he : Elt t e size bytes) (hsz : GoT.size α = size) (hz : 0 < size)
    (ho : o.op = .call { callee := .builtin .append, args := #[s, x], argTypes := #[t, t] }) {n : Nat} (hs : a.eval s = .slice A n c) (hn : n = xs.length) (hown : Own w T base e A c xs)
    {m c0 : Nat} (hx : a.eval x = .slice B m c0) (hsl : Sl w (fun b => T b ∧ A.map Addr.block ≠ some b) B m c0 ys)
    (h63 : xs.length + m ≤ 9223372036854775807) (hbytes : (xs.length + m) * bytes ≤ 140737488355328) (hbase : base ≤ w.heap.size)
    (h : ∀ A' c' w', Own w' T base e A' c' (xs ++ ys) → w.grownBy w' (A.map Addr.block) → (A'.map Addr.block = A.map Addr.block ∨ A'.map Addr.block = some w.heap.size) → K (a.put o.dst (.slice A' (n + m) c')) w') :
    if Region.wanted o (yielded ops a.tmps) = true then Oper.wp Tryz.prog o a w K Q else E := by
  have hw : Region.wanted o (yielded ops a.tmps) = true := by simp [Region.wanted, hgd]
  rw [if_pos hw]
  subst hn
  obtain ⟨A', c', w', hr, h2, h3, h4⟩ := run_appN he hsz hz o.type hown hsl h63 hbytes hbase
  unfold Oper.wp execOp
  simp only [ho, resolve, invoke, builtin, Sem.run_bind, Sem.run_pure, Result.andThen_ok, List.map_toArray, List.map_cons, List.map_nil, hs, hx, hr]
  exact h A' c' w' h2 h3 h4
end
theorem cell_later {w w' : World} {p : Addr} {v : Value} (hb : Below w.heap.size w w') (h : w.cell? p = some v) : w'.cell? p = some v :=
  (hb.cell (World.block_lt_of_cell? w _ h)).trans h
theorem lsa {α : Type} {l : List α} {i : Nat} {a : α} : l.toArray.setIfInBounds i a = (l.set i a).toArray := List.setIfInBounds_toArray _ _ _
theorem lsz {α : Type} {x a : α} {l : List α} : (x :: l).set 0 a = a :: l := List.set_cons_zero
theorem lss {α : Type} {x a : α} {l : List α} {n : Nat} : (x :: l).set (n + 1) a = x :: l.set n a := List.set_cons_succ
end Go.Proofs.YtpeamehplhpcjaaGreatDoor
