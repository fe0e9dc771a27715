/- Rules: what arguments, atoms, literals and rules read as. -/
import Derived.Test.YtjopmgoacncmgaaGreatDoorK1
set_option linter.unusedVariables false
set_option linter.unusedSimpArgs false
namespace Go.Proofs.YtjopmgoacncmgaaGreatDoor
open Go.RowKit

instance : GoT Arg where
  size := 3
  rd := fun _ _ g x => g 0 = .int .i64 x.kind ∧ g 1 = .string ⟨x.text.toArray⟩ ∧ g 2 = .int .i64 x.num
  keep := fun _ h => h
  wide := fun _ h => h
  same := fun hg h => ⟨(hg 0 (by omega)).trans h.1, (hg 1 (by omega)).trans h.2.1, (hg 2 (by omega)).trans h.2.2⟩
  one := fun h j hj => by match j, hj with
                          | 0, _ => rw [h.1]; rfl
                          | 1, _ => rw [h.2.1]; rfl
                          | 2, _ => rw [h.2.2]; rfl
instance : GoT Atm where
  size := 2
  rd := fun w S g x => g 0 = .string ⟨x.name.toArray⟩ ∧ ∃ A n c, g 1 = .slice A n c ∧ Sl w S A n c x.args
  keep := fun hk ⟨h0, A, n, c, e, h⟩ => ⟨h0, A, n, c, e, h.keep hk⟩
  wide := fun hk ⟨h0, A, n, c, e, h⟩ => ⟨h0, A, n, c, e, h.wide hk (by decide)⟩
  same := fun hg ⟨h0, A, n, c, e, h⟩ => ⟨(hg 0 (by omega)).trans h0, A, n, c, (hg 1 (by omega)).trans e, h⟩
  one := fun ⟨h0, A, n, c, e, _⟩ j hj => by match j, hj with
                                             | 0, _ => rw [h0]; rfl
                                             | 1, _ => rw [e]; rfl
instance : GoT Ltl where
  size := 4
  rd := fun w S g x => g 0 = .bool x.neg ∧ g 1 = .string ⟨x.op.toArray⟩ ∧ g 2 = .string ⟨x.atom.name.toArray⟩ ∧ ∃ A n c, g 3 = .slice A n c ∧ Sl w S A n c x.atom.args
  keep := fun hk ⟨h0, h1, h2, A, n, c, e, h⟩ => ⟨h0, h1, h2, A, n, c, e, h.keep hk⟩
  wide := fun hk ⟨h0, h1, h2, A, n, c, e, h⟩ => ⟨h0, h1, h2, A, n, c, e, h.wide hk (by decide)⟩
  same := fun hg ⟨h0, h1, h2, A, n, c, e, h⟩ => ⟨(hg 0 (by omega)).trans h0, (hg 1 (by omega)).trans h1, (hg 2 (by omega)).trans h2, A, n, c, (hg 3 (by omega)).trans e, h⟩
  one := fun ⟨h0, h1, h2, A, n, c, e, _⟩ j hj => by match j, hj with
                                                     | 0, _ => rw [h0]; rfl
                                                     | 1, _ => rw [h1]; rfl
                                                     | 2, _ => rw [h2]; rfl
                                                     | 3, _ => rw [e]; rfl
instance : GoT Rul where
  size := 3
  rd := fun w S g x => g 0 = .string ⟨x.head.name.toArray⟩ ∧ (∃ A n c, g 1 = .slice A n c ∧ Sl w S A n c x.head.args) ∧ ∃ A n c, g 2 = .slice A n c ∧ Sl w S A n c x.body
  keep := fun hk ⟨h0, ⟨A, n, c, e, h⟩, A', n', c', e', h'⟩ => ⟨h0, ⟨A, n, c, e, h.keep hk⟩, A', n', c', e', h'.keep hk⟩
  wide := fun hk ⟨h0, ⟨A, n, c, e, h⟩, A', n', c', e', h'⟩ => ⟨h0, ⟨A, n, c, e, h.wide hk (by decide)⟩, A', n', c', e', h'.wide hk (by decide)⟩
  same := fun hg ⟨h0, ⟨A, n, c, e, h⟩, A', n', c', e', h'⟩ => ⟨(hg 0 (by omega)).trans h0, ⟨A, n, c, (hg 1 (by omega)).trans e, h⟩, A', n', c', (hg 2 (by omega)).trans e', h'⟩
  one := fun ⟨h0, ⟨A, n, c, e, _⟩, A', n', c', e', _⟩ j hj => by match j, hj with
                                                                  | 0, _ => rw [h0]; rfl
                                                                  | 1, _ => rw [e]; rfl
                                                                  | 2, _ => rw [e']; rfl

section
variable {w w' : World} {S S' : Nat → Prop} {A : Option Addr} {n c k : Nat}
theorem Sl.arg {xs : List Arg} (h : Sl w S A n c xs) (hk : k < xs.length) : ∃ b o, A = some ⟨b, o, none⟩ ∧ S b ∧ b < w.heap.size ∧
    w.cell? ⟨b, o + k * 3, none⟩ = some (.int .i64 xs[k].kind) ∧ w.cell? ⟨b, o + k * 3 + 1, none⟩ = some (.string ⟨xs[k].text.toArray⟩) ∧ w.cell? ⟨b, o + k * 3 + 2, none⟩ = some (.int .i64 xs[k].num) := by
  obtain ⟨b, o, hA, hS, hb, g, hc, h0, h1, h2⟩ := h.plain (by decide) hk
  have c0 := hc 0 (by decide)
  have c1 := hc 1 (by decide)
  have c2 := hc 2 (by decide)
  rw [h0] at c0; rw [h1] at c1; rw [h2] at c2
  exact ⟨b, o, hA, hS, hb, c0, c1, c2⟩
theorem Sl.atm {xs : List Atm} (h : Sl w S A n c xs) (hk : k < xs.length) : ∃ b o, A = some ⟨b, o, none⟩ ∧ S b ∧ b < w.heap.size ∧ ∃ A1 n1 c1,
    w.cell? ⟨b, o + k * 2, none⟩ = some (.string ⟨xs[k].name.toArray⟩) ∧ w.cell? ⟨b, o + k * 2 + 1, none⟩ = some (.slice A1 n1 c1) ∧ Sl w S A1 n1 c1 xs[k].args := by
  obtain ⟨b, o, hA, hS, hb, g, hc, h0, A1, n1, c1, h1, hs⟩ := h.plain (by decide) hk
  have c0 := hc 0 (by decide)
  have d1 := hc 1 (by decide)
  rw [h0] at c0; rw [h1] at d1
  exact ⟨b, o, hA, hS, hb, A1, n1, c1, c0, d1, hs⟩
theorem Sl.ltl {xs : List Ltl} (h : Sl w S A n c xs) (hk : k < xs.length) : ∃ b o, A = some ⟨b, o, none⟩ ∧ S b ∧ b < w.heap.size ∧ ∃ A1 n1 c1,
    w.cell? ⟨b, o + k * 4, none⟩ = some (.bool xs[k].neg) ∧ w.cell? ⟨b, o + k * 4 + 1, none⟩ = some (.string ⟨xs[k].op.toArray⟩) ∧ w.cell? ⟨b, o + k * 4 + 2, none⟩ = some (.string ⟨xs[k].atom.name.toArray⟩) ∧
    w.cell? ⟨b, o + k * 4 + 3, none⟩ = some (.slice A1 n1 c1) ∧ Sl w S A1 n1 c1 xs[k].atom.args := by
  obtain ⟨b, o, hA, hS, hb, g, hc, h0, h1, h2, A1, n1, c1, h3, hs⟩ := h.plain (by decide) hk
  have c0 := hc 0 (by decide)
  have d1 := hc 1 (by decide)
  have d2 := hc 2 (by decide)
  have d3 := hc 3 (by decide)
  rw [h0] at c0; rw [h1] at d1; rw [h2] at d2; rw [h3] at d3
  exact ⟨b, o, hA, hS, hb, A1, n1, c1, c0, d1, d2, d3, hs⟩
theorem Sl.rul {xs : List Rul} (h : Sl w S A n c xs) (hk : k < xs.length) : ∃ b o, A = some ⟨b, o, none⟩ ∧ S b ∧ b < w.heap.size ∧ ∃ A1 n1 c1 A2 n2 c2,
    w.cell? ⟨b, o + k * 3, none⟩ = some (.string ⟨xs[k].head.name.toArray⟩) ∧ w.cell? ⟨b, o + k * 3 + 1, none⟩ = some (.slice A1 n1 c1) ∧ w.cell? ⟨b, o + k * 3 + 2, none⟩ = some (.slice A2 n2 c2) ∧
    Sl w S A1 n1 c1 xs[k].head.args ∧ Sl w S A2 n2 c2 xs[k].body := by
  obtain ⟨b, o, hA, hS, hb, g, hc, h0, ⟨A1, n1, c1, h1, hs1⟩, A2, n2, c2, h2, hs2⟩ := h.plain (by decide) hk
  have c0 := hc 0 (by decide)
  have d1 := hc 1 (by decide)
  have d2 := hc 2 (by decide)
  rw [h0] at c0; rw [h1] at d1; rw [h2] at d2
  exact ⟨b, o, hA, hS, hb, A1, n1, c1, A2, n2, c2, c0, d1, d2, hs1, hs2⟩
end
theorem eltArg : Elt 43 95 3 32 := .mk' (z := .agg #[.int .i64 0, .string ⟨#[]⟩, .int .i64 0]) (by kernel_rfl) (by kernel_rfl) rfl
theorem eltLtl : Elt 46 54 4 64 := .mk' (z := .agg #[.bool false, .string ⟨#[]⟩, .string ⟨#[]⟩, .slice none 0 0]) (by kernel_rfl) (by kernel_rfl) rfl
theorem eltAtm : Elt 56 45 2 40 := .mk' (z := .agg #[.string ⟨#[]⟩, .slice none 0 0]) (by kernel_rfl) (by kernel_rfl) rfl
theorem eltRul : Elt 23 48 3 64 := .mk' (z := .agg #[.string ⟨#[]⟩, .slice none 0 0, .slice none 0 0]) (by kernel_rfl) (by kernel_rfl) rfl

/-- A value by itself reads as x, its memory in the blocks of S. -/
def vArg (x : Arg) : Value := .agg #[.int .i64 x.kind, .string ⟨x.text.toArray⟩, .int .i64 x.num]
def VAtm (w : World) (S : Nat → Prop) (v : Value) (x : Atm) : Prop := ∃ A n c, v = .agg #[.string ⟨x.name.toArray⟩, .slice A n c] ∧ Sl w S A n c x.args
def VLtl (w : World) (S : Nat → Prop) (v : Value) (x : Ltl) : Prop := ∃ A n c, v = .agg #[.bool x.neg, .string ⟨x.op.toArray⟩, .string ⟨x.atom.name.toArray⟩, .slice A n c] ∧ Sl w S A n c x.atom.args
def VRul (w : World) (S : Nat → Prop) (v : Value) (x : Rul) : Prop := ∃ A n c A' n' c', v = .agg #[.string ⟨x.head.name.toArray⟩, .slice A n c, .slice A' n' c'] ∧ Sl w S A n c x.head.args ∧ Sl w S A' n' c' x.body
/-- Strings that are no longer than any string. -/
def OkA (a : Arg) : Prop := a.text.length ≤ 9223372036854775807 ∧ -9223372036854775808 ≤ a.num ∧ a.num ≤ 9223372036854775807
def OkAs (l : List Arg) : Prop := ∀ a ∈ l, OkA a
def OkT (a : Atm) : Prop := a.name.length ≤ 9223372036854775807 ∧ OkAs a.args
def OkL (l : Ltl) : Prop := l.op.length ≤ 9223372036854775807 ∧ OkT l.atom
def OkR (r : Rul) : Prop := OkT r.head ∧ ∀ l ∈ r.body, OkL l
end Go.Proofs.YtjopmgoacncmgaaGreatDoor
