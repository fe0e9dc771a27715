/- slices.Clone at []text, symbol, decimal. -/
import Derived.Test.YtchdpjgncojhaaaG1
import Derived.Lib.SliceRun
set_option linter.unusedVariables false
set_option linter.unusedSimpArgs false
namespace Go.Proofs.Ytchdpjgncojhaaa
open Go.RowKit

section
variable {α : Type} [GoT α] {w w' : World} {T S : Nat → Prop} {base e : Nat} {A B : Option Addr} {c n : Nat} {xs ys : List α}
theorem Own.lit {b : Nat} {cs : List Value} (hb : w.heap[b]? = some (.cells cs.toArray e (0, 0))) (hbb : base ≤ b) (hl : cs.length = xs.length * GoT.size α) (hm : xs.length ≤ 9223372036854775807)
    (hr : ∀ i (h : i < xs.length), GoT.rd w (fun k => T k ∧ b ≠ k) (fun j => cs.getD (i * GoT.size α + j) undef) xs[i]) : Own w T base e (some ⟨b, 0, none⟩) xs.length xs := by
  refine ⟨cs, ⟨hl, .inr ⟨b, xs.length, cs.toArray, rfl, hbb, hb, Nat.le_refl _, by simpa [maxLen] using hm, by simpa using hl, List.take_of_length_le (by simp [hl])⟩⟩, fun i h => ?_⟩
  exact GoT.wide (fun k _ hk => ⟨hk.1, fun e => by injection e with e; exact hk.2 e⟩) (hr i h)
theorem Own.emp {b : Nat} (hb : w.heap[b]? = some (.cells #[] e (0, 0))) (hbb : base ≤ b) : Own (α := α) w T base e (some ⟨b, 0, none⟩) 0 [] :=
  Own.lit (cs := []) (xs := []) hb hbb (by simp) (by simp) (fun i h => absurd h (Nat.not_lt_zero i))
end

theorem sliTxt : Try.prog.underlying 65 = some (.slice 69) := by kernel_rfl
@[go_sem ↓] theorem eqNilTxt (w : World) (a : Option Addr) (n c : Nat) : (binOp .eql 65 (.slice a n c) (.slice none 0 0)).run Try.prog w = .ok (.bool a.isNone) w := by
  simp [Lib.run_eql_slice_nil w _ _ a n c 0 0 sliTxt]

set_option maxRecDepth 100000 in
set_option maxHeartbeats 1000000 in
theorem cloneT_any (A : Option Addr) (n c : Nat) (w : World) (S : Nat → Prop) (xs : List Txt) (hl : Sl w S A n c xs) (hn : n ≤ 1000000) :
    Calls Try.prog 42 #[.slice A n c] w fun e w' => ∃ A' n' c', e = .returned (.slice A' n' c') ∧ Sl w' (fun b => S b ∨ w.heap.size ≤ b) A' n' c' xs ∧ Below w.heap.size w w' := by
  have hlen := hl.len
  have hle := hl.2.1
  have hcc := hl.2.2.1
  cases A with
  | none =>
    have hx : xs = [] := by
      cases xs with
      | nil => rfl
      | cons a r => obtain ⟨ad, hA, _⟩ := hl.at_ (k := 0) (by simp); cases hA
    subst hx
    have hn0 : n = 0 := hlen
    subst hn0
    clear hlen hl hn hle hcc
    go_enter Try.func42, Try.ntmps42
    go_wp2
    go_ret
    exact ⟨none, 0, 0, rfl, Sl.nil _ _ _ _ (by decide), Below.refl _ _⟩
  | some ad =>
    have HL := Lib.hid hl; clear hl
    go_enter Try.func42, Try.ntmps42
    go_wp2_with (at_builtin; refine wpList_appN (e := 69) (T := S) (base := w.heap.size) (xs := ([] : List Txt)) rfl (.tmp 5) (.tmp 6) eltTxt rfl (by decide) rfl rfl rfl (Own.emp (blkAt _ _ rfl) (Nat.le_refl _)) rfl ((HL.out.wide (fun k hk1 hk => ⟨hk, fun e => by injection e with e; exact absurd e (by have := hk1; simp only; omega)⟩) (by decide)).alloc _) (by simp; omega) (by simp; omega) (by simp) ?_; intro A' c' w2 hown' hg hat)
    go_ret
    refine ⟨A', _, c', rfl, ?_, boxed.grown hg (by simp) (fun k hk => by have hk : some w.heap.size = some k := hk; injection hk with hk; omega)⟩
    have h2 := (hown'.sl (by decide)).wide (S' := fun b => S b ∨ w.heap.size ≤ b) (fun k _ hk => hk.elim .inl (fun hk => .inr (hown'.lt k hk).1)) (by decide)
    simpa using h2
end Go.Proofs.Ytchdpjgncojhaaa
