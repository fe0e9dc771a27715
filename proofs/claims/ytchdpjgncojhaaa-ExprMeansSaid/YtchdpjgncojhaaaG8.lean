/- append at a step of a region that draws; slices of []text. -/
import Derived.Test.YtchdpjgncojhaaaG7
set_option linter.unusedVariables false
set_option linter.unusedSimpArgs false
namespace Go.Proofs.Ytchdpjgncojhaaa
open Go.RowKit

section
variable {α : Type} [GoT α] {w w' : World} {T S : Nat → Prop} {base e : Nat} {A B : Option Addr} {c n : Nat} {xs ys : List α}
theorem step_app1 {ops : Array Oper} {o : Oper} {a : Act} {K : Act → World → Prop} {Q : Exit → Act → World → Prop} {E : Prop} (hgd : o.guard = none) (s x : Operand) {t size bytes : Nat} (he : Elt t e size bytes) (hsz : GoT.size α = size) (hz : 0 < size)
    (ho : o.op = .call { callee := .builtin .append, args := #[s, x], argTypes := #[t, t] }) {n : Nat} (hs : a.eval s = .slice A n c) (hn : n = xs.length) (hown : Own w T base e A c xs)
    {b0 c0 : Nat} (hx : a.eval x = .slice (some ⟨b0, 0, none⟩) 1 c0) (cs : List Value) {t0 : TypeId} {fz : Nat × Nat} (y : α)
    (hb0 : w.heap[b0]? = some (.cells cs.toArray t0 fz)) (hcs : cs.length = size) (hy : GoT.rd w (fun b => T b ∧ A.map Addr.block ≠ some b) (fun j => cs.getD j undef) y)
    (h63 : xs.length + 1 ≤ 9223372036854775807) (hbytes : (xs.length + 1) * bytes ≤ 140737488355328) (hbase : base ≤ w.heap.size)
    (h : ∀ A' c' w', Own w' T base e A' c' (xs ++ [y]) → w.grownBy w' (A.map Addr.block) → (A'.map Addr.block = A.map Addr.block ∨ A'.map Addr.block = some w.heap.size) → K (a.put o.dst (.slice A' (n + 1) c')) w') :
    if Region.wanted o (yielded ops a.tmps) = true then Oper.wp Try.prog o a w K Q else E := by
  have hw : Region.wanted o (yielded ops a.tmps) = true := by simp [Region.wanted, hgd]
  rw [if_pos hw]
  subst hn
  obtain ⟨A', c', w', hr, h2, h3, h4⟩ := run_app1 he hsz hz o.type hown (c0 := c0) hb0 hcs hy h63 hbytes hbase
  unfold Oper.wp execOp
  simp only [ho, resolve, invoke, builtin, Sem.run_bind, Sem.run_pure, Result.andThen_ok, List.map_toArray, List.map_cons, List.map_nil, hs, hx, hr]
  exact h A' c' w' h2 h3 h4
theorem step_appN {ops : Array Oper} {o : Oper} {a : Act} {K : Act → World → Prop} {Q : Exit → Act → World → Prop} {E : Prop} (hgd : o.guard = none) (s x : Operand) {t size bytes : Nat} (he : Elt t e size bytes) (hsz : GoT.size α = size) (hz : 0 < size)
    (ho : o.op = .call { callee := .builtin .append, args := #[s, x], argTypes := #[t, t] }) {n : Nat} (hs : a.eval s = .slice A n c) (hn : n = xs.length) (hown : Own w T base e A c xs)
    {m c0 : Nat} (hx : a.eval x = .slice B m c0) (hsl : Sl w (fun b => T b ∧ A.map Addr.block ≠ some b) B m c0 ys)
    (h63 : xs.length + m ≤ 9223372036854775807) (hbytes : (xs.length + m) * bytes ≤ 140737488355328) (hbase : base ≤ w.heap.size)
    (h : ∀ A' c' w', Own w' T base e A' c' (xs ++ ys) → w.grownBy w' (A.map Addr.block) → (A'.map Addr.block = A.map Addr.block ∨ A'.map Addr.block = some w.heap.size) → K (a.put o.dst (.slice A' (n + m) c')) w') :
    if Region.wanted o (yielded ops a.tmps) = true then Oper.wp Try.prog o a w K Q else E := by
  have hw : Region.wanted o (yielded ops a.tmps) = true := by simp [Region.wanted, hgd]
  rw [if_pos hw]
  subst hn
  obtain ⟨A', c', w', hr, h2, h3, h4⟩ := run_appN he hsz hz o.type hown hsl h63 hbytes hbase
  unfold Oper.wp execOp
  simp only [ho, resolve, invoke, builtin, Sem.run_bind, Sem.run_pure, Result.andThen_ok, List.map_toArray, List.map_cons, List.map_nil, hs, hx, hr]
  exact h A' c' w' h2 h3 h4
end

def cutA (A : Option Addr) (c l s : Nat) : Option Addr := if c = l then A else A.map (·.add (l * s))
theorem sliceTxt_from (A : Option Addr) (n c p : Nat) (h1 : p ≤ n) (w : World) : (Instr.slice 65 (.slice A n c) (some (.int .i64 (p : Int))) none none).run Try.prog w = .ok (.slice (cutA A c p 2) (n - p) (c - p)) w := by
  have h0 : (0 : Int) ≤ (p : Int) := by omega
  have h1' : (p : Int) ≤ (n : Int) := by omega
  simp [go_sem, h0, h1', cutA]
theorem sliceTxt_to (A : Option Addr) (n c p : Nat) (h1 : p ≤ c) (w : World) : (Instr.slice 65 (.slice A n c) none (some (.int .i64 (p : Int))) none).run Try.prog w = .ok (.slice A p c) w := by
  have h0 : (0 : Int) ≤ (p : Int) := by omega
  have h1' : (p : Int) ≤ (c : Int) := by omega
  simp [go_sem, h0, h1']
theorem Sl.cutA {w : World} {S : Nat → Prop} {A : Option Addr} {n c : Nat} {xs : List Txt} (h : Sl w S A n c xs) {k : Nat} (hk : k ≤ n) : Sl w S (cutA A c k 2) (n - k) (c - k) (xs.drop k) := h.cut hk
end Go.Proofs.Ytchdpjgncojhaaa
