/- ExprMeans: words in slices; slices.Clone, slices.Equal; a map literal's operations. -/
import Derived.Test.YtchdpjgncojhaaaMean1
import Derived.Test.YtchdpjgncojhaaaG8
import Derived.Maps.OwnOps
set_option linter.unusedVariables false
set_option linter.unusedSimpArgs false
namespace Go.Proofs.Ytchdpjgncojhaaa
open Go.RowKit
open Go.Maps (Keyed int_keyed keyOf_int_mk)

/-- A uint32 among the cells of something. -/
instance : GoT Int where
  size := 1
  rd := fun _ _ g x => g 0 = .int .u32 x
  keep := fun _ h => h
  wide := fun _ h => h
  same := fun hg h => (hg 0 (by omega)).trans h
  one := fun h j hj => by obtain rfl : j = 0 := by omega
                          rw [h]; rfl
theorem eltU : Elt 84 37 1 4 := .mk' (z := .int .u32 0) (by kernel_rfl) (by kernel_rfl) rfl
theorem Sl.word {w : World} {S : Nat → Prop} {A : Option Addr} {n c k : Nat} {xs : List Int} (h : Sl w S A n c xs) (hk : k < xs.length) : ∃ b o, A = some ⟨b, o, none⟩ ∧ S b ∧ b < w.heap.size ∧
    w.cell? ⟨b, o + k, none⟩ = some (.int .u32 xs[k]) := by
  obtain ⟨b, o, hA, hS, hb, g, hc, h0⟩ := h.plain (by decide) hk
  have c0 := hc 0 (by decide)
  rw [h0] at c0
  exact ⟨b, o, hA, hS, hb, by simpa [GoT.size] using c0⟩
theorem sliceU_from (A : Option Addr) (n c p : Nat) (h1 : p ≤ n) (w : World) : (Instr.slice 84 (.slice A n c) (some (.int .i64 (p : Int))) none none).run Try.prog w = .ok (.slice (cutA A c p 1) (n - p) (c - p)) w := by
  have h0 : (0 : Int) ≤ (p : Int) := by omega
  have h1' : (p : Int) ≤ (n : Int) := by omega
  simp [go_sem, h0, h1', cutA]
theorem sliceU_to (A : Option Addr) (n c p : Nat) (h1 : p ≤ c) (w : World) : (Instr.slice 84 (.slice A n c) none (some (.int .i64 (p : Int))) none).run Try.prog w = .ok (.slice A p c) w := by
  have h0 : (0 : Int) ≤ (p : Int) := by omega
  have h1' : (p : Int) ≤ (c : Int) := by omega
  simp [go_sem, h0, h1']
theorem slCutU {w : World} {S : Nat → Prop} {A : Option Addr} {n c : Nat} {xs : List Int} (h : Sl w S A n c xs) {k : Nat} (hk : k ≤ n) : Sl w S (cutA A c k 1) (n - k) (c - k) (xs.drop k) := h.cut hk
theorem sliU : Try.prog.underlying 84 = some (.slice 37) := by kernel_rfl
@[go_sem ↓] theorem eqNilU (w : World) (a : Option Addr) (n c : Nat) : (binOp .eql 84 (.slice a n c) (.slice none 0 0)).run Try.prog w = .ok (.bool a.isNone) w := by
  simp [Lib.run_eql_slice_nil w _ _ a n c 0 0 sliU]

set_option maxRecDepth 100000 in
set_option maxHeartbeats 1000000 in
theorem cloneU_any (A : Option Addr) (n c : Nat) (w : World) (S : Nat → Prop) (xs : List Int) (hl : Sl w S A n c xs) (hn : n ≤ 1000000) :
    Calls Try.prog 59 #[.slice A n c] w fun e w' => ∃ A' n' c', e = .returned (.slice A' n' c') ∧ Sl w' (fun b => w.heap.size ≤ b) A' n' c' xs ∧ Below w.heap.size w w' := by
  have hlen := hl.len
  have hle := hl.2.1
  have hcc := hl.2.2.1
  cases A with
  | none =>
    have hx : xs = [] := by
      cases xs with
      | nil => rfl
      | cons a r => obtain ⟨ad, hA, _⟩ := hl.at_ (k := 0) (by simp); cases hA
    subst hx
    have hn0 : n = 0 := hlen
    subst hn0
    clear hlen hl hn hle hcc
    go_enter Try.func59, Try.ntmps59
    go_wp2
    go_ret
    exact ⟨none, 0, 0, rfl, Sl.nil _ _ _ _ (by decide), Below.refl _ _⟩
  | some ad =>
    have HL := Lib.hid hl; clear hl
    go_enter Try.func59, Try.ntmps59
    go_wp2_with (at_builtin; refine wpList_appN (e := 37) (T := fun _ => True) (base := w.heap.size) (xs := ([] : List Int)) rfl (.tmp 5) (.tmp 6) eltU rfl (by decide) rfl rfl rfl (Own.emp (blkAt _ _ rfl) (Nat.le_refl _)) rfl ((HL.out.wide (fun k hk1 hk => ⟨trivial, fun e => by injection e with e; exact absurd e (by have := hk1; simp only; omega)⟩) (by decide)).alloc _) (by simp; omega) (by simp; omega) (by simp) ?_; intro A' c' w2 hown' hg hat)
    go_ret
    refine ⟨A', _, c', rfl, ?_, boxed.grown hg (by simp) (fun k hk => by have hk : some w.heap.size = some k := hk; injection hk with hk; omega)⟩
    have h0 : Own w2 (fun _ => False) w.heap.size 37 A' c' ([] ++ xs) := by
      obtain ⟨cs, h1, h2⟩ := hown'
      exact ⟨cs, h1, fun i hi => h2 i hi⟩
    have h2 := (h0.sl (by decide)).wide (S' := fun b => w.heap.size ≤ b) (fun k _ hk => hk.elim False.elim (fun hk => (h0.lt k hk).1)) (by decide)
    simpa using h2

set_option maxHeartbeats 800000 in
theorem equalO_any (A A' : Option Addr) (n c n' c' : Nat) (w : World) (S S' : Nat → Prop) (l l' : List Opn) (hl : Sl w S A n c l) (hl' : Sl w S' A' n' c' l') :
    Calls Try.prog 32 #[.slice A n c, .slice A' n' c'] w fun e w' => e = .returned (.bool (sameL l l')) ∧ Below w.heap.size w w' := by
  have hn := hl.le
  have hn' := hl'.le
  have hlen := hl.len
  subst hlen
  have hlen' := hl'.len
  subst hlen'
  have HL := Lib.hid hl; clear hl
  have HL' := Lib.hid hl'; clear hl'
  obtain ⟨v, hv⟩ : ∃ v, v = sameL l l' := ⟨_, rfl⟩
  rw [← hv]
  by_cases he : l.length = l'.length
  · have Hf : Hid (v = sameL (l.drop 0) (l'.drop 0)) := hv
    clear hv
    have hq : ((l.length : Int) != l'.length) = false := by rw [he]; simp
    have HE := Lib.hid he; clear he
    go_enter Try.func32, Try.ntmps32
    go_wp2
    go_loopw [13] (fun i wr => ∃ k : Nat, k ≤ l.length ∧ i = .int .i64 k ∧ Below w.heap.size w wr ∧ Hid (v = sameL (l.drop k) (l'.drop k))) (fun i _ => l.length - (intOf i).toNat)
    case atStart => exact ⟨0, by omega, rfl, Below.refl _ _, Hf⟩
    case round =>
      obtain ⟨k, hk, rfl, hb, hf⟩ := hrel
      by_cases hlt : k < l.length
      · have hlt' : k < l'.length := by have := HE.out; omega
        obtain ⟨b, o, rfl, -, hbs, h1, h2, h3⟩ := (HL.out.below hb).opn hlt
        obtain ⟨b', o', rfl, -, hbs', h1', h2', h3'⟩ := (HL'.out.below hb).opn hlt'
        have hd : Hid (v = (decide (l[k] = l'[k]) && sameL (l.drop (k + 1)) (l'.drop (k + 1)))) := by show v = _; rw [hf.out, drop_get hlt, drop_get hlt', sameL]
        clear hf
        go_wp2
        go_quiet (fail)
        go_wp2
        · rename_i h
          go_ret
          exact ⟨ret_bool (by rw [hd.out, decide_eq_false (fun e => by rw [e] at h; simp at h)]; rfl), (Below.trans hb ⟨rfl, rfl, rfl, Nat.le_refl _, fun _ _ => rfl⟩)⟩
        · rename_i h
          go_roundw
          case rel => exact ⟨k + 1, by omega, by go_num, (Below.trans hb ⟨rfl, rfl, rfl, Nat.le_refl _, fun _ _ => rfl⟩), by show v = _; rw [hd.out, decide_eq_true (Opn.eq_of (by simp at h; exact h.1) (by simp at h; exact h.2.1) (by simp at h; exact h.2.2)), Bool.true_and]⟩
          case measure => simp [intOf]; omega
      · go_wp2
        go_ret
        exact ⟨ret_bool (by have := HE.out; rw [hf.out, drop_end hlt, drop_end (by omega)]; rfl), hb⟩
  · have Hf : Hid (v = false) := by show v = _; rw [hv, sameL_len he]
    have hq : ((l.length : Int) != l'.length) = true := by rw [bne_iff_ne]; omega
    clear hv he
    go_enter Try.func32, Try.ntmps32
    go_wp2
    go_ret
    exact ⟨ret_bool Hf.out, Below.refl _ _⟩


/- The map literal. -/
theorem keyI : Keyed Try.prog 3 := int_keyed Try.underlying3
theorem zeroI (w : World) : (zeroValue 3).run Try.prog w = .ok (.int .i64 0) w := by kernel_rfl
theorem keyI_mk (k : Int) (h : (Lit.int .i64 k).wf = true) : keyOf Try.prog 3 (.int .i64 k) = some (.int .i64 k) := keyOf_int_mk Try.underlying3 h
theorem wpList_insert_own {H : Type} {P : Program} (w : World) {ops : Array Oper} {rest : List Oper} {o : Oper} {a : Act} {Q : Exit → Act → World → Prop}
    (hg : o.guard = none) (m x v : Operand) (t : TypeId) (hop : o.op = Op.insert t m x v)
    (k e : TypeId) (K : Keyed P k) (ht : P.underlying t = some (.map k e)) (R : Value → Option (DataW H × List MemPlace)) (b n : Nat) (D : DataW H)
    (hm : a.eval m = .map (some b)) (hown : w.ownsMap P k R b n D) (hn : n < maxLen) (key val : Value) (kl : Lit) (hx : a.eval x = key) (hv : a.eval v = val) (hkey : keyOf P k key = some kl)
    (d : DataW H) (ps : List MemPlace) (hval : R val = some (d, ps))
    (hK : ∀ w', w'.ownsMap P k R b (n + 1) (D.put kl d) → w.grownBy w' (some b) → wpList P ops Q rest (a.put o.dst undef) w') :
    wpList P ops Q (o :: rest) a w := by
  refine wpList_plain hg fun K' hK' => ?_
  obtain ⟨w', hrun, r1, r2⟩ := hown.update K ht hn hkey hval
  unfold Oper.wp
  simp [execOp, hop, hm, hx, hv, hrun, Result.andThen]
  exact hK' _ _ (hK w' r1 r2)
/-- What the map literal reads as. -/
def needD (n : Int) : DataW Unit := ((((DataW.map []).put (.int .i64 3) (.lit (.int .i64 n))).put (.int .i64 4) (.lit (.int .i64 1))).put (.int .i64 6) (.lit (.int .i64 1))).put (.int .i64 7) (.lit (.int .i64 2))
theorem needD_at {o : Opn} (hk : o.kind = 1 ∨ o.kind = 2 ∨ o.kind = 3 ∨ o.kind = 4 ∨ o.kind = 5 ∨ o.kind = 6 ∨ o.kind = 7) (h0 : 0 ≤ o.n) {c : Int} (h : (needD o.n).atKey (.int .i64 o.kind) (.lit (.int .i64 0)) = .lit (.int .i64 c)) : c = needV o := by
  unfold needV
  rcases hk with k | k | k | k | k | k | k <;> rw [k] at h <;> simp only [k] <;> simp [needD, DataW.put, DataW.atKey, DataW.insert, Lit.sameKey, Lit.before] at h <;> simp <;> omega
end Go.Proofs.Ytchdpjgncojhaaa
