/- Rules: maps from strings to numbers as lists of pairs: the operations' laws. -/
import Derived.Test.YtjopmgoacncmgaaGreatDoorK9
import Derived.Test.YtjopmgoacncmgaaGreatDoorAwkS
import Derived.Maps.OwnOps
import Derived.Maps.OwnSet
set_option linter.unusedVariables false
set_option linter.unusedSimpArgs false
namespace Go.Proofs.YtjopmgoacncmgaaGreatDoor
open Go.RowKit Go.Maps

theorem lawS : Keyed Tryz.prog 9 := string_keyed Tryz.underlying9
theorem zeroI (w : World) : (zeroValue 3).run Tryz.prog w = .ok (.int .i64 0) w := by kernel_rfl
/-- Block b is a map that reads as the pairs of m. -/
def MapR (w : World) (b : Nat) (m : KMap) : Prop :=
  ∃ D : DataW Unit, w.ownsMap Tryz.prog 9 (plainElem Tryz.prog 3) b m.length D ∧ (∀ s, Maps.has D (.string s) = (getK m s).isSome) ∧
    (∀ s, D.atKey (.string s) (.lit (.int .i64 0)) = .lit (.int .i64 (getV m s))) ∧ Maps.size D = m.length
theorem own_tight {P : Program} {k : TypeId} {R : Value → Option (DataW Unit × List MemPlace)} {w : World} {b n : Nat} {D : DataW Unit} (h : w.ownsMap P k R b n D) : w.ownsMap P k R b (Maps.size D) D := by
  obtain ⟨es, clock, hb, F, _, rfl⟩ := h
  exact ⟨es, clock, hb, F, by simp [Maps.size, length_sorted], rfl⟩
theorem MapR.lt {w : World} {b : Nat} {m : KMap} (h : MapR w b m) : b < w.heap.size := by
  obtain ⟨D, ho, _⟩ := h
  exact ho.lt
theorem MapR.keep {w w' : World} {b : Nat} {m : KMap} (h : MapR w b m) (hk : w'.heap[b]? = w.heap[b]?) : MapR w' b m := by
  obtain ⟨D, ⟨es, clock, hb, F, hs, hD⟩, h1, h2, h3⟩ := h
  exact ⟨D, ⟨es, clock, hk.trans hb, F, hs, hD⟩, h1, h2, h3⟩
theorem MapR.below {w w' : World} {b : Nat} {m : KMap} (h : MapR w b m) (hb : Below w.heap.size w w') : MapR w' b m := h.keep (hb.block b h.lt)
theorem MapR.alloc {w : World} {b : Nat} {m : KMap} (h : MapR w b m) (o : Obj) : MapR (w.alloc o) b m := h.below ((Below.refl _ _).alloc (Nat.le_refl _) _)
theorem MapR.made (w : World) : MapR (w.alloc (.map #[] 0)) w.heap.size [] :=
  ⟨.map [], World.ownsMap_made _ _ _ _, fun s => rfl, fun s => by simp [DataW.atKey, getV, getK], rfl⟩
theorem setK_len (m : KMap) (s : Bs) (v : Int) : (setK m s v).length = if (getK m s).isSome then m.length else m.length + 1 := by
  rw [len_keys, keys_set]
  by_cases h : s ∈ keysK m
  · rw [if_pos h, if_pos ((getK_mem m s).2 h), len_keys]
  · rw [if_neg h, if_neg (fun x => h ((getK_mem m s).1 x)), len_keys]; simp
theorem MapR.put {w w' : World} {b n : Nat} {m : KMap} {D : DataW Unit} (hD : w.ownsMap Tryz.prog 9 (plainElem Tryz.prog 3) b m.length D) (h1 : ∀ s, Maps.has D (.string s) = (getK m s).isSome)
    (h2 : ∀ s, D.atKey (.string s) (.lit (.int .i64 0)) = .lit (.int .i64 (getV m s))) (h3 : Maps.size D = m.length) (s : Bs) (v : Int) (ho : w'.ownsMap Tryz.prog 9 (plainElem Tryz.prog 3) b n (D.put (.string s) (.lit (.int .i64 v)))) : MapR w' b (setK m s v) := by
  have ht := hD.tidy lawS
  have hkl : WideAt.IsKeyLit (.string s) := trivial
  have hsz : Maps.size (D.put (.string s) (.lit (.int .i64 v))) = (setK m s v).length := by rw [size_put ht, h1, h3, setK_len]
  refine ⟨_, by rw [← hsz]; exact own_tight ho, fun t => ?_, fun t => ?_, hsz⟩
  · rw [getK_set]
    by_cases hst : s = t
    · subst hst
      rw [if_pos rfl, has_put_same ht.isMap hkl]; rfl
    · rw [if_neg hst, has_put_other (fun e => hst (by injection e with e; exact e.symm)), h1]
  · rw [getV_set]
    by_cases hst : s = t
    · subst hst
      rw [if_pos rfl, atKey_put_same ht.isMap hkl]
    · rw [if_neg hst, atKey_put_other (fun e => hst (by injection e with e; exact e.symm)), h2]

section
variable {ops : Array Oper} {rest : List Oper} {o : Oper} {a : Act} {Q : Exit → Act → World → Prop} {w : World} {b : Nat} {m : KMap}
theorem wpList_lookK (hg : o.guard = none) (x y : Operand) (hop : o.op = Op.lookup 96 x y false) (hx : a.eval x = .map (some b)) (s : Bs) (hy : a.eval y = .string ⟨s.toArray⟩) (hm : MapR w b m) (hs : s.length ≤ 9223372036854775807)
    (h : wpList Tryz.prog ops Q rest (a.put o.dst (.int .i64 (getV m s))) w) : wpList Tryz.prog ops Q (o :: rest) a w := by
  obtain ⟨D, ho, h1, h2, h3⟩ := hm
  refine wpList_lookup_own_int w hg x y 96 hop 9 3 .i64 lawS Tryz.underlying96 Tryz.underlying3 (zeroI w) b _ D hx ho _ (.string s) hy (WideMaps.keyOf_string_mk Tryz.underlying9 (s := ⟨s.toArray⟩) (by simpa [ByteArray.size, maxLen] using hs)) (fun c hat _ => ?_)
  rw [h2] at hat
  injection hat with hat
  injection hat with _ hat
  rw [← hat]
  exact h
theorem wpList_lookKok (hg : o.guard = none) (x y : Operand) (hop : o.op = Op.lookup 96 x y true) (hx : a.eval x = .map (some b)) (s : Bs) (hy : a.eval y = .string ⟨s.toArray⟩) (hm : MapR w b m) (hs : s.length ≤ 9223372036854775807)
    (h : wpList Tryz.prog ops Q rest (a.put o.dst (.tuple #[.int .i64 (getV m s), .bool (getK m s).isSome])) w) : wpList Tryz.prog ops Q (o :: rest) a w := by
  obtain ⟨D, ho, h1, h2, h3⟩ := hm
  refine wpList_lookup_own_ok_int w hg x y 96 hop 9 3 .i64 lawS Tryz.underlying96 Tryz.underlying3 (zeroI w) b _ D hx ho _ (.string s) hy (WideMaps.keyOf_string_mk Tryz.underlying9 (s := ⟨s.toArray⟩) (by simpa [ByteArray.size, maxLen] using hs)) (fun c hat _ => ?_)
  rw [h2] at hat
  injection hat with hat
  injection hat with _ hat
  rw [← hat, h1]
  exact h
theorem wpList_updK (hg : o.guard = none) (x y z : Operand) (hop : o.op = Op.mapUpdate 96 x y z) (hx : a.eval x = .map (some b)) (s : Bs) (hy : a.eval y = .string ⟨s.toArray⟩) (v : Int) (hz : a.eval z = .int .i64 v) (hm : MapR w b m)
    (hs : s.length ≤ 9223372036854775807) (hv : -9223372036854775808 ≤ v ∧ v ≤ 9223372036854775807) (hl : m.length < 9223372036854775807)
    (h : ∀ w', MapR w' b (setK m s v) → w.grownBy w' (some b) → wpList Tryz.prog ops Q rest (a.put o.dst undef) w') : wpList Tryz.prog ops Q (o :: rest) a w := by
  obtain ⟨D, ho, h1, h2, h3⟩ := hm
  refine wpList_mapUpdate_own w hg x y z 96 hop 9 3 lawS Tryz.underlying96 _ b _ D hx ho (by simpa [maxLen] using hl) _ _ (.string s) hy hz (WideMaps.keyOf_string_mk Tryz.underlying9 (s := ⟨s.toArray⟩) (by simpa [ByteArray.size, maxLen] using hs)) (.lit (.int .i64 v)) [] (plainElem_int Tryz.underlying3 (WalkArith.wf_i64 (by omega))) (fun w' ho' hg' => h w' (MapR.put ho h1 h2 h3 s v ho') hg')
theorem wpList_lenK (hg : o.guard = none) (x : Operand) (hop : o.op = Op.call { callee := Callee.builtin Builtin.len, args := #[x], argTypes := #[96] }) (hx : a.eval x = .map (some b)) (hm : MapR w b m)
    (h : wpList Tryz.prog ops Q rest (a.put o.dst (.int .i64 m.length)) w) : wpList Tryz.prog ops Q (o :: rest) a w := by
  obtain ⟨D, ho, h1, h2, h3⟩ := hm
  refine wpList_len_own w hg x 96 hop 9 3 Tryz.underlying96 _ b _ D hx ho ?_
  rw [h3]
  exact h
end
end Go.Proofs.YtjopmgoacncmgaaGreatDoor
