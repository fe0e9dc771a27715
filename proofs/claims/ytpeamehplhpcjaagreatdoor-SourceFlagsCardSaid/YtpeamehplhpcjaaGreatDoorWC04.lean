/- A part of the proofs of the laws of one package; see the law's own text, which comes last in 'order'. No conditions of its own. -/
import Derived.WideKeyEntry
import Derived.Maps.OwnOps
import Derived.Maps.OwnSet
import Derived.DeepKeys4
import Derived.Test.YtpeamehplhpcjaaGreatDoorWC02
import Derived.Test.YtpeamehplhpcjaaGreatDoorWC03
set_option linter.unusedVariables false
set_option linter.unusedSimpArgs false
namespace Go.Proofs.YtpeamehplhpcjaaGreatDoor
open Go.RowKit Go.ChangeShapes Go.WideShapes Go.MapKept Go.ChangeMaps
open Go.WideMaps (KeyLaw)
section plain
variable {κ ν : Type} [DecidableEq κ]
theorem getM_cons (p : κ × ν) (r : List (κ × ν)) (k : κ) : getM (p :: r) k = if p.1 = k then some p.2 else getM r k := by
  unfold getM
  rw [List.find?_cons]
  by_cases h : p.1 = k
  · simp [h]
  · have : (p.1 == k) = false := by simpa using h
    rw [this, if_neg h]
theorem getM_none {m : List (κ × ν)} {k : κ} (h : ∀ p ∈ m, p.1 ≠ k) : getM m k = none := by
  induction m with
  | nil => rfl
  | cons p r ih => rw [getM_cons, if_neg (h p List.mem_cons_self), ih fun q hq => h q (List.mem_cons_of_mem _ hq)]
theorem setM_none {m : List (κ × ν)} {k : κ} (v : ν) (h : ∀ p ∈ m, p.1 ≠ k) : setM m k v = m ++ [(k, v)] := by
  induction m with
  | nil => rfl
  | cons p r ih => rw [setM, if_neg (h p List.mem_cons_self), ih fun q hq => h q (List.mem_cons_of_mem _ hq)]; rfl
theorem getM_at {m : List (κ × ν)} (hn : (m.map (·.1)).Nodup) {j : Nat} {k : κ} {v : ν} (h : m[j]? = some (k, v)) : getM m k = some v := by
  induction m generalizing j with
  | nil => simp at h
  | cons p r ih =>
    rw [List.map_cons, List.nodup_cons] at hn
    cases j with
    | zero =>
      simp only [List.getElem?_cons_zero, Option.some.injEq] at h
      rw [getM_cons, h, if_pos rfl]
    | succ j =>
      simp only [List.getElem?_cons_succ] at h
      have hm : (k, v) ∈ r := List.mem_of_getElem? h
      rw [getM_cons, if_neg, ih hn.2 h]
      intro e
      exact hn.1 (List.mem_map.2 ⟨_, hm, e.symm⟩)
theorem setM_at {m : List (κ × ν)} (hn : (m.map (·.1)).Nodup) {j : Nat} {k : κ} {v0 : ν} (v : ν) (h : m[j]? = some (k, v0)) : setM m k v = m.set j (k, v) := by
  induction m generalizing j with
  | nil => simp at h
  | cons p r ih =>
    rw [List.map_cons, List.nodup_cons] at hn
    cases j with
    | zero =>
      simp only [List.getElem?_cons_zero, Option.some.injEq] at h
      rw [setM, h, if_pos rfl]
      rfl
    | succ j =>
      simp only [List.getElem?_cons_succ] at h
      have hm : (k, v0) ∈ r := List.mem_of_getElem? h
      rw [setM, if_neg, ih hn.2 h]
      · rfl
      · intro e
        exact hn.1 (List.mem_map.2 ⟨_, hm, e.symm⟩)
end plain
structure KeyT (κ : Type) where
  K : TypeId
  kv : κ → Value
  law : KeyLaw Tryz.prog K
  ok : κ → Prop
  lit : ∀ k, ok k → ∃ l, keyOf Tryz.prog K (kv k) = some l
  inj : ∀ a b, kv a = kv b → a = b
section
variable {κ : Type} (T : KeyT κ)
def MapV (w : World) (b : Nat) (m : List (κ × Value)) : Prop :=
  ∃ es clock, w.heap[b]? = some (.map es clock) ∧ Stamped es clock ∧ es.toList.map (fun e => (e.key, e.val)) = m.map (fun p => (T.kv p.1, p.2)) ∧ ∀ p ∈ m, T.ok p.1
variable {T}
theorem MapV.lt {w : World} {b : Nat} {m : List (κ × Value)} (h : MapV T w b m) : b < w.heap.size := by
  obtain ⟨es, clock, hb, _⟩ := h
  exact (Array.getElem?_eq_some_iff.1 hb).1
theorem MapV.keep {w w' : World} {b : Nat} {m : List (κ × Value)} (h : MapV T w b m) (hk : w'.heap[b]? = w.heap[b]?) : MapV T w' b m := by
  obtain ⟨es, clock, hb, r⟩ := h
  exact ⟨es, clock, hk.trans hb, r⟩
theorem MapV.below {w w' : World} {b : Nat} {m : List (κ × Value)} (h : MapV T w b m) (hb : Below w.heap.size w w') : MapV T w' b m := h.keep (hb.block b h.lt)
theorem MapV.alloc {w : World} {b : Nat} {m : List (κ × Value)} (h : MapV T w b m) (o : Obj) : MapV T (w.alloc o) b m := h.below ((Below.refl _ _).alloc (Nat.le_refl _) _)
theorem MapV.nodup {w : World} {b : Nat} {m : List (κ × Value)} (h : MapV T w b m) : (m.map (·.1)).Nodup := by
  obtain ⟨es, clock, hb, hs, hm, _⟩ := h
  have h1 : (es.toList.map (·.key)) = m.map fun p => T.kv p.1 := by
    have := congrArg (List.map Prod.fst) hm
    simpa [List.map_map, Function.comp_def] using this
  have h2 := hs.2.2
  rw [h1] at h2
  unfold List.Nodup at *
  rw [List.pairwise_map] at h2 ⊢
  exact h2.imp fun hne e => hne (by rw [e])
section
variable {w : World} {b : Nat} {m : List (κ × Value)} {t e : TypeId}
theorem MapV.find (h : MapV T w b m) {k : κ} (hk : T.ok k) : ∃ es clock, w.heap[b]? = some (.map es clock) ∧ Stamped es clock ∧ es.toList.map (fun e => (e.key, e.val)) = m.map (fun p => (T.kv p.1, p.2)) ∧ (∀ p ∈ m, T.ok p.1) ∧
    (((Instr.findKey T.K (T.kv k) es.toList).run Tryz.prog w = .ok none w ∧ (∀ x ∈ es.toList, x.key ≠ T.kv k) ∧ ∀ p ∈ m, p.1 ≠ k) ∨
     ∃ j e0, (Instr.findKey T.K (T.kv k) es.toList).run Tryz.prog w = .ok (some (j, e0.val)) w ∧ es.toList[j]? = some e0 ∧ e0.key = T.kv k ∧ m[j]? = some (k, e0.val)) := by
  obtain ⟨es, clock, hb, hs, hm, hok⟩ := h
  refine ⟨es, clock, hb, hs, hm, hok, ?_⟩
  obtain ⟨l, hl⟩ := T.lit k hk
  have hkeys : ∀ x ∈ es.toList, ∃ l, keyOf Tryz.prog T.K x.key = some l := by
    intro x hx
    have : (x.key, x.val) ∈ m.map (fun p => (T.kv p.1, p.2)) := by rw [← hm]; exact List.mem_map.2 ⟨x, hx, rfl⟩
    obtain ⟨p, hp, he⟩ := List.mem_map.1 this
    injection he with he _
    rw [← he]
    exact T.lit p.1 (hok p hp)
  rcases T.law.find w hl es.toList hkeys with ⟨h1, h2⟩ | ⟨j, e0, h1, h2, h3⟩
  · left
    refine ⟨h1, h2, fun p hp e => ?_⟩
    have : (T.kv p.1, p.2) ∈ es.toList.map (fun e => (e.key, e.val)) := by rw [hm]; exact List.mem_map.2 ⟨p, hp, rfl⟩
    obtain ⟨x, hx, he⟩ := List.mem_map.1 this
    injection he with he _
    exact h2 x hx (by rw [he, e])
  · right
    refine ⟨j, e0, h1, h2, h3, ?_⟩
    have hj := congrArg (fun l => l[j]?) hm
    simp only [List.getElem?_map, h2, Option.map_some] at hj
    cases hmj : m[j]? with
    | none => rw [hmj] at hj; cases hj
    | some p =>
      rw [hmj] at hj
      simp only [Option.map_some, Option.some.injEq, Prod.mk.injEq] at hj
      obtain ⟨pk, pv⟩ := p
      have : k = pk := T.inj _ _ (by rw [← h3]; exact hj.1)
      rw [this, hj.2]
theorem MapV.look [DecidableEq κ] (h : MapV T w b m) (ht : Tryz.prog.underlying t = some (.map T.K e)) {z : Value} (hz : (zeroValue e).run Tryz.prog w = .ok z w) {k : κ} (hk : T.ok k) (c : Bool) :
    (Instr.lookup t (.map (some b)) (T.kv k) c).run Tryz.prog w = .ok (if c then .tuple #[(getM m k).getD z, .bool (getM m k).isSome] else (getM m k).getD z) w := by
  obtain ⟨l, hl⟩ := T.lit k hk
  have hnd := h.nodup
  obtain ⟨es, clock, hb, hs, hm, hok, h1 | h1⟩ := h.find hk
  · obtain ⟨h1, h2, h3⟩ := h1
    rw [getM_none h3]
    simp [Instr.lookup, Go.run_underlying ht, MapKept.run_getObj_map hb, T.law.check w _ hl, h1, hz, Result.andThen]
  · obtain ⟨j, e0, h1, h2, h3, h4⟩ := h1
    rw [getM_at hnd h4]
    simp [Instr.lookup, Go.run_underlying ht, MapKept.run_getObj_map hb, T.law.check w _ hl, h1, Result.andThen]
theorem MapV.update [DecidableEq κ] (h : MapV T w b m) (ht : Tryz.prog.underlying t = some (.map T.K e)) {k : κ} (hk : T.ok k) (v : Value) :
    ∃ w', (Instr.mapUpdate t (.map (some b)) (T.kv k) v).run Tryz.prog w = .ok () w' ∧ MapV T w' b (setM m k v) ∧ w.grownBy w' (some b) := by
  obtain ⟨l, hl⟩ := T.lit k hk
  have hnd := h.nodup
  have hg : ∀ (es clock es' clock'), w.heap[b]? = some (.map es clock) → w.grownBy (setBlock w b (.map es' clock')) (some b) := fun es clock es' clock' hb =>
    ⟨rfl, rfl, rfl, by simp [setBlock], fun i _ hi => heap_setBlock_other hb _ (fun e => hi (by rw [e]))⟩
  obtain ⟨es, clock, hb, hs, hm, hok, h1 | h1⟩ := h.find hk
  · obtain ⟨h1, h2, h3⟩ := h1
    refine ⟨setBlock w b (.map (es.push ⟨T.kv k, v, clock⟩) (clock + 1)), ?_, ?_, hg _ _ _ _ hb⟩
    · simp [Instr.mapUpdate, Go.run_underlying ht, MapKept.run_getObj_map hb, T.law.check w false hl, h1, MapKept.run_setObj_map _ hb, Result.andThen, setBlock]
    · refine ⟨_, _, heap_setBlock_same hb _, stamped_push hs h2, ?_, ?_⟩
      · rw [setM_none v h3, Array.toList_push, List.map_append, List.map_append, hm]; rfl
      · rw [setM_none v h3]
        intro p hp
        rcases List.mem_append.1 hp with hp | hp
        · exact hok p hp
        · rw [List.mem_singleton.1 hp]; exact hk
  · obtain ⟨j, e0, h1, h2, h3, h4⟩ := h1
    have hj : es[j]? = some e0 := by simpa using h2
    refine ⟨setBlock w b (.map (es.modify j (fun e' => { e' with key := T.kv k, val := v })) clock), ?_, ?_, hg _ _ _ _ hb⟩
    · simp [Instr.mapUpdate, Go.run_underlying ht, MapKept.run_getObj_map hb, T.law.check w false hl, h1, hj, h3, T.law.stays w hl, MapKept.run_setObj_map _ hb, Result.andThen, setBlock]
    · refine ⟨_, _, heap_setBlock_same hb _, stamped_modify hs _ _ (fun _ _ => rfl) (fun e' _ he' => by rw [hj] at he'; cases he'; exact h3.symm), ?_, ?_⟩
      · rw [setM_at hnd v h4, Array.toList_modify, Go.ChangeMaps.modify_eq_set _ _ _ _ h2, List.map_set, List.map_set, hm]
      · rw [setM_at hnd v h4]
        intro p hp
        rcases List.mem_or_eq_of_mem_set hp with hp | rfl
        · exact hok p hp
        · exact hk
theorem MapV.entry [DecidableEq κ] (h : MapV T w b m) (ht : Tryz.prog.underlying t = some (.map T.K e)) {z : Value} (hz : ∀ u : World, (zeroValue e).run Tryz.prog u = .ok z u) {k : κ} (hk : T.ok k) :
    ∃ (st : Nat) (w1 : World), (Instr.mapEntry t (.map (some b)) (T.kv k)).run Tryz.prog w = .ok (.tuple #[(getM m k).getD z, goInt st]) w1 ∧ w.grownBy w1 (some b) ∧ MapV T w1 b (setM m k ((getM m k).getD z)) ∧
      ∀ (w2 : World) (v : Value), w2.heap[b]? = w1.heap[b]? → ∃ w3, (Instr.entryStore t (.map (some b)) (goInt st) v).run Tryz.prog w2 = .ok () w3 ∧ MapV T w3 b (setM m k v) ∧ w2.grownBy w3 (some b) := by
  obtain ⟨l, hl⟩ := T.lit k hk
  have hnd := h.nodup
  have hg : ∀ (w : World) (es clock es' clock'), w.heap[b]? = some (.map es clock) → w.grownBy (setBlock w b (.map es' clock')) (some b) := fun w es clock es' clock' hb =>
    ⟨rfl, rfl, rfl, by simp [setBlock], fun i _ hi => heap_setBlock_other hb _ (fun e => hi (by rw [e]))⟩
  obtain ⟨es, clock, hb, hs, hm, hok, h1 | h1⟩ := h.find hk
  · obtain ⟨h1, h2, h3⟩ := h1
    have hmk : ∀ v : Value, ∀ (w2 : World), w2.heap[b]? = some (.map (es.push ⟨T.kv k, v, clock⟩) (clock + 1)) → MapV T w2 b (setM m k v) := by
      intro v w2 hb2
      refine ⟨_, _, hb2, stamped_push hs h2, ?_, ?_⟩
      · rw [setM_none v h3, Array.toList_push, List.map_append, List.map_append, hm]; rfl
      · rw [setM_none v h3]
        intro p hp
        rcases List.mem_append.1 hp with hp | hp
        · exact hok p hp
        · rw [List.mem_singleton.1 hp]; exact hk
    rw [getM_none h3]
    simp only [Option.getD_none]
    refine ⟨clock, setBlock w b (.map (es.push ⟨T.kv k, z, clock⟩) (clock + 1)), ?_, hg _ _ _ _ _ hb, hmk z _ (heap_setBlock_same hb _), fun w2 v hw2 => ?_⟩
    · simp [Instr.mapEntry, Go.run_underlying ht, MapKept.run_getObj_map hb, T.law.check w false hl, h1, hz, MapKept.run_setObj_map _ hb, Result.andThen, setBlock]
    · rw [heap_setBlock_same hb] at hw2
      have hst := (stamped_push (val := z) hs h2)
      have hidx : (es.push ⟨T.kv k, z, clock⟩).findIdx? (fun e => ((e.born : Nat) : Int) == ((clock : Nat) : Int)) = some es.size := by
        rw [WideElems.findIdx_arr]
        have := WideElems.findIdx_born (l := (es.push ⟨T.kv k, z, clock⟩).toList) (j := es.size) (e0 := ⟨T.kv k, z, clock⟩) hst.2.1 (by simp)
        exact this
      have hmod : (es.push ⟨T.kv k, z, clock⟩).modify es.size (fun e => { e with val := v }) = es.push ⟨T.kv k, v, clock⟩ := by
        apply Array.ext'
        rw [Array.toList_modify, Array.toList_push, Array.toList_push, ← Array.length_toList, WideElems.modify_last]
      refine ⟨setBlock w2 b (.map (es.push ⟨T.kv k, v, clock⟩) (clock + 1)), ?_, hmk v _ (heap_setBlock_same hw2 _), hg _ _ _ _ _ hw2⟩
      simp [Instr.entryStore, MapKept.run_getObj_map hw2, asInt, asIntOf, goInt, hidx, hmod, MapKept.run_setObj_map _ hw2, Result.andThen, setBlock]
  · obtain ⟨j, e0, h1, h2, h3, h4⟩ := h1
    have hj : es[j]? = some e0 := by simpa using h2
    have hsame : es.modify j (fun e => { e with key := T.kv k }) = es := by
      apply Array.ext'
      rw [Array.toList_modify, Go.ChangeMaps.modify_eq_set _ _ _ _ h2]
      have : ({ e0 with key := T.kv k } : MapEntry) = e0 := by rw [← h3]
      rw [this]
      exact WideElems.set_self _ _ _ h2
    have hset : setM m k e0.val = m := by
      rw [setM_at hnd e0.val h4]
      exact WideElems.set_self _ _ _ h4
    rw [getM_at hnd h4]
    simp only [Option.getD_some]
    refine ⟨e0.born, setBlock w b (.map es clock), ?_, hg _ _ _ _ _ hb, ?_, fun w2 v hw2 => ?_⟩
    · simp [Instr.mapEntry, Go.run_underlying ht, MapKept.run_getObj_map hb, T.law.check w false hl, h1, hj, h3, T.law.stays w hl, hsame, MapKept.run_setObj_map _ hb, Result.andThen, setBlock]
    · rw [hset]
      exact ⟨es, clock, heap_setBlock_same hb _, hs, hm, hok⟩
    · rw [heap_setBlock_same hb] at hw2
      have hidx : es.findIdx? (fun e => ((e.born : Nat) : Int) == ((e0.born : Nat) : Int)) = some j := by
        rw [WideElems.findIdx_arr]
        exact WideElems.findIdx_born hs.2.1 h2
      refine ⟨setBlock w2 b (.map (es.modify j (fun e' => { e' with val := v })) clock), ?_, ?_, hg _ _ _ _ _ hw2⟩
      · simp [Instr.entryStore, MapKept.run_getObj_map hw2, asInt, asIntOf, goInt, hidx, MapKept.run_setObj_map _ hw2, Result.andThen, setBlock]
      · refine ⟨_, _, heap_setBlock_same hw2 _, stamped_modify hs _ _ (fun _ _ => rfl) (fun e' _ he' => rfl), ?_, ?_⟩
        · rw [setM_at hnd v h4, Array.toList_modify, Go.ChangeMaps.modify_eq_set _ _ _ _ h2, List.map_set, List.map_set, hm, h3]
        · rw [setM_at hnd v h4]
          intro p hp
          rcases List.mem_or_eq_of_mem_set hp with hp | rfl
          · exact hok p hp
          · exact hk
theorem MapV.len (h : MapV T w b m) (ht : Tryz.prog.underlying t = some (.map T.K e)) (ty : TypeId) : (Builtin.len_ #[t] ty #[.map (some b)]).run Tryz.prog w = .ok (.int .i64 m.length) w := by
  obtain ⟨es, clock, hb, hs, hm, _⟩ := h
  have hl : es.size = m.length := by have := congrArg List.length hm; simpa using this
  simp [Builtin.len_, Go.run_underlying ht, MapKept.run_getObj_map hb, goInt, Result.andThen, hl]
end
end
end Go.Proofs.YtpeamehplhpcjaaGreatDoor
namespace Go.Proofs.YtpeamehplhpcjaaGreatDoor
open Go.RowKit Go.ChangeShapes Go.WideShapes
section
variable {κ : Type} [DecidableEq κ] {T : KeyT κ} {ops : Array Oper} {rest : List Oper} {o : Oper} {a : Act} {Q : Exit → Act → World → Prop} {w : World} {b : Nat} {m : List (κ × Value)} {t e : TypeId}
theorem wpList_lookVok (hg : o.guard = none) (x y : Operand) (hop : o.op = Op.lookup t x y true) (ht : Tryz.prog.underlying t = some (.map T.K e)) {z : Value} (hz : (zeroValue e).run Tryz.prog w = .ok z w) (hx : a.eval x = .map (some b)) (k : κ) (hy : a.eval y = T.kv k) (hm : MapV T w b m) (hk : T.ok k) {r : Option Value} (hr : getM m k = r) (u : Value) (hu : r.getD z = u) (c : Bool) (hc : r.isSome = c)
    (h : wpList Tryz.prog ops Q rest (a.put o.dst (.tuple #[u, .bool c])) w) : wpList Tryz.prog ops Q (o :: rest) a w := by
  refine wpList_plain hg fun K' hK' => ?_
  have hrun := hm.look ht hz hk true
  rw [hr, hu, hc] at hrun
  unfold Oper.wp
  simp [execOp, hop, hx, hy, hrun, Result.andThen]
  exact hK' _ _ h
theorem wpList_updV (hg : o.guard = none) (x y z : Operand) (hop : o.op = Op.mapUpdate t x y z) (ht : Tryz.prog.underlying t = some (.map T.K e)) (hx : a.eval x = .map (some b)) (k : κ) (hy : a.eval y = T.kv k) (v : Value) (hz : a.eval z = v) (hm : MapV T w b m) (hk : T.ok k)
    (h : ∀ w', MapV T w' b (setM m k v) → w.grownBy w' (some b) → wpList Tryz.prog ops Q rest (a.put o.dst undef) w') : wpList Tryz.prog ops Q (o :: rest) a w := by
  refine wpList_plain hg fun K' hK' => ?_
  obtain ⟨w', hrun, r1, r2⟩ := hm.update ht hk v
  unfold Oper.wp
  simp [execOp, hop, hx, hy, hz, hrun, Result.andThen]
  exact hK' _ _ (h w' r1 r2)
end
section
variable {κ : Type} [DecidableEq κ] {T : KeyT κ} {ops : Array Oper} {o : Oper} {a : Act} {K : Act → World → Prop} {Q : Exit → Act → World → Prop} {E : Prop} {w : World} {b : Nat} {m : List (κ × Value)} {t e : TypeId}
theorem step_updV (hgd : o.guard = none) (x y z : Operand) (hop : o.op = Op.mapUpdate t x y z) (ht : Tryz.prog.underlying t = some (.map T.K e)) (hx : a.eval x = .map (some b)) (k : κ) (hy : a.eval y = T.kv k) (v : Value) (hz : a.eval z = v) (hm : MapV T w b m) (hk : T.ok k)
    (h : ∀ w', MapV T w' b (setM m k v) → w.grownBy w' (some b) → K (a.put o.dst undef) w') : if Region.wanted o (yielded ops a.tmps) = true then Oper.wp Tryz.prog o a w K Q else E := by
  have hw : Region.wanted o (yielded ops a.tmps) = true := by simp [Region.wanted, hgd]
  rw [if_pos hw]
  obtain ⟨w', hrun, r1, r2⟩ := hm.update ht hk v
  unfold Oper.wp
  simp [execOp, hop, hx, hy, hz, hrun, Result.andThen]
  exact h w' r1 r2
end
def TS : KeyT Bs where
  K := 9
  kv := fun s => .string ⟨s.toArray⟩
  law := WideMaps.string_law Tryz.underlying9
  ok := fun s => s.length ≤ 9223372036854775807
  lit := fun s hs => ⟨_, WideMaps.keyOf_string_mk Tryz.underlying9 (s := ⟨s.toArray⟩) (by simpa [ByteArray.size, maxLen] using hs)⟩
  inj := fun a b h => by
    injection h with h
    injection h with h
    simpa using congrArg Array.toList h
end Go.Proofs.YtpeamehplhpcjaaGreatDoor
namespace Go.Proofs.YtpeamehplhpcjaaGreatDoor
open Go.RowKit Go.ChangeShapes Go.WideShapes Go.MapKept Go.ChangeMaps
section
variable {κ : Type} [DecidableEq κ] {T : KeyT κ} {w : World} {b : Nat} {m : List (κ × Value)} {t e : TypeId}
theorem delM_none {m : List (κ × Value)} {k : κ} (h : ∀ p ∈ m, p.1 ≠ k) : delM m k = m := by
  unfold delM
  rw [List.filter_eq_self]
  intro p hp
  simpa using h p hp
theorem delM_at {m : List (κ × Value)} (hn : (m.map (·.1)).Nodup) {j : Nat} {k : κ} {v : Value} (h : m[j]? = some (k, v)) : delM m k = m.eraseIdx j := by
  induction m generalizing j with
  | nil => simp at h
  | cons p r ih =>
    rw [List.map_cons, List.nodup_cons] at hn
    cases j with
    | zero =>
      simp only [List.getElem?_cons_zero, Option.some.injEq] at h
      subst h
      have : delM r k = r := delM_none fun q hq e => hn.1 (List.mem_map.2 ⟨q, hq, e⟩)
      unfold delM at this ⊢
      simp [this]
    | succ j =>
      simp only [List.getElem?_cons_succ] at h
      have hp : p.1 ≠ k := fun e => hn.1 (List.mem_map.2 ⟨_, List.mem_of_getElem? h, e.symm⟩)
      have := ih hn.2 h
      unfold delM at this ⊢
      rw [List.filter_cons, if_pos (by simpa using hp), this]
      rfl
theorem MapV.del (h : MapV T w b m) (ht : Tryz.prog.underlying t = some (.map T.K e)) {k : κ} (hk : T.ok k) (ty : TypeId) :
    ∃ w', (Builtin.delete_ #[t, T.K] ty #[.map (some b), T.kv k]).run Tryz.prog w = .ok (.tuple #[]) w' ∧ MapV T w' b (delM m k) ∧ w.grownBy w' (some b) := by
  obtain ⟨l, hl⟩ := T.lit k hk
  have hnd := h.nodup
  have hg : ∀ (es clock es' clock'), w.heap[b]? = some (.map es clock) → w.grownBy (setBlock w b (.map es' clock')) (some b) := fun es clock es' clock' hb =>
    ⟨rfl, rfl, rfl, by simp [setBlock], fun i _ hi => heap_setBlock_other hb _ (fun e => hi (by rw [e]))⟩
  obtain ⟨es, clock, hb, hs, hm, hok, h1 | h1⟩ := h.find hk
  · obtain ⟨h1, h2, h3⟩ := h1
    refine ⟨setBlock w b (.map es clock), ?_, ?_, hg _ _ _ _ hb⟩
    · simp [Builtin.delete_, Go.run_underlying ht, MapKept.run_getObj_map hb, T.law.check w _ hl, h1, MapKept.run_setObj_map _ hb, Result.andThen, setBlock]
    · rw [delM_none h3]
      exact ⟨es, clock, heap_setBlock_same hb _, hs, hm, hok⟩
  · obtain ⟨j, e0, h1, h2, h3, h4⟩ := h1
    have hjl : j < es.toList.length := (List.getElem?_eq_some_iff.1 h2).1
    have hjs : j < es.size := by simpa using hjl
    have hsub : (es.eraseIdxIfInBounds j).toList = es.toList.eraseIdx j := by
      unfold Array.eraseIdxIfInBounds
      rw [dif_pos hjs]
      simp
    refine ⟨setBlock w b (.map (es.eraseIdxIfInBounds j) clock), ?_, ?_, hg _ _ _ _ hb⟩
    · simp [Builtin.delete_, Go.run_underlying ht, MapKept.run_getObj_map hb, T.law.check w _ hl, h1, MapKept.run_setObj_map _ hb, Result.andThen, setBlock]
    · rw [delM_at hnd h4]
      refine ⟨_, clock, heap_setBlock_same hb _, stamped_erase hs j, ?_, fun p hp => hok p ((List.eraseIdx_sublist _ _).subset hp)⟩
      have hem : ∀ {α β : Type} (f : α → β) (l : List α) (j : Nat), (l.eraseIdx j).map f = (l.map f).eraseIdx j := by
        intro α β f l
        induction l with
        | nil => intro j; rfl
        | cons a r ih => intro j; cases j with
                         | zero => rfl
                         | succ j => simp [ih]
      rw [hsub, hem, hem, hm]
end
end Go.Proofs.YtpeamehplhpcjaaGreatDoor
