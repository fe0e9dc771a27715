/- Query (package licitlaw54): a part of the proofs of its laws; see the law's own text, which comes last in 'order'. No conditions of its own. -/
import Derived.Lib.SliceRun
import Derived.Deep.Upon
import Derived.Test.YtkjoaodoioicpaaGreatDoorWA23
set_option linter.unusedVariables false
set_option linter.unusedSimpArgs false
namespace Go.Proofs.YtkjoaodoioicpaaGreatDoor
open Go.RowKit
structure RowC (w : World) (T : Nat → Prop) (g cap : Nat) (ys : List Rul) : Prop where
  cell : ∀ t, t < cap * 3 → (w.cell? ⟨g, t, none⟩).isSome = true ∧ w.frozen? ⟨g, t, none⟩ = false
  le : ys.length ≤ cap
  at_ : ∀ i (h : i < ys.length), ∃ A1 n1 c1 A2 n2 c2, w.cell? ⟨g, i * 3, none⟩ = some (.string ⟨ys[i].head.name.toArray⟩) ∧ w.cell? ⟨g, i * 3 + 1, none⟩ = some (.slice A1 n1 c1) ∧ w.cell? ⟨g, i * 3 + 2, none⟩ = some (.slice A2 n2 c2) ∧
    Sl w T A1 n1 c1 ys[i].head.args ∧ Sl w T A2 n2 c2 ys[i].body
theorem frz_same {w w' : World} {a : Addr} (h : w'.heap[a.block]? = w.heap[a.block]?) : w'.frozen? a = w.frozen? a := by
  simp only [World.frozen?, h]
theorem RowC.keep {w w' : World} {T : Nat → Prop} {g cap : Nat} {ys : List Rul} (h : RowC w T g cap ys) (hg : w'.heap[g]? = w.heap[g]?) (hT : ∀ k, k < w.heap.size → T k → w'.heap[k]? = w.heap[k]?) : RowC w' T g cap ys := by
  refine ⟨fun t ht => ⟨?_, ?_⟩, h.le, fun i hi => ?_⟩
  · rw [World.cell?_of_block (w := w) (w' := w') (a := ⟨g, t, none⟩) hg]; exact (h.cell t ht).1
  · rw [frz_same (w := w) (a := ⟨g, t, none⟩) hg]; exact (h.cell t ht).2
  · obtain ⟨A1, n1, c1, A2, n2, c2, h1, h2, h3, h4, h5⟩ := h.at_ i hi
    exact ⟨A1, n1, c1, A2, n2, c2, (World.cell?_of_block (w := w) (w' := w') (a := ⟨g, i * 3, none⟩) hg).trans h1, (World.cell?_of_block (w := w) (w' := w') (a := ⟨g, i * 3 + 1, none⟩) hg).trans h2, (World.cell?_of_block (w := w) (w' := w') (a := ⟨g, i * 3 + 2, none⟩) hg).trans h3, h4.keep hT, h5.keep hT⟩
theorem RowC.sl {w : World} {T : Nat → Prop} {g cap : Nat} {ys : List Rul} (h : RowC w T g cap ys) (hc : cap ≤ 9223372036854775807) : Sl w (fun k => T k ∨ k = g) (some ⟨g, 0, none⟩) ys.length cap ys := by
  refine ⟨rfl, h.le, hc, fun i hi => ?_⟩
  obtain ⟨A1, n1, c1, A2, n2, c2, h1, h2, h3, h4, h5⟩ := h.at_ i hi
  refine ⟨_, rfl, .inr rfl, fun j => (#[.string ⟨ys[i].head.name.toArray⟩, .slice A1 n1 c1, .slice A2 n2 c2] : Array Value).getD j undef, fun j hj => ?_, rfl, ⟨A1, n1, c1, rfl, h4.wide (fun _ _ h => .inl h) (by decide)⟩, A2, n2, c2, rfl, h5.wide (fun _ _ h => .inl h) (by decide)⟩
  have hj : j < 3 := hj
  rw [add_plain, Nat.zero_add]
  match j, hj with
  | 0, _ => exact h1
  | 1, _ => exact h2
  | 2, _ => exact h3
theorem RowC.set {w : World} {T : Nat → Prop} {g cap : Nat} {ys : List Rul} (h : RowC w T g cap ys) (hT : ∀ k, T k → k ≠ g) {a : Nat} (ha : a < ys.length) (v : Rul) {A1 : Option Addr} {n1 c1 : Nat} {A2 : Option Addr} {n2 c2 : Nat} (h1 : Sl w T A1 n1 c1 v.head.args) (h2 : Sl w T A2 n2 c2 v.body) :
    RowC (((w.setCell ⟨g, a * 3, none⟩ (.string ⟨v.head.name.toArray⟩)).setCell ⟨g, a * 3 + 1, none⟩ (.slice A1 n1 c1)).setCell ⟨g, a * 3 + 2, none⟩ (.slice A2 n2 c2)) T g cap (ys.set a v) := by
  have hle := h.le
  obtain ⟨u0, e0⟩ := Option.isSome_iff_exists.1 (h.cell (a * 3) (by omega)).1
  obtain ⟨u1, e1⟩ := Option.isSome_iff_exists.1 (h.cell (a * 3 + 1) (by omega)).1
  obtain ⟨u2, e2⟩ := Option.isSome_iff_exists.1 (h.cell (a * 3 + 2) (by omega)).1
  have hoff : ∀ t, t ≠ a * 3 → t ≠ a * 3 + 1 → t ≠ a * 3 + 2 → (((w.setCell ⟨g, a * 3, none⟩ (.string ⟨v.head.name.toArray⟩)).setCell ⟨g, a * 3 + 1, none⟩ (.slice A1 n1 c1)).setCell ⟨g, a * 3 + 2, none⟩ (.slice A2 n2 c2)).cell? ⟨g, t, none⟩ = w.cell? ⟨g, t, none⟩ := fun t t0 t1 t2 => by
    rw [World.cell?_setCell_other _ _ _ _ (by simp <;> omega), World.cell?_setCell_other _ _ _ _ (by simp <;> omega), World.cell?_setCell_other _ _ _ _ (by simp <;> omega)]
  have hc0 : (((w.setCell ⟨g, a * 3, none⟩ (.string ⟨v.head.name.toArray⟩)).setCell ⟨g, a * 3 + 1, none⟩ (.slice A1 n1 c1)).setCell ⟨g, a * 3 + 2, none⟩ (.slice A2 n2 c2)).cell? ⟨g, a * 3, none⟩ = some (.string ⟨v.head.name.toArray⟩) := by
    rw [World.cell?_setCell_other _ _ _ _ (by simp), World.cell?_setCell_other _ _ _ _ (by simp), World.cell?_setCell_same _ _ _ e0]
  have hc1 : (((w.setCell ⟨g, a * 3, none⟩ (.string ⟨v.head.name.toArray⟩)).setCell ⟨g, a * 3 + 1, none⟩ (.slice A1 n1 c1)).setCell ⟨g, a * 3 + 2, none⟩ (.slice A2 n2 c2)).cell? ⟨g, a * 3 + 1, none⟩ = some (.slice A1 n1 c1) := by
    rw [World.cell?_setCell_other _ _ _ _ (by simp), World.cell?_setCell_same _ _ _ (u := u1) (by rw [World.cell?_setCell_other _ _ _ _ (by simp)]; exact e1)]
  have hc2 : (((w.setCell ⟨g, a * 3, none⟩ (.string ⟨v.head.name.toArray⟩)).setCell ⟨g, a * 3 + 1, none⟩ (.slice A1 n1 c1)).setCell ⟨g, a * 3 + 2, none⟩ (.slice A2 n2 c2)).cell? ⟨g, a * 3 + 2, none⟩ = some (.slice A2 n2 c2) := by
    rw [World.cell?_setCell_same _ _ _ (u := u2) (by rw [World.cell?_setCell_other _ _ _ _ (by simp), World.cell?_setCell_other _ _ _ _ (by simp)]; exact e2)]
  have hb : ∀ k, k ≠ g → (((w.setCell ⟨g, a * 3, none⟩ (.string ⟨v.head.name.toArray⟩)).setCell ⟨g, a * 3 + 1, none⟩ (.slice A1 n1 c1)).setCell ⟨g, a * 3 + 2, none⟩ (.slice A2 n2 c2)).heap[k]? = w.heap[k]? := fun k hk =>
    (set_other _ _ _ _ _ hk).trans ((set_other _ _ _ _ _ hk).trans (set_other _ _ _ _ _ hk))
  refine ⟨fun t ht => ⟨?_, ?_⟩, by rw [List.length_set]; exact hle, fun i hi => ?_⟩
  · by_cases t0 : t = a * 3
    · rw [t0, hc0]; rfl
    · by_cases t1 : t = a * 3 + 1
      · rw [t1, hc1]; rfl
      · by_cases t2 : t = a * 3 + 2
        · rw [t2, hc2]; rfl
        · rw [hoff t t0 t1 t2]; exact (h.cell t ht).1
  · rw [World.frozen?_setCell, World.frozen?_setCell, World.frozen?_setCell]; exact (h.cell t ht).2
  · rw [List.length_set] at hi
    by_cases hia : a = i
    · subst hia
      rw [List.getElem_set_self]
      exact ⟨A1, n1, c1, A2, n2, c2, hc0, hc1, hc2, h1.keep fun k _ hk => hb k (hT k hk), h2.keep fun k _ hk => hb k (hT k hk)⟩
    · rw [List.getElem_set_ne hia]
      obtain ⟨B1, m1, d1, B2, m2, d2, r1, r2, r3, r4, r5⟩ := h.at_ i hi
      exact ⟨B1, m1, d1, B2, m2, d2, (hoff _ (by omega) (by omega) (by omega)).trans r1, (hoff _ (by omega) (by omega) (by omega)).trans r2, (hoff _ (by omega) (by omega) (by omega)).trans r3, r4.keep fun k _ hk => hb k (hT k hk), r5.keep fun k _ hk => hb k (hT k hk)⟩
theorem RowC.clear {w : World} {T : Nat → Prop} {g cap : Nat} {ys : List Rul} (h : RowC w T g cap ys) (hT : ∀ k, T k → k ≠ g ∧ k < w.heap.size) {a : Nat} (ha : a < ys.length) :
    ∃ vs : List Value, (∀ ty : TypeId, (Builtin.clear_ #[22] ty #[.slice (some ⟨g, a * 3, none⟩) (ys.length - a) (cap - a)]).run Tryz.prog w = .ok (.tuple #[]) (w.setCells g (a * 3) vs)) ∧ RowC (w.setCells g (a * 3) vs) T g cap (ys.take a) := by
  have hle := h.le
  have hz : ∀ w, (zeroValue 34).run Tryz.prog w = .ok (.agg #[.string ⟨#[]⟩, .slice none 0 0, .slice none 0 0]) w := fun w => by kernel_rfl
  obtain ⟨m, hm⟩ : ∃ m, ys.length - a = m + 1 := ⟨ys.length - a - 1, by omega⟩
  have hvl : (Builtin.zeroCells #[.string ⟨#[]⟩, .slice none 0 0, .slice none 0 0] (ys.length - a)).toList.length = (ys.length - a) * 3 := by simp [Builtin.zeroCells]
  have hv1 : ∀ v ∈ (Builtin.zeroCells #[.string ⟨#[]⟩, .slice none 0 0, .slice none 0 0] (ys.length - a)).toList, v.oneCell' = true := by
    intro v hv
    simp only [Builtin.zeroCells, Array.toList_map, List.mem_map] at hv
    obtain ⟨i, -, rfl⟩ := hv
    have : i % 3 < 3 := Nat.mod_lt _ (by decide)
    show (#[Value.string ⟨#[]⟩, Value.slice none 0 0, Value.slice none 0 0] : Array Value)[i % 3]!.oneCell' = true
    rcases (show i % 3 = 0 ∨ i % 3 = 1 ∨ i % 3 = 2 by omega) with h | h | h <;> rw [h] <;> rfl
  have hst := run_storeCells_cells (P := Tryz.prog) g (a * 3) (Builtin.zeroCells #[.string ⟨#[]⟩, .slice none 0 0, .slice none 0 0] (ys.length - a)).toList 0 w (fun j hj => (h.cell _ (by rw [hvl] at hj; omega)).1) (fun j hj => (h.cell _ (by rw [hvl] at hj; omega)).2) hv1
  simp only [Nat.add_zero] at hst
  have hstart : ∀ t, t < a * 3 → (w.setCells g (a * 3) (Builtin.zeroCells #[.string ⟨#[]⟩, .slice none 0 0, .slice none 0 0] (ys.length - a)).toList).cell? ⟨g, t, none⟩ = w.cell? ⟨g, t, none⟩ := fun t ht => World.cell?_setCells_out g _ _ w _ (fun _ _ => .inl ht)
  have hb : ∀ k, k < w.heap.size → k ≠ g → (w.setCells g (a * 3) (Builtin.zeroCells #[.string ⟨#[]⟩, .slice none 0 0, .slice none 0 0] (ys.length - a)).toList).heap[k]? = w.heap[k]? := fun k hk hne => World.heap_setCells_other w g _ _ hk hne
  refine ⟨(Builtin.zeroCells #[.string ⟨#[]⟩, .slice none 0 0, .slice none 0 0] (ys.length - a)).toList, ?_, fun t ht => ⟨?_, ?_⟩, by rw [List.length_take]; omega, fun i hi => ?_⟩
  · intro ty
    rw [hm] at hst ⊢
    simp [Builtin.clear_, run_underlying Tryz.underlying22, hz, hst, Value.cells]
  · by_cases h1 : t < a * 3
    · rw [hstart t h1]; exact (h.cell t ht).1
    · by_cases h2 : t < a * 3 + (ys.length - a) * 3
      · have := World.cell?_setCells_in g (Builtin.zeroCells #[.string ⟨#[]⟩, .slice none 0 0, .slice none 0 0] (ys.length - a)).toList (a * 3) w (fun j hj => (h.cell _ (by rw [hvl] at hj; omega)).1) (t - a * 3) (by rw [hvl]; omega)
        rw [show a * 3 + (t - a * 3) = t by omega] at this
        rw [this]; rfl
      · rw [World.cell?_setCells_out g _ _ w _ (fun _ _ => .inr (by rw [hvl]; simp only; omega))]; exact (h.cell t ht).1
  · rw [World.frozen?_setCells]; exact (h.cell t ht).2
  · rw [List.length_take] at hi
    rw [List.getElem_take]
    obtain ⟨B1, m1, d1, B2, m2, d2, r1, r2, r3, r4, r5⟩ := h.at_ i (by omega)
    exact ⟨B1, m1, d1, B2, m2, d2, (hstart _ (by omega)).trans r1, (hstart _ (by omega)).trans r2, (hstart _ (by omega)).trans r3, r4.keep fun k hk hk' => hb k hk (hT k hk').1, r5.keep fun k hk hk' => hb k hk (hT k hk').1⟩
theorem idxS_spec {α : Type} (p : α → Bool) : ∀ (xs : List α) (k : Nat), (idxS p xs k = -1 ∧ ∀ x ∈ xs, p x = false) ∨ ∃ i, ∃ h : i < xs.length, idxS p xs k = ((k + i : Nat) : Int) ∧ (∀ x ∈ xs.take i, p x = false) ∧ p xs[i] = true
  | [], _ => .inl ⟨rfl, fun _ h => nomatch h⟩
  | a :: r, k => by
    cases hp : p a
    · have e : idxS p (a :: r) k = idxS p r (k + 1) := by simp [idxS, hp]
      rw [e]
      rcases idxS_spec p r (k + 1) with ⟨h1, h2⟩ | ⟨i, hi, h1, h2, h3⟩
      · refine .inl ⟨h1, fun x hx => ?_⟩
        rcases List.mem_cons.1 hx with rfl | hx
        · exact hp
        · exact h2 x hx
      · refine .inr ⟨i + 1, by simp; omega, by rw [h1]; congr 1; omega, fun x hx => ?_, by simpa using h3⟩
        rw [List.take_succ_cons] at hx
        rcases List.mem_cons.1 hx with rfl | hx
        · exact hp
        · exact h2 x hx
    · exact .inr ⟨0, by simp, by simp [idxS, hp], by simp, by simpa using hp⟩
end Go.Proofs.YtkjoaodoioicpaaGreatDoor
namespace Go.Proofs.YtkjoaodoioicpaaGreatDoor
open Go.RowKit
theorem filter_all {α : Type} (p : α → Bool) (xs : List α) (h : ∀ x ∈ xs, p x = false) : xs.filter (fun x => !p x) = xs := List.filter_eq_self.2 fun x hx => by rw [h x hx]; rfl
theorem setCells_grown (g : Nat) : ∀ (vs : List Value) (o : Nat) (w : World), w.grownBy (w.setCells g o vs) (some g)
  | [], _, w => ⟨rfl, rfl, rfl, Nat.le_refl _, fun _ _ _ => rfl⟩
  | v :: r, o, w => by
    have h := setCells_grown g r (o + 1) (w.setCell ⟨g, o, none⟩ v)
    have h0 : w.grownBy (w.setCell ⟨g, o, none⟩ v) (some g) := ⟨rfl, rfl, rfl, by simp [World.setCell], fun k _ hne => set_other w g o v k (fun e => hne (by rw [e]))⟩
    exact grown_then h0 h
set_option maxRecDepth 100000 in
set_option maxHeartbeats 8000000 in
theorem delR_any (g cap : Nat) (xs : List Rul) (w : World) (T : Nat → Prop) (hT : ∀ k, T k → k ≠ g ∧ k < w.heap.size) (hg : g < w.heap.size) (hrow : RowC w T g cap xs) (hcap : cap ≤ 9223372036854775807)
    (F : Nat) (caps : Array Value) (hF : ∀ (args : Array Value) (w : World), (callFunc F args).run Tryz.prog w = .ok (.enter F args) w) (p : Rul → Bool)
    (hp : ∀ x ∈ xs, ∀ w1, w.grownBy w1 (some g) → ∀ S v, VRul w1 S v x → Calls Tryz.prog F (#[v] ++ caps) w1 fun e w2 => e = .returned (.bool (p x)) ∧ Below w1.heap.size w1 w2) :
    Calls Tryz.prog 57 #[.slice (some ⟨g, 0, none⟩) xs.length cap, .func (.func F) #[] caps] w fun e w' => ∃ m c', e = .returned (.slice (some ⟨g, 0, none⟩) m c') ∧ Sl w' (fun k => T k ∨ k = g) (some ⟨g, 0, none⟩) m c' (xs.filter fun x => !p x) ∧ w.grownBy w' (some g) := by
  have hsl := hrow.sl hcap
  have hle := hrow.le
  have hlI : xs.length ≤ 9223372036854775807 := by omega
  have hix := idxR_any (some ⟨g, 0, none⟩) xs.length cap w (fun k => T k ∨ k = g) xs hsl F caps hF p (fun x hx w1 hb1 v hv => hp x hx w1 ⟨hb1.os, hb1.tape, hb1.output, hb1.size, fun k hk _ => hb1.block k hk⟩ _ v hv)
  rcases idxS_spec p xs 0 with ⟨h1, h2⟩ | ⟨a0, ha0, h1, h2, h3⟩
  · rw [h1] at hix
    rw [filter_all p xs h2]
    have HIX := Lib.hid hix; have HSL := Lib.hid hsl
    clear hix hsl h1 h2 hrow hp hT
    go_enter Tryz.func57, Tryz.ntmps57
    go_wp2_with fail
    refine HIX.out.mono ?_
    rintro e w1 ⟨rfl, hb1⟩
    go_wp2_with fail
    refine bodyPost_ret (v := .slice (some ⟨g, 0, none⟩) xs.length cap) (by simp [results, Tryz.results57, go_sem]) rfl ?_
    exact ⟨_, _, rfl, HSL.out.below hb1, ⟨hb1.os, hb1.tape, hb1.output, hb1.size, fun k hk _ => hb1.block k hk⟩⟩
  · rw [h1, Nat.zero_add] at hix
    have hf0 : xs.take a0 = (xs.take (a0 + 1)).filter (fun x => !p x) := by
      rw [List.take_succ_eq_append_getElem ha0, List.filter_append, filter_all p _ h2]
      simp [h3]
    have HIX := Lib.hid hix; have HROW := Lib.hid hrow; have HP := Lib.hid hp; have HT := Lib.hid hT; have HF0 := Lib.hid hf0
    clear hix hsl h1 h2 h3 hrow hp hT hf0
    go_enter Tryz.func57, Tryz.ntmps57
    go_wp2_with fail
    refine HIX.out.mono ?_
    rintro e w1 ⟨rfl, hb1⟩
    have hg1 : w.grownBy w1 (some g) := ⟨hb1.os, hb1.tape, hb1.output, hb1.size, fun k hk _ => hb1.block k hk⟩
    have hr1 := HROW.out.keep (hb1.block g hg) fun k hk _ => hb1.block k hk
    have hne : ((a0 : Int) == -1) = false := by rw [beq_eq_false_iff_ne]; omega
    have HG1 := Lib.hid hg1; have HR1 := Lib.hid hr1
    clear hb1 hg1 hr1
    go_wp2_with fail
    go_loopw [5, 6] (fun o i wr => ∃ a j : Nat, o = .int .i64 a ∧ i = .int .i64 j ∧ a < j ∧ j ≤ xs.length ∧ ∃ ys : List Rul, ys.length = xs.length ∧ Hid (RowC wr T g cap ys ∧ ys.take a = (xs.take j).filter (fun x => !p x) ∧ ys.drop j = xs.drop j ∧ w.grownBy wr (some g))) (fun _ i _ => xs.length - (intOf i).toNat)
    case atStart => exact ⟨a0, a0 + 1, rfl, by go_num, by omega, by omega, xs, rfl, Lib.hid ⟨HR1.out, HF0.out, rfl, HG1.out⟩⟩
    case round =>
      obtain ⟨a, j, rfl, rfl, haj, hj, ys, hyl, hr⟩ := hrel
      obtain ⟨r1, r2, r3, r4⟩ := hr.out
      clear hr
      by_cases hlt : j < xs.length
      · have hyj : ys[j]'(by omega) = xs[j] := by
          have e1 : ys.drop j = ys[j]'(by omega) :: ys.drop (j + 1) := List.drop_eq_getElem_cons (by omega)
          have e2 : xs.drop j = xs[j] :: xs.drop (j + 1) := List.drop_eq_getElem_cons hlt
          rw [e1, e2] at r3
          injection r3
        have hyd : ys.drop (j + 1) = xs.drop (j + 1) := by
          have := congrArg (List.drop 1) r3
          simpa [List.drop_drop, Nat.add_comm] using this
        obtain ⟨A1, n1, c1, A2, n2, c2, g1, g2, g3, s1, s2⟩ := r1.at_ j (by omega)
        rw [hyj] at g1 s1 s2
        have hpj := HP.out _ (List.getElem_mem hlt)
        have hft : (xs.take (j + 1)).filter (fun x => !p x) = (xs.take j).filter (fun x => !p x) ++ if p xs[j] then [] else [xs[j]] := by
          rw [List.take_succ_eq_append_getElem hlt, List.filter_append]
          cases hq : p xs[j] <;> simp [hq]
        generalize xs[j] = x at *
        have q0 : (0 : Int) ≤ (j : Int) := by omega
        have q1 : (j : Int) < (xs.length : Int) := by omega
        have a0' : (0 : Int) ≤ (a : Int) := by omega
        have a1' : (a : Int) < (xs.length : Int) := by omega
        have hbw5 : w.grownBy (wr.alloc (.cells #[.string ⟨x.head.name.toArray⟩, .slice A1 n1 c1, .slice A2 n2 c2] 34)) (some g) := grown_then r4 (World.grownBy_alloc _ _ _)
        have hcf := hpj _ hbw5 _ (.agg #[.string ⟨x.head.name.toArray⟩, .slice A1 n1 c1, .slice A2 n2 c2]) ⟨A1, n1, c1, A2, n2, c2, rfl, s1.alloc _, s2.alloc _⟩
        generalize p x = px at *
        have hwr := r4.size
        have R1 := Lib.hid r1; have R2 := Lib.hid r2; have R4 := Lib.hid r4; have HYD := Lib.hid hyd; have HCF := Lib.hid hcf; have HFT := Lib.hid hft; have S1 := Lib.hid s1; have S2 := Lib.hid s2
        clear r1 r2 r3 r4 hyd hcf hft s1 s2 hpj hbw5 hyj
        go_wp2_with fail
        refine HCF.out.mono ?_
        rintro e w6 ⟨rfl, hb6⟩
        have hb6' : Below wr.heap.size wr w6 := boxed.trans (hb6.mono (by simp))
        have hx6 := keptBlk hb6 (blkAt wr (.cells #[.string ⟨x.head.name.toArray⟩, .slice A1 n1 c1, .slice A2 n2 c2] 34) rfl)
        have hg6 : w.grownBy w6 (some g) := grown_then R4.out ⟨hb6'.os, hb6'.tape, hb6'.output, hb6'.size, fun k hk _ => hb6'.block k hk⟩
        have hr6 := R1.out.keep (hb6'.block g (by omega)) fun k hk _ => hb6'.block k hk
        have s16 := S1.out.below hb6'
        have s26 := S2.out.below hb6'
        have hlt6 : wr.heap.size < w6.heap.size := (Array.getElem?_eq_some_iff.1 hx6).1
        have G6 := Lib.hid hg6; have R6 := Lib.hid hr6; have X6 := Lib.hid hx6; have S16 := Lib.hid s16; have S26 := Lib.hid s26
        clear hb6 hb6' hx6 hg6 hr6 s16 s26 g1 g2 g3
        cases px
        · have hle6 := R6.out.le
          obtain ⟨u0, e0⟩ := Option.isSome_iff_exists.1 (R6.out.cell (a * 3) (by omega)).1
          obtain ⟨u1, e1⟩ := Option.isSome_iff_exists.1 (R6.out.cell (a * 3 + 1) (by omega)).1
          obtain ⟨u2, e2⟩ := Option.isSome_iff_exists.1 (R6.out.cell (a * 3 + 2) (by omega)).1
          have z0 := (R6.out.cell (a * 3) (by omega)).2; have z1 := (R6.out.cell (a * 3 + 1) (by omega)).2; have z2 := (R6.out.cell (a * 3 + 2) (by omega)).2
          have k0 := (cell_blk X6.out 0).trans rfl; have k1 := (cell_blk X6.out 1).trans rfl; have k2 := (cell_blk X6.out 2).trans rfl
          go_wp2_with fail
          have hrs := R6.out.set (fun k hk => (HT.out k hk).1) (a := a) (by omega) x S16.out S26.out
          have hgs : w.grownBy (((w6.setCell ⟨g, a * 3, none⟩ (.string ⟨x.head.name.toArray⟩)).setCell ⟨g, a * 3 + 1, none⟩ (.slice A1 n1 c1)).setCell ⟨g, a * 3 + 2, none⟩ (.slice A2 n2 c2)) (some g) :=
            grown_then G6.out ⟨rfl, rfl, rfl, by simp [World.setCell], fun k hk hne => (set_other _ _ _ _ _ (fun e => hne (by rw [e]))).trans ((set_other _ _ _ _ _ (fun e => hne (by rw [e]))).trans (set_other _ _ _ _ _ (fun e => hne (by rw [e]))))⟩
          have hy1 : (ys.set a x).take (a + 1) = (xs.take (j + 1)).filter (fun x => !p x) := by
            rw [HFT.out, ← R2.out, List.take_succ_eq_append_getElem (by rw [List.length_set]; omega), List.getElem_set_self, List.take_set, List.set_eq_of_length_le (by rw [List.length_take]; omega)]
            rfl
          have hy2 : (ys.set a x).drop (j + 1) = xs.drop (j + 1) := by rw [List.drop_set_of_lt (by omega), HYD.out]
          have HR := Lib.hid (And.intro hrs (And.intro hy1 (And.intro hy2 hgs)))
          clear hrs hgs hy1 hy2 e0 e1 e2 z0 z1 z2 k0 k1 k2
          go_roundw
          case rel => exact ⟨a + 1, j + 1, by go_num, by go_num, by omega, by omega, ys.set a x, by rw [List.length_set]; exact hyl, HR⟩
          case measure => simp [intOf]; omega
        · have hy1 : ys.take a = (xs.take (j + 1)).filter (fun x => !p x) := by rw [HFT.out, ← R2.out]; simp
          have HR := Lib.hid (And.intro R6.out (And.intro hy1 (And.intro HYD.out G6.out)))
          clear hy1
          go_wp2_with fail
          go_roundw
          case rel => exact ⟨a, j + 1, by go_num, by go_num, by omega, by omega, ys, hyl, HR⟩
          case measure => simp [intOf]; omega
      · have hje : j = xs.length := by omega
        subst hje
        rw [List.take_length] at r2
        have haI : (0 : Int) ≤ (a : Int) := by omega
        have haL : (a : Int) ≤ (xs.length : Int) := by omega
        have hacap : (a : Int) ≤ (cap : Int) := by omega
        have hcapl : (xs.length : Int) ≤ (cap : Int) := by omega
        obtain ⟨vs, hcl, hrc⟩ := r1.clear (fun k hk => ⟨(HT.out k hk).1, Nat.lt_of_lt_of_le (HT.out k hk).2 r4.size⟩) (a := a) (by omega)
        rw [hyl] at hcl
        have R1 := Lib.hid r1; have R2 := Lib.hid r2; have R4 := Lib.hid r4; have HRC := Lib.hid hrc
        clear r1 r2 r3 r4 hrc
        go_wp2_with fail
        refine bodyPost_ret (v := .slice (some ⟨g, 0, none⟩) a cap) (by simp [results, Tryz.results57, go_sem]) rfl ?_
        have hfs := (HRC.out.sl hcap).cast (n' := a) (by rw [List.length_take]; omega)
        rw [R2.out] at hfs
        exact ⟨a, cap, rfl, hfs, grown_then R4.out (setCells_grown g vs (a * 3) wr)⟩
end Go.Proofs.YtkjoaodoioicpaaGreatDoor
namespace Go.Proofs.YtkjoaodoioicpaaGreatDoor
open Go.RowKit
structure StX (w0 : World) (pf pb kr kb kf kh km : Nat) (A : Option Addr) (n c : Nat) (B : Option Addr) (m d : Nat) (head : Atm) (Fb Ib : Nat → Prop) (Lb : List Atm) (most : Nat) (R : Nat → Prop) (w : World) (sf sh : List Atm) (Ff If Th : Nat → Prop) (Ah : Option Addr) (ch : Nat) : Prop where
  fr : BaseR w Ff If pf sf
  fbd : ∀ k, Ff k ∨ If k → k < w.heap.size
  hb : w.heap[kh]? = some (.cells #[.slice Ah sh.length ch] 23 (0, 0))
  ho : Own w Th w0.heap.size 31 Ah ch sh
  d1 : ∀ k, Ff k → k ≠ kh ∧ Ah.map Addr.block ≠ some k ∧ w0.heap.size ≤ k
  d2 : ∀ k, If k → k ≠ kh ∧ Ah.map Addr.block ≠ some k
  d3 : ∀ k, Th k → k < w.heap.size ∧ k ≠ kh ∧ Ah.map Addr.block ≠ some k ∧ ¬ Ff k ∧ w0.heap.size ≤ k
  d4 : Ah.map Addr.block ≠ some kh ∧ w0.heap.size ≤ kh ∧ pf ≠ kh ∧ Ah.map Addr.block ≠ some pf
  base : BaseR w Fb Ib pb Lb
  b1 : w.heap[kr]? = some (.cells #[.string ⟨head.name.toArray⟩, .slice A n c, .slice B m d] 34 (0, 0))
  b2 : w.heap[kb]? = some (.cells #[.pointer (some ⟨pb, 0, none⟩)] 65 (0, 0))
  b3 : w.heap[kf]? = some (.cells #[.pointer (some ⟨pf, 0, none⟩)] 65 (0, 0))
  b4 : w.heap[km]? = some (.cells #[.int .i64 most] 3 (0, 0))
  sl : Sl w R A n c head.args
  rd : ∀ k, (k = kr ∨ k = kb ∨ k = kf ∨ k = km ∨ R k ∨ Fb k ∨ Ib k ∨ k = pb) → k < w.heap.size ∧ ¬ Ff k ∧ k ≠ kh ∧ Ah.map Addr.block ≠ some k
  bel : Below w0.heap.size w0 w
section
variable {w0 : World} {pf pb kr kb kf kh km : Nat} {A : Option Addr} {n c : Nat} {B : Option Addr} {m d : Nat} {head : Atm} {Fb Ib : Nat → Prop} {Lb : List Atm} {most : Nat} {R : Nat → Prop} {w w' : World} {sf sh : List Atm} {Ff If Th : Nat → Prop} {Ah : Option Addr} {ch : Nat}
theorem StX.below (h : StX w0 pf pb kr kb kf kh km A n c B m d head Fb Ib Lb most R w sf sh Ff If Th Ah ch) (hb : Below w.heap.size w w') : StX w0 pf pb kr kb kf kh km A n c B m d head Fb Ib Lb most R w' sf sh Ff If Th Ah ch where
  fr := h.fr.below hb
  fbd := fun k hk => Nat.lt_of_lt_of_le (h.fbd k hk) hb.size
  hb := keptBlk hb h.hb
  ho := h.ho.below hb
  d1 := h.d1
  d2 := h.d2
  d3 := fun k hk => ⟨Nat.lt_of_lt_of_le (h.d3 k hk).1 hb.size, (h.d3 k hk).2⟩
  d4 := h.d4
  base := h.base.below hb
  b1 := keptBlk hb h.b1
  b2 := keptBlk hb h.b2
  b3 := keptBlk hb h.b3
  b4 := keptBlk hb h.b4
  sl := h.sl.below hb
  rd := fun k hk => ⟨Nat.lt_of_lt_of_le (h.rd k hk).1 hb.size, (h.rd k hk).2⟩
  bel := h.bel.trans (hb.mono h.bel.size)
theorem StX.added (h : StX w0 pf pb kr kb kf kh km A n c B m d head Fb Ib Lb most R w sf sh Ff If Th Ah ch) {F' I' : Nat → Prop} {sf' : List Atm} (hr : BaseR w' F' I' pf sf') (hg : Grw w w' Ff If F' I') : StX w0 pf pb kr kb kf kh km A n c B m d head Fb Ib Lb most R w' sf' sh F' I' Th Ah ch := by
  have hk : ∀ k, (k = kr ∨ k = kb ∨ k = kf ∨ k = km ∨ R k ∨ Fb k ∨ Ib k ∨ k = pb) → w'.heap[k]? = w.heap[k]? := fun k hk => hg.frm.block k (h.rd k hk).1 (h.rd k hk).2.1
  have hkh := (Array.getElem?_eq_some_iff.1 h.hb).1
  have hAl := fun k (e : Ah.map Addr.block = some k) => h.ho.lt k e
  have hs := h.bel.size
  refine ⟨hr, hg.b, (hg.frm.block kh hkh fun e => (h.d1 kh e).1 rfl).trans h.hb, h.ho.keep fun k hk' hT => hg.frm.block k hk' fun e => ?_, fun k hk' => ?_, fun k hk' => ?_, fun k hk' => ⟨Nat.lt_of_lt_of_le (h.d3 k hk').1 hg.frm.size, (h.d3 k hk').2.1, (h.d3 k hk').2.2.1, fun e => ?_, (h.d3 k hk').2.2.2.2⟩, h.d4, h.base.keep fun k _ hk' => hk k (by rcases hk' with e | e | e <;> simp [e]),
    (hk kr (by simp)).trans h.b1, (hk kb (by simp)).trans h.b2, (hk kf (by simp)).trans h.b3, (hk km (by simp)).trans h.b4, h.sl.keep fun k _ hr => hk k (by simp [hr]), fun k hk' => ⟨Nat.lt_of_lt_of_le (h.rd k hk').1 hg.frm.size, fun e => ?_, (h.rd k hk').2.2⟩,
    h.bel.trans (hg.frm.below hs fun i hi hF => by have := (h.d1 i hF).2.2; omega)⟩
  · rcases hT with hT | hT
    · exact (h.d3 k hT).2.2.2.1 e
    · exact (h.d1 k e).2.1 hT
  · rcases hg.f2 k hk' with e | e
    · exact h.d1 k e
    · exact ⟨by omega, fun e2 => by have := (hAl k e2).2; omega, by omega⟩
  · rcases hg.i2 k hk' with e | e
    · exact h.d2 k e
    · exact ⟨by omega, fun e2 => by have := (hAl k e2).2; omega⟩
  · rcases hg.f2 k e with e | e
    · exact (h.d3 k hk').2.2.2.1 e
    · have := (h.d3 k hk').1; omega
  · rcases hg.f2 k e with e | e
    · exact (h.rd k hk').2.1 e
    · have := (h.rd k hk').1; omega
theorem StX.app (h : StX w0 pf pb kr kb kf kh km A n c B m d head Fb Ib Lb most R w sf sh Ff If Th Ah ch) {J : Nat → Prop} (hJ : ∀ k, J k → k < w.heap.size ∧ k ≠ kh ∧ Ah.map Addr.block ≠ some k ∧ ¬ Ff k ∧ w0.heap.size ≤ k) (o : Obj) :
    Own (w.alloc o) (fun k => Th k ∨ J k) w0.heap.size 31 Ah ch sh ∧ (∀ k, J k → (fun k => Th k ∨ J k) k ∧ Ah.map Addr.block ≠ some k) ∧
    ∀ (y : Atm) (w2 : World) A' c', Own w2 (fun k => Th k ∨ J k) w0.heap.size 31 A' c' (sh ++ [y]) → (w.alloc o).grownBy w2 (Ah.map Addr.block) → (A'.map Addr.block = Ah.map Addr.block ∨ A'.map Addr.block = some (w.alloc o).heap.size) →
      StX w0 pf pb kr kb kf kh km A n c B m d head Fb Ib Lb most R (w2.setCell ⟨kh, 0, none⟩ (.slice A' (sh.length + 1) c')) sf (sh ++ [y]) Ff If (fun k => Th k ∨ J k) A' c' := by
  have hkh := (Array.getElem?_eq_some_iff.1 h.hb).1
  have hsz : (w.alloc o).heap.size = w.heap.size + 1 := by simp
  refine ⟨(h.ho.alloc o).wide fun k _ hk => .inl hk, fun k hk => ⟨.inr hk, (hJ k hk).2.2.1⟩, fun y w2 A' c' ho2 hg2 hat => ?_⟩
  have hz2 := hg2.size
  have hall : ∀ k, k < w.heap.size → k ≠ kh → Ah.map Addr.block ≠ some k → (w2.setCell ⟨kh, 0, none⟩ (.slice A' (sh.length + 1) c')).heap[k]? = w.heap[k]? := fun k hk hne hA => by
    rw [set_other _ _ _ _ _ hne, hg2.block k (by omega) (fun e => hA e.symm), Below.heap_alloc w o k hk]
  have hkh2 : w2.heap[kh]? = some (.cells #[.slice Ah sh.length ch] 23 (0, 0)) := by
    rw [hg2.block kh (by omega) (fun e => h.d4.1 e.symm), Below.heap_alloc w o kh hkh]; exact h.hb
  have hA' : ∀ k, k < w.heap.size → Ah.map Addr.block ≠ some k → A'.map Addr.block ≠ some k := fun k hk hA e => by
    rcases hat with hat | hat
    · exact hA (by rw [← hat]; exact e)
    · rw [hat] at e; injection e with e; omega
  have hk : ∀ k, (k = kr ∨ k = kb ∨ k = kf ∨ k = km ∨ R k ∨ Fb k ∨ Ib k ∨ k = pb) → (w2.setCell ⟨kh, 0, none⟩ (.slice A' (sh.length + 1) c')).heap[k]? = w.heap[k]? := fun k hk => hall k (h.rd k hk).1 (h.rd k hk).2.2.1 (h.rd k hk).2.2.2
  have hz3 : (w2.setCell ⟨kh, 0, none⟩ (.slice A' (sh.length + 1) c')).heap.size = w2.heap.size := by simp [World.setCell]
  refine ⟨h.fr.keep fun k hk' hF => ?_, fun k hk' => by have := h.fbd k hk'; omega, ?_, ho2.keep fun k _ hT => set_other _ _ _ _ _ ?_, fun k hk' => ⟨(h.d1 k hk').1, hA' k (h.fbd k (.inl hk')) (h.d1 k hk').2.1, (h.d1 k hk').2.2⟩, fun k hk' => ⟨(h.d2 k hk').1, hA' k (h.fbd k (.inr hk')) (h.d2 k hk').2⟩, fun k hk' => ?_,
    ⟨hA' kh hkh h.d4.1, h.d4.2.1, h.d4.2.2.1, hA' pf h.fr.lt h.d4.2.2.2⟩, h.base.keep fun k _ hk' => hk k (by rcases hk' with e | e | e <;> simp [e]), (hk kr (by simp)).trans h.b1, (hk kb (by simp)).trans h.b2, (hk kf (by simp)).trans h.b3, (hk km (by simp)).trans h.b4, h.sl.keep fun k _ hr => hk k (by simp [hr]),
    fun k hk' => ⟨by have := (h.rd k hk').1; omega, (h.rd k hk').2.1, (h.rd k hk').2.2.1, hA' k (h.rd k hk').1 (h.rd k hk').2.2.2⟩, ?_⟩
  · rcases hF with e | e | e
    · exact hall k hk' (h.d1 k e).1 (h.d1 k e).2.1
    · exact hall k hk' (h.d2 k e).1 (h.d2 k e).2
    · rw [e]; exact hall pf h.fr.lt h.d4.2.2.1 h.d4.2.2.2
  · rw [Blk.set w2 hkh2 0]
    simp
  · rcases hT with (hT | hT) | hT
    · exact (h.d3 k hT).2.1
    · exact (hJ k hT).2.1
    · intro e
      rw [e] at hT
      exact hA' kh hkh h.d4.1 hT
  · rcases hk' with hk' | hk'
    · have := h.d3 k hk'; exact ⟨by omega, this.2.1, hA' k this.1 this.2.2.1, this.2.2.2⟩
    · have := hJ k hk'; exact ⟨by omega, this.2.1, hA' k this.1 this.2.2.1, this.2.2.2⟩
  · have hb1 : Below w0.heap.size w0 (w.alloc o) := h.bel.alloc h.bel.size o
    exact (hb1.grown hg2 hb1.size (fun k hk => (h.ho.lt k hk).1)).setCell (p := ⟨kh, 0, none⟩) h.d4.2.1 _
end
end Go.Proofs.YtkjoaodoioicpaaGreatDoor
