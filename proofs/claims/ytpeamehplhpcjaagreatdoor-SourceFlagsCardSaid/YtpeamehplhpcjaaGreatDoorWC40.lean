/- A part of the proofs of the laws of one package; see the law's own text, which comes last in 'order'. No conditions of its own. -/
import Derived.Test.YtpeamehplhpcjaaGreatDoorWC30
import Derived.Test.YtpeamehplhpcjaaGreatDoorWC37
set_option linter.unusedVariables false
set_option linter.unusedSimpArgs false
namespace Go.Proofs.YtpeamehplhpcjaaGreatDoor
open Go.RowKit
def RowO (w : World) (e g cap : Nat) (ys : List Bs) : Prop := ∃ cur : Array Value, w.heap[g]? = some (.cells cur e (0, 0)) ∧ cur.size = cap ∧ ys.length ≤ cap ∧ cap ≤ 9223372036854775807 ∧ ∀ i (h : i < ys.length), cur[i]? = some (.string ⟨ys[i].toArray⟩)
section
variable {w w' : World} {e g cap base : Nat} {ys : List Bs}
theorem RowO.cell (h : RowO w e g cap ys) {i : Nat} (hi : i < ys.length) : w.cell? ⟨g, i, none⟩ = some (.string ⟨ys[i].toArray⟩) := by
  obtain ⟨cur, h1, h2, h3, h4, h5⟩ := h
  rw [cell_blk h1, h5 i hi]
theorem RowO.isS (h : RowO w e g cap ys) {t : Nat} (ht : t < cap) : (w.cell? ⟨g, t, none⟩).isSome = true := by
  obtain ⟨cur, h1, h2, h3, h4, h5⟩ := h
  rw [cell_blk h1, Array.getElem?_eq_getElem (by omega)]
  rfl
theorem RowO.frz (h : RowO w e g cap ys) (j : Nat) : w.frozen? ⟨g, j, none⟩ = false := by
  obtain ⟨cur, h1, -⟩ := h
  exact frz_blk h1 j
theorem RowO.lt (h : RowO w e g cap ys) : g < w.heap.size := by
  obtain ⟨cur, h1, -⟩ := h
  exact (Array.getElem?_eq_some_iff.1 h1).1
theorem RowO.le (h : RowO w e g cap ys) : ys.length ≤ cap ∧ cap ≤ 9223372036854775807 := by
  obtain ⟨cur, -, -, h3, h4, -⟩ := h
  exact ⟨h3, h4⟩
theorem RowO.keep (h : RowO w e g cap ys) (hk : w'.heap[g]? = w.heap[g]?) : RowO w' e g cap ys := by
  obtain ⟨cur, h1, h2⟩ := h
  exact ⟨cur, hk.trans h1, h2⟩
theorem RowO.set (h : RowO w e g cap ys) {a : Nat} (ha : a < ys.length) (s : Bs) : RowO (w.setCell ⟨g, a, none⟩ (.string ⟨s.toArray⟩)) e g cap (ys.set a s) := by
  obtain ⟨cur, h1, h2, h3, h4, h5⟩ := h
  refine ⟨_, Blk.set w h1 a _, by simpa using h2, by simpa using h3, h4, fun i hi => ?_⟩
  have hi' : i < ys.length := by simpa using hi
  rw [Array.getElem?_setIfInBounds, List.getElem_set]
  split
  · rw [if_pos (by omega)]
  · exact h5 i hi'
theorem RowO.take (h : RowO w e g cap ys) (a : Nat) : RowO w e g cap (ys.take a) := by
  obtain ⟨cur, h1, h2, h3, h4, h5⟩ := h
  refine ⟨cur, h1, h2, by rw [List.length_take]; omega, h4, fun i hi => ?_⟩
  rw [List.length_take] at hi
  rw [List.getElem_take]
  exact h5 i (by omega)
theorem setCells_blk {cs : Array Value} {t : TypeId} : ∀ (vs : List Value) (o : Nat) (w : World) (cs : Array Value), w.heap[g]? = some (.cells cs t (0, 0)) → ∃ cs' : Array Value, (w.setCells g o vs).heap[g]? = some (.cells cs' t (0, 0)) ∧ cs'.size = cs.size ∧
    (∀ j, j < o → cs'[j]? = cs[j]?) ∧ (∀ j (h : j < vs.length), o + j < cs.size → cs'[o + j]? = some vs[j])
  | [], o, w, cs, h => ⟨cs, h, rfl, fun _ _ => rfl, fun j hj => absurd hj (Nat.not_lt_zero _)⟩
  | v :: r, o, w, cs, h => by
    obtain ⟨cs', h1, h2, h3, h4⟩ := setCells_blk (cs := cs) r (o + 1) (w.setCell ⟨g, o, none⟩ v) _ (Blk.set w h o v)
    refine ⟨cs', h1, by simpa using h2, fun j hj => ?_, fun j hj ho => ?_⟩
    · rw [h3 j (by omega), Array.getElem?_setIfInBounds_ne (by omega)]
    · cases j with
      | zero =>
        rw [Nat.add_zero, h3 o (by omega), Array.getElem?_setIfInBounds_self_of_lt (by omega)]
        rfl
      | succ j =>
        have := h4 j (by simpa using hj) (by simp; omega)
        rw [show o + (j + 1) = o + 1 + j by omega, this]
        rfl
theorem grown_then {a b c : World} {k : Nat} (h : a.grownBy b (some k)) (h' : b.grownBy c (some k)) : a.grownBy c (some k) :=
  ⟨h'.os.trans h.os, h'.tape.trans h.tape, h'.output.trans h.output, Nat.le_trans h.size h'.size, fun i hi hn => (h'.block i (Nat.lt_of_lt_of_le hi h.size) hn).trans (h.block i hi hn)⟩
theorem setCells_grown (g : Nat) : ∀ (vs : List Value) (o : Nat) (w : World), w.grownBy (w.setCells g o vs) (some g)
  | [], _, w => ⟨rfl, rfl, rfl, Nat.le_refl _, fun _ _ _ => rfl⟩
  | v :: r, o, w => by
    have h := setCells_grown g r (o + 1) (w.setCell ⟨g, o, none⟩ v)
    have h0 : w.grownBy (w.setCell ⟨g, o, none⟩ v) (some g) := ⟨rfl, rfl, rfl, by simp [World.setCell], fun k _ hne => set_other w g o v k (fun e => hne (by rw [e]))⟩
    exact grown_then h0 h
theorem RowO.clear (h : RowO w 9 g cap ys) {a : Nat} (ha : a < ys.length) :
    ∃ vs : List Value, (∀ ty : TypeId, (Builtin.clear_ #[29] ty #[.slice (some ⟨g, a, none⟩) (ys.length - a) (cap - a)]).run Tryz.prog w = .ok (.tuple #[]) (w.setCells g a vs)) ∧ RowO (w.setCells g a vs) 9 g cap (ys.take a) := by
  have hle := h.le
  have hz : ∀ w, (zeroValue 9).run Tryz.prog w = .ok (.string ⟨#[]⟩) w := fun w => by kernel_rfl
  obtain ⟨m, hm⟩ : ∃ m, ys.length - a = m + 1 := ⟨ys.length - a - 1, by omega⟩
  have hvl : (Builtin.zeroCells #[.string ⟨#[]⟩] (ys.length - a)).toList.length = (ys.length - a) := by simp [Builtin.zeroCells]
  have hv1 : ∀ v ∈ (Builtin.zeroCells #[.string ⟨#[]⟩] (ys.length - a)).toList, v.oneCell' = true := by
    intro v hv
    simp only [Builtin.zeroCells, Array.toList_map, List.mem_map] at hv
    obtain ⟨i, -, rfl⟩ := hv
    show (#[Value.string ⟨#[]⟩] : Array Value)[i % 1]!.oneCell' = true
    rw [Nat.mod_one]
    rfl
  have hst := run_storeCells_cells (P := Tryz.prog) g a (Builtin.zeroCells #[.string ⟨#[]⟩] (ys.length - a)).toList 0 w (fun j hj => h.isS (by rw [hvl] at hj; omega)) (fun j hj => h.frz _) hv1
  simp only [Nat.add_zero] at hst
  refine ⟨(Builtin.zeroCells #[.string ⟨#[]⟩] (ys.length - a)).toList, ?_, ?_⟩
  · intro ty
    rw [hm] at hst ⊢
    simp [Builtin.clear_, run_underlying Tryz.underlying29, hz, hst, Value.cells]
  · obtain ⟨cur, h1, h2, h3, h4, h5⟩ := h
    obtain ⟨cs', k1, k2, k3, -⟩ := setCells_blk (cs := cur) (Builtin.zeroCells #[.string ⟨#[]⟩] (ys.length - a)).toList a w cur h1
    refine ⟨cs', k1, k2.trans h2, by rw [List.length_take]; omega, h4, fun i hi => ?_⟩
    rw [List.length_take] at hi
    rw [List.getElem_take, k3 i (by omega)]
    exact h5 i (by omega)
theorem RowO.own (h : RowO w e g cap ys) (hb : base ≤ g) : Own w (fun _ => False) base e (some ⟨g, 0, none⟩) cap ys := by
  obtain ⟨cur, h1, h2, h3, h4, h5⟩ := h
  refine ⟨cur.toList.take ys.length, ⟨by simp [GoT.size]; omega, .inr ⟨g, cap, cur, rfl, hb, h1, h3, by simpa [maxLen] using h4, by simpa [GoT.size] using h2, by simp [GoT.size]⟩⟩, fun i hi => ?_⟩
  show (cur.toList.take ys.length).getD (i * 1 + 0) undef = _
  rw [List.getD_eq_getElem?_getD, List.getElem?_take, if_pos (by omega), Array.getElem?_toList, show i * 1 + 0 = i by omega, h5 i hi]
  rfl
theorem Own.rowO {A : Option Addr} {T : Nat → Prop} (h : Own w T base e A cap ys) : (A = none ∧ ys = []) ∨ ∃ g, A = some ⟨g, 0, none⟩ ∧ base ≤ g ∧ RowO w e g cap ys := by
  obtain ⟨cs, ⟨hl, h2⟩, h3⟩ := h
  have hz : GoT.size Bs = 1 := rfl
  rcases h2 with ⟨hv, h0⟩ | ⟨g, cap', cur, hv, hb, hg, hn, hm, hcs, htk⟩
  · injection hv with hA
    exact .inl ⟨hA, List.eq_nil_of_length_eq_zero h0⟩
  · injection hv with hA hn' hc'
    subst hc'
    refine .inr ⟨g, hA, hb, cur, hg, by rw [hz] at hcs; omega, hn, by simpa [maxLen] using hm, fun i hi => ?_⟩
    have hr := h3 i hi
    rw [hz] at hl htk hr
    have hr : cs.getD (i * 1 + 0) undef = .string ⟨ys[i].toArray⟩ := hr
    have hlt : i < cs.length := by omega
    rw [List.getD_eq_getElem?_getD, show i * 1 + 0 = i by omega, List.getElem?_eq_getElem hlt, Option.getD_some] at hr
    rw [← hr]
    have h5 : cs[i]? = some cs[i] := List.getElem?_eq_getElem hlt
    rw [← h5]
    conv => rhs; rw [← htk]
    rw [List.getElem?_take, if_pos (by omega), Array.getElem?_toList]
end
theorem cloneO_any (A : Option Addr) (n c : Nat) (w : World) (S : Nat → Prop) (xs : List Bs) (hl : Sl w S A n c xs) (hN : n ≤ 1000000) :
    Calls Tryz.prog 28 #[.slice A n c] w fun e w' => ∃ A' c', e = .returned (.slice A' xs.length c') ∧ Own w' (fun _ => False) w.heap.size 9 A' c' xs ∧ Below w.heap.size w w' := by
  have hn := hl.len
  subst hn
  cases A with
  | none =>
    have hx : xs = [] := by
      rcases Nat.eq_zero_or_pos xs.length with h | h
      · exact List.eq_nil_of_length_eq_zero h
      · obtain ⟨ad, hA, _⟩ := hl.at_ h; cases hA
    subst hx
    refine (Tryz.slices_Clone_string_nil 0 c w).mono ?_
    rintro e w' ⟨rfl, rfl⟩
    exact ⟨none, 0, rfl, Own.nil _ _ _ _, Below.refl _ _⟩
  | some ad =>
    rcases Nat.eq_zero_or_pos xs.length with h | h
    · have hx := List.eq_nil_of_length_eq_zero h
      subst hx
      refine (Tryz.slices_Clone_string_zero ad c w).mono ?_
      rintro e w' ⟨v, rfl, hrow, -, hb⟩
      obtain ⟨A', c', rfl, ho⟩ := own_row (xs := []) hrow
      exact ⟨A', c', rfl, ho, hb⟩
    · obtain ⟨b, o, hA, -, -, -⟩ := hl.str h
      injection hA with hA
      subst hA
      have hcell : ∀ j, j < (xs.map fun x => (⟨x.toArray⟩ : ByteArray)).length → w.cell? ⟨b, o + j, none⟩ = some (.string ((xs.map fun x => (⟨x.toArray⟩ : ByteArray)).getD j ByteArray.empty)) := fun j hj => by
        rw [List.length_map] at hj
        obtain ⟨b', o', hA', -, -, hc⟩ := hl.str hj
        injection hA' with hA'
        injection hA' with e1 e2
        subst e1 e2
        rw [hc, List.getD_eq_getElem?_getD]
        simp [hj]
      refine (Tryz.slices_Clone_string b o xs.length c (xs.map fun x => ⟨x.toArray⟩) w (by simp) (by omega) hcell).mono ?_
      rintro e w' ⟨v, rfl, hrow, -, hb⟩
      have e1 : ((xs.map fun x => (⟨x.toArray⟩ : ByteArray)).take xs.length).map Value.string = xs.map fun x => Value.string ⟨x.toArray⟩ := by
        rw [List.take_of_length_le (by simp), List.map_map]; rfl
      rw [e1] at hrow
      obtain ⟨A', c', rfl, ho⟩ := own_row hrow
      exact ⟨A', c', rfl, ho, hb⟩
theorem reverse_any (A : Option Addr) (c : Nat) (w : World) (base : Nat) (xs : List Bs) (ho : Own w (fun _ => False) base 9 A c xs) :
    Calls Tryz.prog 29 #[.slice A xs.length c] w fun e w' => e = .returned (.tuple #[]) ∧ Own w' (fun _ => False) base 9 A c xs.reverse ∧ w.grownBy w' (A.map Addr.block) := by
  rcases ho.rowO with ⟨rfl, rfl⟩ | ⟨g, rfl, hb, hr⟩
  · refine (Tryz.slices_Reverse_string_empty none c w).mono ?_
    rintro e w' ⟨rfl, rfl⟩
    exact ⟨rfl, ho, ⟨rfl, rfl, rfl, Nat.le_refl _, fun _ _ _ => rfl⟩⟩
  · have hle := hr.le
    refine (Tryz.slices_Reverse_string_cells g 0 xs.length c (fun i => ⟨(xs.getD i []).toArray⟩) w (by omega) (fun i hi => ?_) (fun j _ => by rw [Nat.zero_add]; exact hr.frz j)).mono ?_
    · rw [Nat.zero_add, hr.cell hi, List.getD_eq_getElem?_getD, List.getElem?_eq_getElem hi]
      rfl
    · rintro e w' ⟨rfl, q, rfl⟩
      have hv : (Lib.strsOf (fun i => (⟨(xs.getD i []).toArray⟩ : ByteArray)) xs.length).reverse.map encStr = xs.reverse.map fun x => Value.string ⟨x.toArray⟩ := by
        have e1 : Lib.strsOf (fun i => (⟨(xs.getD i []).toArray⟩ : ByteArray)) xs.length = xs := by
          unfold Lib.strsOf
          refine List.ext_getElem (by simp) (fun i h1 h2 => ?_)
          simp [h2]
        rw [e1]
      rw [hv]
      refine ⟨rfl, ?_, (show w.grownBy _ (some g) from grown_then (b := w.drewN q) ⟨rfl, rfl, rfl, Nat.le_refl _, fun _ _ _ => rfl⟩ (setCells_grown g _ 0 (w.drewN q)))⟩
      obtain ⟨cur, h1, h2, h3, h4, h5⟩ := hr
      obtain ⟨cs', k1, k2, -, k4⟩ := setCells_blk (cs := cur) (xs.reverse.map fun x => Value.string ⟨x.toArray⟩) 0 (w.drewN q) cur h1
      refine RowO.own ⟨cs', k1, k2.trans h2, by simpa using h3, h4, fun i hi => ?_⟩ hb
      have := k4 i (by simpa using hi) (by rw [Nat.zero_add]; simp at hi; omega)
      rw [Nat.zero_add] at this
      rw [this]
      simp
end Go.Proofs.YtpeamehplhpcjaaGreatDoor
namespace Go.Proofs.YtpeamehplhpcjaaGreatDoor
open Go.RowKit
theorem idxS_spec {α : Type} (p : α → Bool) : ∀ (xs : List α) (k : Nat), (idxS p xs k = -1 ∧ ∀ x ∈ xs, p x = false) ∨ ∃ i, ∃ h : i < xs.length, idxS p xs k = ((k + i : Nat) : Int) ∧ (∀ x ∈ xs.take i, p x = false) ∧ p xs[i] = true
  | [], _ => .inl ⟨rfl, fun _ h => nomatch h⟩
  | a :: r, k => by
    cases hp : p a
    · have e : idxS p (a :: r) k = idxS p r (k + 1) := by simp [idxS, hp]
      rw [e]
      rcases idxS_spec p r (k + 1) with ⟨h1, h2⟩ | ⟨i, hi, h1, h2, h3⟩
      · refine .inl ⟨h1, fun x hx => ?_⟩
        rcases List.mem_cons.1 hx with rfl | hx
        · exact hp
        · exact h2 x hx
      · refine .inr ⟨i + 1, by simp; omega, by rw [h1]; congr 1; omega, fun x hx => ?_, by simpa using h3⟩
        rw [List.take_succ_cons] at hx
        rcases List.mem_cons.1 hx with rfl | hx
        · exact hp
        · exact h2 x hx
    · exact .inr ⟨0, by simp, by simp [idxS, hp], by simp, by simpa using hp⟩
theorem filter_all {α : Type} (p : α → Bool) (xs : List α) (h : ∀ x ∈ xs, p x = false) : xs.filter (fun x => !p x) = xs := List.filter_eq_self.2 fun x hx => by rw [h x hx]; rfl
set_option maxRecDepth 100000 in
set_option maxHeartbeats 8000000 in
theorem delB_any (A : Option Addr) (cap : Nat) (xs : List Bs) (w : World) (base : Nat) (ho : Own w (fun _ => False) base 9 A cap xs)
    (F : Nat) (caps : Array Value) (hF : ∀ (args : Array Value) (w : World), (callFunc F args).run Tryz.prog w = .ok (.enter F args) w) (p : Bs → Bool)
    (hp : ∀ x, ∀ w1, w.grownBy w1 (A.map Addr.block) → Calls Tryz.prog F (#[.string ⟨x.toArray⟩] ++ caps) w1 fun e w2 => e = .returned (.bool (p x)) ∧ Below w1.heap.size w1 w2) :
    Calls Tryz.prog 33 #[.slice A xs.length cap, .func (.func F) #[] caps] w fun e w' => e = .returned (.slice A (xs.filter fun x => !p x).length cap) ∧ Own w' (fun _ => False) base 9 A cap (xs.filter fun x => !p x) ∧ w.grownBy w' (A.map Addr.block) := by
  have hsl := ho.sl (by decide)
  have hix := idxB_any A xs.length cap w _ xs hsl F caps hF p (fun x hx w1 hb1 => hp x w1 ⟨hb1.os, hb1.tape, hb1.output, hb1.size, fun k hk _ => hb1.block k hk⟩)
  have hle := ho.cap
  rcases idxS_spec p xs 0 with ⟨h1, h2⟩ | ⟨a0, ha0, h1, h2, h3⟩
  · rw [h1] at hix
    rw [filter_all p xs h2]
    have HIX := Lib.hid hix; have HO := Lib.hid ho
    clear hix hsl h1 h2 ho hp
    go_enter Tryz.func33, Tryz.ntmps33
    go_wp2_with fail
    refine HIX.out.mono ?_
    rintro e w1 ⟨rfl, hb1⟩
    go_wp2_with fail
    refine bodyPost_ret (v := .slice A xs.length cap) (by simp [results, Tryz.results33, go_sem]) rfl ?_
    exact ⟨rfl, HO.out.below hb1, ⟨hb1.os, hb1.tape, hb1.output, hb1.size, fun k hk _ => hb1.block k hk⟩⟩
  · rw [h1, Nat.zero_add] at hix
    have hf0 : xs.take a0 = (xs.take (a0 + 1)).filter (fun x => !p x) := by
      rw [List.take_succ_eq_append_getElem ha0, List.filter_append, filter_all p _ h2]
      simp [h3]
    rcases ho.rowO with ⟨rfl, rfl⟩ | ⟨g, rfl, hbg, hrow⟩
    · simp at ha0
    · have hgl := hrow.lt
      have hp : ∀ x, ∀ w1, w.grownBy w1 (some g) → Calls Tryz.prog F (#[.string ⟨x.toArray⟩] ++ caps) w1 fun e w2 => e = .returned (.bool (p x)) ∧ Below w1.heap.size w1 w2 := hp
      obtain ⟨V, hV⟩ : ∃ V, V = xs.filter fun x => !p x := ⟨_, rfl⟩
      rw [← hV]
      show Calls Tryz.prog 33 _ w fun e w' => e = .returned (.slice (some ⟨g, 0, none⟩) V.length cap) ∧ Own w' (fun _ => False) base 9 (some ⟨g, 0, none⟩) cap V ∧ w.grownBy w' (some g)
      have HIX := Lib.hid hix; have HROW := Lib.hid hrow; have HP := Lib.hid hp; have HF0 := Lib.hid hf0; have HV := Lib.hid hV
      clear hix hsl h1 h2 h3 hrow hp hf0 ho hV
      go_enter Tryz.func33, Tryz.ntmps33
      go_wp2_with fail
      refine HIX.out.mono ?_
      rintro e w1 ⟨rfl, hb1⟩
      have hg1 : w.grownBy w1 (some g) := ⟨hb1.os, hb1.tape, hb1.output, hb1.size, fun k hk _ => hb1.block k hk⟩
      have hr1 := HROW.out.keep (hb1.block g hgl)
      have hne : ((a0 : Int) == -1) = false := by rw [beq_eq_false_iff_ne]; omega
      have HG1 := Lib.hid hg1; have HR1 := Lib.hid hr1
      clear hb1 hg1 hr1
      go_wp2_with fail
      go_loopw [5, 6] (fun o i wr => ∃ a j : Nat, o = .int .i64 a ∧ i = .int .i64 j ∧ a < j ∧ j ≤ xs.length ∧ ∃ ys : List Bs, ys.length = xs.length ∧ Hid (RowO wr 9 g cap ys ∧ ys.take a = (xs.take j).filter (fun x => !p x) ∧ ys.drop j = xs.drop j ∧ w.grownBy wr (some g))) (fun _ i _ => xs.length - (intOf i).toNat)
      case atStart => exact ⟨a0, a0 + 1, rfl, by go_num, by omega, by omega, xs, rfl, Lib.hid ⟨HR1.out, HF0.out, rfl, HG1.out⟩⟩
      case round =>
        obtain ⟨a, j, rfl, rfl, haj, hj, ys, hyl, hr⟩ := hrel
        obtain ⟨r1, r2, r3, r4⟩ := hr.out
        clear hr
        have HYL := Lib.hid hyl
        by_cases hlt : j < xs.length
        · have hyj : ys[j]'(by omega) = xs[j] := by
            have e1 : ys.drop j = ys[j]'(by omega) :: ys.drop (j + 1) := List.drop_eq_getElem_cons (by omega)
            have e2 : xs.drop j = xs[j] :: xs.drop (j + 1) := List.drop_eq_getElem_cons hlt
            rw [e1, e2] at r3
            injection r3
          have hyd : ys.drop (j + 1) = xs.drop (j + 1) := by
            have := congrArg (List.drop 1) r3
            simpa [List.drop_drop, Nat.add_comm] using this
          have g1 := r1.cell (i := j) (by omega)
          rw [hyj] at g1
          have hft : (xs.take (j + 1)).filter (fun x => !p x) = (xs.take j).filter (fun x => !p x) ++ if p xs[j] then [] else [xs[j]] := by
            rw [List.take_succ_eq_append_getElem hlt, List.filter_append]
            cases hq : p xs[j] <;> simp [hq]
          generalize xs[j] = x at *
          have q0 : (0 : Int) ≤ (j : Int) := by omega
          have q1 : (j : Int) < (xs.length : Int) := by omega
          have a0' : (0 : Int) ≤ (a : Int) := by omega
          have a1' : (a : Int) < (xs.length : Int) := by omega
          have hcf := HP.out x wr r4
          generalize p x = px at *
          have hwr := r4.size
          have R1 := Lib.hid r1; have R2 := Lib.hid r2; have R4 := Lib.hid r4; have HYD := Lib.hid hyd; have HCF := Lib.hid hcf; have HFT := Lib.hid hft
          clear r1 r2 r3 r4 hyd hcf hft hyj hyl
          go_wp2_with fail
          refine HCF.out.mono ?_
          rintro e w6 ⟨rfl, hb6⟩
          have hg6 : w.grownBy w6 (some g) := grown_then R4.out ⟨hb6.os, hb6.tape, hb6.output, hb6.size, fun k hk _ => hb6.block k hk⟩
          have hr6 := R1.out.keep (hb6.block g (by omega))
          have G6 := Lib.hid hg6; have R6 := Lib.hid hr6
          clear hb6 hg6 hr6 g1
          cases px
          · obtain ⟨u0, e0⟩ : ∃ u0, w6.cell? ⟨g, a, none⟩ = some u0 := ⟨_, R6.out.cell (i := a) (by have := HYL.out; omega)⟩
            have z0 := R6.out.frz a
            go_wp2_with fail
            have hyl := HYL.out
            have hrs := R6.out.set (a := a) (by omega) x
            have hgs : w.grownBy (w6.setCell ⟨g, a, none⟩ (.string ⟨x.toArray⟩)) (some g) :=
              grown_then G6.out ⟨rfl, rfl, rfl, by simp [World.setCell], fun k hk hne => set_other _ _ _ _ _ (fun e => hne (by rw [e]))⟩
            have hy1 : (ys.set a x).take (a + 1) = (xs.take (j + 1)).filter (fun x => !p x) := by
              rw [HFT.out, ← R2.out, List.take_succ_eq_append_getElem (by rw [List.length_set]; omega), List.getElem_set_self, List.take_set, List.set_eq_of_length_le (by rw [List.length_take]; omega)]
              rfl
            have hy2 : (ys.set a x).drop (j + 1) = xs.drop (j + 1) := by rw [List.drop_set_of_lt (by omega), HYD.out]
            have HR := Lib.hid (And.intro hrs (And.intro hy1 (And.intro hy2 hgs)))
            clear hrs hgs hy1 hy2 e0 z0 hyl
            go_roundw
            case rel => exact ⟨a + 1, j + 1, by go_num, by go_num, by omega, by omega, ys.set a x, by rw [List.length_set]; exact HYL.out, HR⟩
            case measure => simp [intOf] <;> omega
          · have hy1 : ys.take a = (xs.take (j + 1)).filter (fun x => !p x) := by rw [HFT.out, ← R2.out]; simp
            have HR := Lib.hid (And.intro R6.out (And.intro hy1 (And.intro HYD.out G6.out)))
            clear hy1
            go_wp2_with fail
            go_roundw
            case rel => exact ⟨a, j + 1, by go_num, by go_num, by omega, by omega, ys, HYL.out, HR⟩
            case measure => simp [intOf] <;> omega
        · have hje : j = xs.length := by omega
          subst hje
          rw [List.take_length] at r2
          have hrle := r1.le
          have haI : (0 : Int) ≤ (a : Int) := by omega
          have haL : (a : Int) ≤ (xs.length : Int) := by omega
          have hacap : (a : Int) ≤ (cap : Int) := by omega
          have hcapl : (xs.length : Int) ≤ (cap : Int) := by omega
          have hca : ¬ cap = a := by omega
          obtain ⟨vs, hcl, hrc⟩ := r1.clear (a := a) (by omega)
          rw [hyl] at hcl
          rw [r2, ← HV.out] at hrc
          have hla : a = V.length := by rw [HV.out, ← r2, List.length_take]; omega
          have R4 := Lib.hid r4; have HRC := Lib.hid hrc; have HLA := Lib.hid hla
          clear r1 r2 r3 r4 hrc hyl hla hrle
          go_wp2_with fail
          refine bodyPost_ret (v := .slice (some ⟨g, 0, none⟩) a cap) (by simp [results, Tryz.results33, go_sem]) rfl ?_
          exact ⟨by rw [HLA.out], HRC.out.own hbg, grown_then R4.out (setCells_grown g vs a wr)⟩
end Go.Proofs.YtpeamehplhpcjaaGreatDoor
