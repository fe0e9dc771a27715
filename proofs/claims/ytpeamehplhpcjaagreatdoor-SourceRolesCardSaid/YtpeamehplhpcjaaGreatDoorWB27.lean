/- A part of the proofs of the laws of one package; see the law's own text, which comes last in 'order'. No conditions of its own. -/
import Derived.Shelf.SlSortCmp.NoneTotal
import Derived.Test.YtpeamehplhpcjaaGreatDoorWB26
set_option linter.unusedVariables false
set_option linter.unusedSimpArgs false
namespace Go.Proofs.YtpeamehplhpcjaaGreatDoor
open Go.RowKit Go.Shelf Go.Lib Go.Sort
theorem lt_ltS (a : Bs) : ∀ b : Bs, a < b ↔ ltS a b = true := by
  induction a with
  | nil => intro b; cases b <;> simp [ltS]
  | cons x r ih =>
    intro b
    cases b with
    | nil => simp [ltS]
    | cons y t =>
      rw [List.cons_lt_cons_iff, ih t]
      have e : ltS (x :: r) (y :: t) = if x = y then ltS r t else decide (x.toNat < y.toNat) := rfl
      rw [e]
      by_cases h : x = y
      · subst h; simp [UInt8.lt_irrefl]
      · simp [h, UInt8.lt_iff_toNat_lt]
theorem le_ltS (a b : Bs) : a ≤ b ↔ ltS b a = false := by
  show ¬ (b < a) ↔ _
  rw [lt_ltS]; simp
theorem merge_sortS (l : List Bs) (hn : l.Nodup) : l.mergeSort (fun x y => decide (x ≤ y)) = sortG ltS l := by
  have hp : (l.mergeSort (fun x y => decide (x ≤ y))).Perm l := List.mergeSort_perm _ _
  obtain ⟨s1, s2⟩ := sortG_law strS l (fun a _ b _ => ltS_tot b a)
  refine srt_unique strS ?_ s1 (fun x => by rw [hp.mem_iff, s2])
  have hs : (l.mergeSort (fun x y => decide (x ≤ y))).Pairwise (fun x y => decide (x ≤ y) = true) := by
    refine List.pairwise_mergeSort ?_ ?_ l
    · intro a b c h1 h2
      simp only [decide_eq_true_eq, le_ltS] at h1 h2 ⊢
      rcases ltS_tot a b with h | h | h
      · cases h3 : ltS c a with
        | false => rfl
        | true => have := ltS_trans c a b h3 h; rw [h2] at this; cases this
      · subst h; exact h2
      · rw [h1] at h; cases h
    · intro a b
      rcases ltS_tot a b with h | h | h
      · have : a ≤ b := by rw [le_ltS]; cases h3 : ltS b a with
          | false => rfl
          | true => have := ltS_trans _ _ _ h h3; rw [ltS_irr] at this; cases this
        simp [this]
      · subst h; simp
      · have : b ≤ a := by rw [le_ltS]; cases h3 : ltS a b with
          | false => rfl
          | true => have := ltS_trans _ _ _ h h3; rw [ltS_irr] at this; cases this
        simp [this]
  have hd : (l.mergeSort (fun x y => decide (x ≤ y))).Pairwise (· ≠ ·) := hp.nodup_iff.2 hn
  refine (hs.and hd).imp ?_
  rintro a b ⟨h1, h2⟩
  simp only [decide_eq_true_eq, le_ltS] at h1
  rcases ltS_tot a b with h | h | h
  · exact h
  · exact absurd h h2
  · rw [h1] at h; cases h
theorem sortS_any (A : Option Addr) (c base : Nat) (xs : List Bs) (w : World) (ho : Own w (fun _ => False) base 9 A c xs) (hn : xs.Nodup) (hN : xs.length ≤ 1000000) :
    Calls Tryz.prog 49 #[.slice A xs.length c] w fun e w' => e = .returned (.tuple #[]) ∧ Sl w' (fun k => base ≤ k ∧ A.map Addr.block = some k) A xs.length c (sortG ltS xs) ∧ w.grownBy w' (A.map Addr.block) := by
  have hcap := ho.cap
  rcases Classical.em (A = none) with hA | hA
  · subst hA
    have hx : xs = [] := by
      rcases Nat.eq_zero_or_pos xs.length with h | h
      · exact List.eq_nil_of_length_eq_zero h
      · exact absurd rfl (ho.ne_none h)
    subst hx
    refine (Tryz.slices_Sort_string_none none c w).mono ?_
    rintro e w' ⟨rfl, rfl⟩
    exact ⟨rfl, Sl.nil _ _ _ _ hcap.2, ⟨rfl, rfl, rfl, Nat.le_refl _, fun _ _ _ => rfl⟩⟩
  · obtain ⟨blk, rfl, hb1, hb2, hfz⟩ := ho.blk hA
    have hsl := ho.sl (by decide)
    have hH : Holds encStr w blk 0 xs.toArray := by
      intro j hj
      have hj' : j < xs.length := by simpa using hj
      obtain ⟨b, o, e, -, -, hc⟩ := hsl.str hj'
      injection e with e
      injection e with e1 e2
      subst e1 e2
      refine ⟨?_, by rw [Nat.zero_add]; exact hfz j⟩
      rw [hc, getElem!_pos xs.toArray j hj]
      rfl
    refine (Tryz.slices_Sort_string blk 0 c xs w hH hb2 (by omega)).mono ?_
    rintro e w' ⟨rfl, n, os, rfl⟩
    have hs := merge_sortS xs hn
    have hl : (xs.mergeSort fun x y => decide (x ≤ y)).toArray.size = xs.toArray.size := by simp [List.length_mergeSort]
    have hH2 := holds_putRow encStr (Sort.ahead w n) blk 0 xs.toArray (xs.mergeSort fun x y => decide (x ≤ y)).toArray (holds_ahead _ _ n _ _ _ hH) hl
    have hlen : (sortG ltS xs).length = xs.length := by rw [← hs, List.length_mergeSort]
    have hblk : ∀ k, k < w.heap.size → k ≠ blk → (grow (putRow encStr (Sort.ahead w n) blk 0 (xs.mergeSort fun x y => decide (x ≤ y)).toArray) os).heap[k]? = w.heap[k]? := by
      intro k hk hne
      have hne' : ¬ blk = k := fun e => hne e.symm
      simp [putRow, mapBlock, grow, Sort.ahead, Array.getElem?_append, Array.getElem?_modify, Array.getElem_modify, hk, hne']
    refine ⟨rfl, ⟨hlen.symm, hcap.1, hcap.2, fun i hi => ⟨_, rfl, ⟨hb1, rfl⟩, fun _ => encStr (sortG ltS xs)[i], fun j hj => ?_, rfl⟩⟩, ⟨rfl, rfl, rfl, by simp [grow, putRow, mapBlock, Sort.ahead], fun k hk hne => hblk k hk (fun e => hne (by rw [e]; rfl))⟩⟩
    have hj : j < 1 := hj
    obtain rfl : j = 0 := by omega
    have h1 := (hH2 i (by rw [hl]; simp; omega)).1
    rw [add_plain]
    have e2 : (xs.mergeSort fun x y => decide (x ≤ y)).toArray[i]! = (sortG ltS xs)[i] := by
      rw [getElem!_pos _ i (by simp [List.length_mergeSort]; omega)]
      simp [hs]
    rw [e2] at h1
    have hb3 := World.block_lt_of_cell? _ _ h1
    have e3 : (grow (putRow encStr (Sort.ahead w n) blk 0 (xs.mergeSort fun x y => decide (x ≤ y)).toArray) os).heap[blk]? = (putRow encStr (Sort.ahead w n) blk 0 (xs.mergeSort fun x y => decide (x ≤ y)).toArray).heap[blk]? := by
      simp only [grow]
      rw [Array.getElem?_append, if_pos hb3]
    rw [World.cell?_of_block (w := putRow encStr (Sort.ahead w n) blk 0 (xs.mergeSort fun x y => decide (x ≤ y)).toArray) e3]
    have e4 : GoT.size Bs = 1 := rfl
    rw [e4]
    simpa using h1
theorem sortMac_any (A : Option Addr) (c base : Nat) (xs : List Mac) (w : World) (T : Nat → Prop) (ho : Own w T base 63 A c xs) (hn : xs.Nodup) (hi : ∀ x ∈ xs, ∀ y ∈ xs, x.name = y.name → x = y) (hN : xs.length ≤ 1000000) :
    Calls Tryz.prog 50 #[.slice A xs.length c, .func (.func 51) #[] #[]] w fun e w' => e = .returned (.tuple #[]) ∧ Sl w' (fun _ => True) A xs.length c (sortG ltMac xs) ∧ w.grownBy w' (A.map Addr.block) := by
  have hcap := ho.cap
  rcases Classical.em (A = none) with hA | hA
  · subst hA
    have hx : xs = [] := by
      rcases Nat.eq_zero_or_pos xs.length with h | h
      · exact List.eq_nil_of_length_eq_zero h
      · exact absurd rfl (ho.ne_none h)
    subst hx
    refine (AnyF.slices_SortFunc_none Tryz.sortT50 none c _ w).mono ?_
    rintro e w' ⟨rfl, rfl⟩
    exact ⟨rfl, Sl.nil _ _ _ _ hcap.2, ⟨rfl, rfl, rfl, Nat.le_refl _, fun _ _ _ => rfl⟩⟩
  · obtain ⟨blk, rfl, hb1, hb2, hfz⟩ := ho.blk hA
    have hsl := (ho.sl (by decide)).wide (S' := fun k => T k ∨ k = blk) (fun k _ hk => by rcases hk with hk | hk; exact .inl hk; injection hk with hk; exact .inr hk.symm) (by decide)
    have hT : ∀ i (h : i < xs.length), ∃ A n c, w.cell? ⟨blk, i * 5, none⟩ = some (.string ⟨xs[i].name.toArray⟩) ∧ w.cell? ⟨blk, i * 5 + 1, none⟩ = some (.slice A n c) ∧ w.cell? ⟨blk, i * 5 + 2, none⟩ = some (.string ⟨xs[i].body.path.toArray⟩) ∧ w.cell? ⟨blk, i * 5 + 3, none⟩ = some (.int .i64 xs[i].body.fr) ∧ w.cell? ⟨blk, i * 5 + 4, none⟩ = some (.int .i64 xs[i].body.tu) ∧ Sl w (fun k => T k ∧ k ≠ blk) A n c xs[i].params := by
      intro i hi'
      obtain ⟨cs, ⟨h1, h2⟩, h3⟩ := ho
      rcases h2 with ⟨hv, h0⟩ | ⟨g, cap, cur, hv, hb, hg, hn', hm, hcs, htk⟩
      · injection hv with e1 e2 e3
        cases e1
      · injection hv with e1 e2 e3
        injection e1 with e1
        injection e1 with e1
        subst e1
        obtain ⟨r0, r2, r3, r4, A, n, c', r1, hs⟩ := h3 i hi'
        have hsz : GoT.size Mac = 5 := rfl
        rw [hsz] at h1 htk r0 r1 r2 r3 r4
        have hcell : ∀ j, j < 5 → w.cell? ⟨blk, i * 5 + j, none⟩ = some (cs.getD (i * 5 + j) undef) := fun j hj => by
          rw [cell_blk hg]
          have hlt : i * 5 + j < cs.length := by omega
          rw [List.getD_eq_getElem?_getD, List.getElem?_eq_getElem hlt, Option.getD_some]
          have h5 : cs[i * 5 + j]? = some cs[i * 5 + j] := List.getElem?_eq_getElem hlt
          rw [← h5]
          conv => rhs; rw [← htk]
          rw [List.getElem?_take, if_pos (by omega), Array.getElem?_toList]
        exact ⟨A, n, c', (hcell 0 (by omega)).trans (congrArg some r0), (hcell 1 (by omega)).trans (congrArg some r1), (hcell 2 (by omega)).trans (congrArg some r2), (hcell 3 (by omega)).trans (congrArg some r3), (hcell 4 (by omega)).trans (congrArg some r4),
          hs.wide (fun k hk hT => ⟨hT.1, fun e => hT.2 (by rw [e]; rfl)⟩) (by decide)⟩
    refine (sortM_any blk c xs w T hsl hfz hb2 hT hN).mono ?_
    rintro e w' ⟨rfl, ys, hp, hsrt, hs9, hg9⟩
    rw [← sorted_mac hn hi hp hsrt]
    exact ⟨rfl, hs9.any, hg9⟩
def VUnt (w : World) (v : Value) (u : Unt) : Prop := ∃ A1 n1 c1 A2 n2 c2 A3 n3 c3 A4 n4 c4 A5 n5 c5, v = .agg #[.string ⟨u.path.toArray⟩, .slice A1 n1 c1, .slice A2 n2 c2, .slice A3 n3 c3, .slice A4 n4 c4, .slice A5 n5 c5] ∧
  Sl w (fun _ => True) A1 n1 c1 u.flags ∧ Sl w (fun _ => True) A2 n2 c2 u.macros ∧ Sl w (fun _ => True) A3 n3 c3 u.items ∧ Sl w (fun _ => True) A4 n4 c4 u.heads ∧ Sl w (fun _ => True) A5 n5 c5 u.files
theorem VUnt.below {w w' : World} {v : Value} {u : Unt} (h : VUnt w v u) (hb : Below w.heap.size w w') : VUnt w' v u := by
  obtain ⟨A1, n1, c1, A2, n2, c2, A3, n3, c3, A4, n4, c4, A5, n5, c5, e, h1, h2, h3, h4, h5⟩ := h
  exact ⟨A1, n1, c1, A2, n2, c2, A3, n3, c3, A4, n4, c4, A5, n5, c5, e, h1.below hb, h2.below hb, h3.below hb, h4.below hb, h5.below hb⟩
def vFlt (f : Flt) : Value := .agg #[.int .i64 f.err, .int .i64 f.pkg, .int .i64 f.step, .string ⟨f.ln.path.toArray⟩, .int .i64 f.ln.n]
end Go.Proofs.YtpeamehplhpcjaaGreatDoor
namespace Go.Proofs.YtpeamehplhpcjaaGreatDoor
open Go.RowKit
theorem own_row {w : World} {base : Nat} {v : Value} {xs : List Bs} (h : w.ownsRow base 9 1 v xs.length (xs.map fun x => Value.string ⟨x.toArray⟩)) : ∃ A c, v = .slice A xs.length c ∧ Own w (fun _ => False) base 9 A c xs := by
  have hsz : GoT.size Bs = 1 := rfl
  have hrd : ∀ (A : Option Addr) i (h : i < xs.length), GoT.rd w (fun b => False ∧ A.map Addr.block ≠ some b) (fun j => (xs.map fun x => Value.string ⟨x.toArray⟩).getD (i * GoT.size Bs + j) undef) xs[i] := fun A i hi => by
    show List.getD _ (i * 1 + 0) undef = _
    rw [List.getD_eq_getElem?_getD]
    simp [hi]
  obtain ⟨h1, h2⟩ := h
  rcases h2 with ⟨hv, h0⟩ | ⟨g, cap, cur, hv, h3⟩
  · refine ⟨none, 0, by rw [hv, h0], _, ⟨h1, .inl ⟨by rw [h0], h0⟩⟩, hrd _⟩
  · refine ⟨some ⟨g, 0, none⟩, cap, hv, _, ⟨h1, .inr ⟨g, cap, cur, rfl, h3⟩⟩, hrd _⟩
theorem cloneB_any (A : Option Addr) (n c : Nat) (w : World) (S : Nat → Prop) (xs : List Bs) (hl : Sl w S A n c xs) (hN : n ≤ 1000000) :
    Calls Tryz.prog 28 #[.slice A n c] w fun e w' => ∃ A' c', e = .returned (.slice A' n c') ∧ Sl w' (fun k => w.heap.size ≤ k) A' n c' xs ∧ Below w.heap.size w w' := by
  have hn := hl.len
  subst hn
  cases A with
  | none =>
    have hx : xs = [] := by
      rcases Nat.eq_zero_or_pos xs.length with h | h
      · exact List.eq_nil_of_length_eq_zero h
      · obtain ⟨ad, hA, _⟩ := hl.at_ h; cases hA
    subst hx
    refine (Tryz.slices_Clone_string_nil 0 c w).mono ?_
    rintro e w' ⟨rfl, rfl⟩
    exact ⟨none, 0, rfl, Sl.nil _ _ _ _ (by decide), Below.refl _ _⟩
  | some ad =>
    rcases Nat.eq_zero_or_pos xs.length with h | h
    · have hx := List.eq_nil_of_length_eq_zero h
      subst hx
      refine (Tryz.slices_Clone_string_zero ad c w).mono ?_
      rintro e w' ⟨v, rfl, hrow, -, hb⟩
      obtain ⟨A', c', rfl, ho⟩ := own_row (xs := []) hrow
      exact ⟨A', c', rfl, (ho.sl (by decide)).wide (fun k _ hk => by rcases hk with hk | hk; exact hk.elim; exact (ho.lt k hk).1) (by decide), hb⟩
    · obtain ⟨b, o, hA, -, -, -⟩ := hl.str h
      injection hA with hA
      subst hA
      have hcell : ∀ j, j < (xs.map fun x => (⟨x.toArray⟩ : ByteArray)).length → w.cell? ⟨b, o + j, none⟩ = some (.string ((xs.map fun x => (⟨x.toArray⟩ : ByteArray)).getD j ByteArray.empty)) := fun j hj => by
        rw [List.length_map] at hj
        obtain ⟨b', o', hA', -, -, hc⟩ := hl.str hj
        injection hA' with hA'
        injection hA' with e1 e2
        subst e1 e2
        rw [hc, List.getD_eq_getElem?_getD]
        simp [hj]
      refine (Tryz.slices_Clone_string b o xs.length c (xs.map fun x => ⟨x.toArray⟩) w (by simp) (by omega) hcell).mono ?_
      rintro e w' ⟨v, rfl, hrow, -, hb⟩
      have e1 : ((xs.map fun x => (⟨x.toArray⟩ : ByteArray)).take xs.length).map Value.string = xs.map fun x => Value.string ⟨x.toArray⟩ := by
        rw [List.take_of_length_le (by simp), List.map_map]; rfl
      rw [e1] at hrow
      obtain ⟨A', c', rfl, ho⟩ := own_row hrow
      exact ⟨A', c', rfl, (ho.sl (by decide)).wide (fun k _ hk => by rcases hk with hk | hk; exact hk.elim; exact (ho.lt k hk).1) (by decide), hb⟩
theorem find_idx (l : List Itm) (x : Bs) (k : Nat) : (l.find? (fun y => y.name == x) = none ∧ idxS (fun y : Itm => y.name == x) l k = -1) ∨ ∃ i, ∃ h : i < l.length, idxS (fun y : Itm => y.name == x) l k = ((k + i : Nat) : Int) ∧ l.find? (fun y => y.name == x) = some l[i] := by
  induction l generalizing k with
  | nil => exact .inl ⟨rfl, rfl⟩
  | cons f r ih =>
    unfold idxS
    rw [List.find?_cons]
    by_cases h : (f.name == x) = true
    · rw [if_pos h, h]
      exact .inr ⟨0, by simp, by simp, rfl⟩
    · rw [if_neg h]
      rw [Bool.not_eq_true] at h
      rw [h]
      rcases ih (k + 1) with ⟨h1, h2⟩ | ⟨i, hi, h1, h2⟩
      · exact .inl ⟨h1, h2⟩
      · exact .inr ⟨i + 1, by simp; omega, by rw [h1]; congr 1; omega, by simpa using h2⟩
set_option maxHeartbeats 400000 in
theorem find1_any (w : World) (S : Nat → Prop) (v : Value) (x : Itm) (hv : VItm w S v x) (q : Nat) (nm : Bs) (hq : w.cell? ⟨q, 0, none⟩ = some (.string ⟨nm.toArray⟩)) :
    Calls Tryz.prog 65 #[v, .pointer (some ⟨q, 0, none⟩)] w fun e w' => e = .returned (.bool (x.name == nm)) ∧ Below w.heap.size w w' := by
  obtain ⟨A, n, c, rfl, -⟩ := hv
  have h1 := cell_alloc' hq (.cells #[.string ⟨x.name.toArray⟩, .int .i64 x.kind, .int .i64 x.mode, .slice A n c, .string ⟨x.body.path.toArray⟩, .int .i64 x.body.fr, .int .i64 x.body.tu] 48 (0, 0))
  clear hq
  go_enter Tryz.func65, Tryz.ntmps65
  go_wp2_with fail
  go_ret
  exact ⟨rfl, by ((repeat (first | (with_reducible exact Below.refl _ _) | (with_reducible refine belowA ?_ _) | (with_reducible refine belowD ?_) | (with_reducible refine belowS ?_ (Nat.le_refl _) _ _) | (with_reducible refine next ?_ (by assumption) (Nat.le_refl _)))); done)⟩
end Go.Proofs.YtpeamehplhpcjaaGreatDoor
namespace Go.Proofs.YtpeamehplhpcjaaGreatDoor
open Go.RowKit
structure FiW (w W : World) (cu : Array Value) : Prop where
  bl : Below w.heap.size w W
  un : W.heap[w.heap.size]? = some (.cells cu 36 (0, 0))
  res : W.heap[w.heap.size + 2]? = some (.cells #[.string ⟨#[]⟩, .int .i64 0, .int .i64 0, .slice none 0 0, .string ⟨#[]⟩, .int .i64 0, .int .i64 0] 48 (0, 0))
theorem FiW.below {w W W' : World} {cu : Array Value} (h : FiW w W cu) (hb : Below W.heap.size W W') : FiW w W' cu := ⟨h.bl.trans (hb.mono h.bl.size), keptBlk hb h.un, keptBlk hb h.res⟩
theorem set7 (w : World) {g : Nat} {cs : Array Value} {t : TypeId} (h : w.heap[g]? = some (.cells cs t (0, 0))) (a0 a1 a2 a3 a4 a5 a6 : Value) :
    (((((((w.setCell ⟨g, 0, none⟩ a0).setCell ⟨g, 1, none⟩ a1).setCell ⟨g, 2, none⟩ a2).setCell ⟨g, 3, none⟩ a3).setCell ⟨g, 4, none⟩ a4).setCell ⟨g, 5, none⟩ a5).setCell ⟨g, 6, none⟩ a6).heap[g]? = some (.cells (((((((cs.setIfInBounds 0 a0).setIfInBounds 1 a1).setIfInBounds 2 a2).setIfInBounds 3 a3).setIfInBounds 4 a4).setIfInBounds 5 a5).setIfInBounds 6 a6) t (0, 0)) :=
  Blk.set _ (Blk.set _ (set5' w h 0 1 2 3 4 a0 a1 a2 a3 a4) 5 a5) 6 a6
theorem set7_other (w : World) {g : Nat} (a0 a1 a2 a3 a4 a5 a6 : Value) (q : Nat) (hq : q ≠ g) :
    (((((((w.setCell ⟨g, 0, none⟩ a0).setCell ⟨g, 1, none⟩ a1).setCell ⟨g, 2, none⟩ a2).setCell ⟨g, 3, none⟩ a3).setCell ⟨g, 4, none⟩ a4).setCell ⟨g, 5, none⟩ a5).setCell ⟨g, 6, none⟩ a6).heap[q]? = w.heap[q]? :=
  (set_other _ _ _ _ _ hq).trans ((set_other _ _ _ _ _ hq).trans (set5_other w 0 1 2 3 4 a0 a1 a2 a3 a4 q hq))
set_option maxRecDepth 100000 in
set_option maxHeartbeats 4000000 in
theorem find_any (u : Unt) (v : Value) (w : World) (hv : VUnt w v u) (nm : Bs) (hN : ∀ x ∈ u.items, x.params.length ≤ 1000000) :
    Calls Tryz.prog 16 #[v, .string ⟨nm.toArray⟩] w fun e w' => ∃ v', e = .returned (.tuple #[v', .bool (findI u nm).2]) ∧ VItm w' (fun _ => True) v' (findI u nm).1 ∧ Below w.heap.size w w' := by
  obtain ⟨R, hR⟩ : ∃ R, R = findI u nm := ⟨_, rfl⟩
  rw [← hR]
  obtain ⟨A1, n1, c1, A2, n2, c2, A3, n3, c3, A4, n4, c4, A5, n5, c5, rfl, -, -, h3, -, -⟩ := hv
  unfold findI at hR
  have hn3 := h3.len
  have hle3 := h3.le
  subst hn3
  have hcase := find_idx u.items nm 0
  generalize u.path = up at *
  generalize u.items = its at *
  generalize its.find? (fun y => y.name == nm) = fo at *
  have HR0 := Lib.hid hR; have H3 := Lib.hid h3; have HCA := Lib.hid hcase; have HN := Lib.hid hN
  clear hR h3 hcase hN
  go_enter Tryz.func16, Tryz.ntmps16
  go_upto_region 1 with fail
  have hb0 : Below w.heap.size w (((w.alloc (.cells #[.string ⟨up.toArray⟩, .slice A1 n1 c1, .slice A2 n2 c2, .slice A3 its.length c3, .slice A4 n4 c4, .slice A5 n5 c5] 36)).alloc (.cells #[.string ⟨nm.toArray⟩] 9)).alloc (.cells #[.string ⟨#[]⟩, .int .i64 0, .int .i64 0, .slice none 0 0, .string ⟨#[]⟩, .int .i64 0, .int .i64 0] 48)) := by ((repeat (first | (with_reducible exact Below.refl _ _) | (with_reducible refine belowA ?_ _) | (with_reducible refine belowD ?_) | (with_reducible refine belowS ?_ (Nat.le_refl _) _ _) | (with_reducible refine next ?_ (by assumption) (Nat.le_refl _)))); done)
  have q0 : (((w.alloc (.cells #[.string ⟨up.toArray⟩, .slice A1 n1 c1, .slice A2 n2 c2, .slice A3 its.length c3, .slice A4 n4 c4, .slice A5 n5 c5] 36)).alloc (.cells #[.string ⟨nm.toArray⟩] 9)).alloc (.cells #[.string ⟨#[]⟩, .int .i64 0, .int .i64 0, .slice none 0 0, .string ⟨#[]⟩, .int .i64 0, .int .i64 0] 48)).heap[w.heap.size]? = some (.cells #[.string ⟨up.toArray⟩, .slice A1 n1 c1, .slice A2 n2 c2, .slice A3 its.length c3, .slice A4 n4 c4, .slice A5 n5 c5] 36 (0, 0)) := by ((repeat (first | (with_reducible assumption) | ((with_reducible refine blkAt2 ?_ ?_); (focus (simp; done)); rfl) | (with_reducible refine blkOld ?_ _) | (with_reducible refine keptBlk (by assumption) ?_) | (with_reducible refine grownBlk (by assumption) ?_ (by simp; omega)) | (with_reducible refine blkDrw ?_))); done)
  have q1 : (((w.alloc (.cells #[.string ⟨up.toArray⟩, .slice A1 n1 c1, .slice A2 n2 c2, .slice A3 its.length c3, .slice A4 n4 c4, .slice A5 n5 c5] 36)).alloc (.cells #[.string ⟨nm.toArray⟩] 9)).alloc (.cells #[.string ⟨#[]⟩, .int .i64 0, .int .i64 0, .slice none 0 0, .string ⟨#[]⟩, .int .i64 0, .int .i64 0] 48)).heap[w.heap.size + 1]? = some (.cells #[.string ⟨nm.toArray⟩] 9 (0, 0)) := by ((repeat (first | (with_reducible assumption) | ((with_reducible refine blkAt2 ?_ ?_); (focus (simp; done)); rfl) | (with_reducible refine blkOld ?_ _) | (with_reducible refine keptBlk (by assumption) ?_) | (with_reducible refine grownBlk (by assumption) ?_ (by simp; omega)) | (with_reducible refine blkDrw ?_))); done)
  have q2 : (((w.alloc (.cells #[.string ⟨up.toArray⟩, .slice A1 n1 c1, .slice A2 n2 c2, .slice A3 its.length c3, .slice A4 n4 c4, .slice A5 n5 c5] 36)).alloc (.cells #[.string ⟨nm.toArray⟩] 9)).alloc (.cells #[.string ⟨#[]⟩, .int .i64 0, .int .i64 0, .slice none 0 0, .string ⟨#[]⟩, .int .i64 0, .int .i64 0] 48)).heap[w.heap.size + 2]? = some (.cells #[.string ⟨#[]⟩, .int .i64 0, .int .i64 0, .slice none 0 0, .string ⟨#[]⟩, .int .i64 0, .int .i64 0] 48 (0, 0)) := by ((repeat (first | (with_reducible assumption) | ((with_reducible refine blkAt2 ?_ ?_); (focus (simp; done)); rfl) | (with_reducible refine blkOld ?_ _) | (with_reducible refine keptBlk (by assumption) ?_) | (with_reducible refine grownBlk (by assumption) ?_ (by simp; omega)) | (with_reducible refine blkDrw ?_))); done)
  generalize (((w.alloc (.cells #[.string ⟨up.toArray⟩, .slice A1 n1 c1, .slice A2 n2 c2, .slice A3 its.length c3, .slice A4 n4 c4, .slice A5 n5 c5] 36)).alloc (.cells #[.string ⟨nm.toArray⟩] 9)).alloc (.cells #[.string ⟨#[]⟩, .int .i64 0, .int .i64 0, .slice none 0 0, .string ⟨#[]⟩, .int .i64 0, .int .i64 0] 48)) = W0 at *
  have HW0 := Lib.hid (show FiW w W0 _ from ⟨hb0, q0, q2⟩)
  have H30 := Lib.hid (H3.out.below hb0)
  have hidx := idxI_any A3 its.length c3 W0 _ its H30.out 65 #[.pointer (some ⟨w.heap.size + 1, 0, none⟩)] (fun _ _ => by kernel_rfl) (fun y => y.name == nm) (fun x _ w1 hb1 v hv => find1_any w1 _ v x hv _ nm ((keptCell hb1 q1 0).trans rfl))
  have HIDX := Lib.hid hidx
  have c3' := (cell_blk q0 3).trans rfl
  clear hb0 q0 q1 q2 hidx H3
  generalize idxS (fun y : Itm => y.name == nm) its 0 = ix at *
  go_wp2_with fail
  refine HIDX.out.mono ?_
  rintro e w1 ⟨rfl, hb1⟩
  have HW1 := Lib.hid (HW0.out.below hb1); have H31 := Lib.hid (H30.out.below hb1)
  clear hb1 c3' HIDX HW0 H30
  rcases HCA.out with ⟨h1, h2⟩ | ⟨i, hi, h1, h2⟩
  · subst h1 h2
    have HR := Lib.hid (show R = (itm0, false) from HR0.out)
    (have r0 := (cell_blk HW1.out.res 0).trans rfl); (have r1 := (cell_blk HW1.out.res 1).trans rfl); (have r2 := (cell_blk HW1.out.res 2).trans rfl); (have r3 := (cell_blk HW1.out.res 3).trans rfl); (have r4 := (cell_blk HW1.out.res 4).trans rfl); (have r5 := (cell_blk HW1.out.res 5).trans rfl); (have r6 := (cell_blk HW1.out.res 6).trans rfl); (have f0 := frz_blk HW1.out.res 0); (have f1 := frz_blk HW1.out.res 1); (have f2 := frz_blk HW1.out.res 2); (have f3 := frz_blk HW1.out.res 3); (have f4 := frz_blk HW1.out.res 4); (have f5 := frz_blk HW1.out.res 5); (have f6 := frz_blk HW1.out.res 6)
    go_wp2_with fail
    (have hRF := set7 _ HW1.out.res (.string ⟨#[]⟩) (.int .i64 0) (.int .i64 0) (.slice none 0 0) (.string ⟨#[]⟩) (.int .i64 0) (.int .i64 0)); (have t0 := (cell_blk hRF 0).trans rfl); (have t1 := (cell_blk hRF 1).trans rfl); (have t2 := (cell_blk hRF 2).trans rfl); (have t3 := (cell_blk hRF 3).trans rfl); (have t4 := (cell_blk hRF 4).trans rfl); (have t5 := (cell_blk hRF 5).trans rfl); (have t6 := (cell_blk hRF 6).trans rfl)
    refine bodyPost_ret (v := .tuple #[.agg #[.string ⟨#[]⟩, .int .i64 0, .int .i64 0, .slice none 0 0, .string ⟨#[]⟩, .int .i64 0, .int .i64 0], .bool false]) (by simp [results, Tryz.results16, go_sem, t0, t1, t2, t3, t4, t5, t6]) rfl ?_
    exact ⟨_, by rw [HR.out], by rw [HR.out]; exact ⟨none, 0, 0, rfl, Sl.nil _ _ _ _ (by decide)⟩, belowS (belowS (belowS (belowS (belowS (belowS (belowS HW1.out.bl (by omega) _ _) (by omega) _ _) (by omega) _ _) (by omega) _ _) (by omega) _ _) (by omega) _ _) (by omega) _ _⟩
  · subst h2
    rw [Nat.zero_add] at h1
    subst h1
    have hx := HN.out _ (List.getElem_mem hi)
    obtain ⟨b3, o3, rfl, -, hb3, Ax, nx, cx, g0, g1, g2, g3, g4, g5, g6, hsx⟩ := H31.out.itm hi
    have HR := Lib.hid (show R = (its[i], true) from HR0.out)
    clear HR0 HCA
    generalize its[i] = x at *
    have u3 := (cell_blk HW1.out.un 3).trans rfl
    have hnx := hsx.len
    subst hnx
    have HSX := Lib.hid hsx
    clear hsx
    go_upto_region 4 with fail
    have hb2 : Below w1.heap.size w1 (w1.alloc (.cells #[.string ⟨x.name.toArray⟩, .int .i64 x.kind, .int .i64 x.mode, .slice Ax x.params.length cx, .string ⟨x.body.path.toArray⟩, .int .i64 x.body.fr, .int .i64 x.body.tu] 48)) := boxed
    have hx2 := blkAt w1 (.cells #[.string ⟨x.name.toArray⟩, .int .i64 x.kind, .int .i64 x.mode, .slice Ax x.params.length cx, .string ⟨x.body.path.toArray⟩, .int .i64 x.body.fr, .int .i64 x.body.tu] 48) rfl
    generalize (w1.alloc (.cells #[.string ⟨x.name.toArray⟩, .int .i64 x.kind, .int .i64 x.mode, .slice Ax x.params.length cx, .string ⟨x.body.path.toArray⟩, .int .i64 x.body.fr, .int .i64 x.body.tu] 48)) = w2 at *
    have HW2 := Lib.hid (HW1.out.below hb2); have HX2 := Lib.hid hx2
    have hcl := cloneB_any Ax x.params.length cx w2 _ x.params (HSX.out.below hb2) (by omega)
    have HCL := Lib.hid hcl
    have hl1 := (Array.getElem?_eq_some_iff.1 HW1.out.res).1
    have z3 := (cell_blk hx2 3).trans rfl
    clear hb2 hx2 hcl g0 g1 g2 g3 g4 g5 g6 u3 HW1 H31
    go_wp2_with fail
    refine HCL.out.mono ?_
    rintro e w3 ⟨A9, c9, rfl, hs9, hb9⟩
    have hx3 := keptBlk hb9 HX2.out
    have z3 := (cell_blk hx3 3).trans rfl
    have y3 := frz_blk hx3 3
    have HW3 := Lib.hid (HW2.out.below hb9); have HX3 := Lib.hid hx3
    have hlt3 := (Array.getElem?_eq_some_iff.1 hx3).1
    have hw2 := hb9.size
    have hw12 : w1.heap.size < w2.heap.size := (Array.getElem?_eq_some_iff.1 HX2.out).1
    have HS9 := Lib.hid hs9
    clear hb9 hs9 hx3 HCL HW2 HX2
    go_upto_region 5 with fail
    have hx4 := Blk.set w3 HX3.out 3 (.slice A9 x.params.length c9)
    have hW4 : FiW w (w3.setCell ⟨w1.heap.size, 3, none⟩ (.slice A9 x.params.length c9)) _ := ⟨belowS HW3.out.bl (by omega) _ _, (set_other _ _ _ _ _ (by omega)).trans HW3.out.un, (set_other _ _ _ _ _ (by omega)).trans HW3.out.res⟩
    have hs4 := HS9.out.keep (w' := w3.setCell ⟨w1.heap.size, 3, none⟩ (.slice A9 x.params.length c9)) (fun k _ hk => set_other _ _ _ _ _ (by omega))
    generalize (w3.setCell ⟨w1.heap.size, 3, none⟩ (.slice A9 x.params.length c9)) = w4 at *
    have HW4 := Lib.hid hW4; have HS4 := Lib.hid hs4
    have x0 := (cell_blk hx4 0).trans rfl
    have x1 := (cell_blk hx4 1).trans rfl
    have x2 := (cell_blk hx4 2).trans rfl
    have x3 := (cell_blk hx4 3).trans rfl
    have x4 := (cell_blk hx4 4).trans rfl
    have x5 := (cell_blk hx4 5).trans rfl
    have x6 := (cell_blk hx4 6).trans rfl
    clear hx4 hW4 hs4 z3 y3 HX3 HW3 HS9
    (have r0 := (cell_blk HW4.out.res 0).trans rfl); (have r1 := (cell_blk HW4.out.res 1).trans rfl); (have r2 := (cell_blk HW4.out.res 2).trans rfl); (have r3 := (cell_blk HW4.out.res 3).trans rfl); (have r4 := (cell_blk HW4.out.res 4).trans rfl); (have r5 := (cell_blk HW4.out.res 5).trans rfl); (have r6 := (cell_blk HW4.out.res 6).trans rfl); (have f0 := frz_blk HW4.out.res 0); (have f1 := frz_blk HW4.out.res 1); (have f2 := frz_blk HW4.out.res 2); (have f3 := frz_blk HW4.out.res 3); (have f4 := frz_blk HW4.out.res 4); (have f5 := frz_blk HW4.out.res 5); (have f6 := frz_blk HW4.out.res 6)
    go_wp2_with fail
    (have hRF := set7 _ HW4.out.res (.string ⟨x.name.toArray⟩) (.int .i64 x.kind) (.int .i64 x.mode) (.slice A9 x.params.length c9) (.string ⟨x.body.path.toArray⟩) (.int .i64 x.body.fr) (.int .i64 x.body.tu)); (have t0 := (cell_blk hRF 0).trans rfl); (have t1 := (cell_blk hRF 1).trans rfl); (have t2 := (cell_blk hRF 2).trans rfl); (have t3 := (cell_blk hRF 3).trans rfl); (have t4 := (cell_blk hRF 4).trans rfl); (have t5 := (cell_blk hRF 5).trans rfl); (have t6 := (cell_blk hRF 6).trans rfl)
    refine bodyPost_ret (v := .tuple #[.agg #[.string ⟨x.name.toArray⟩, .int .i64 x.kind, .int .i64 x.mode, .slice A9 x.params.length c9, .string ⟨x.body.path.toArray⟩, .int .i64 x.body.fr, .int .i64 x.body.tu], .bool true]) (by simp [results, Tryz.results16, go_sem, t0, t1, t2, t3, t4, t5, t6]) rfl ?_
    exact ⟨_, by rw [HR.out], by rw [HR.out]; exact ⟨A9, _, c9, rfl, (HS4.out.keep (fun k _ hk => set7_other _ _ _ _ _ _ _ _ k (by omega))).any⟩, belowS (belowS (belowS (belowS (belowS (belowS (belowS HW4.out.bl (by omega) _ _) (by omega) _ _) (by omega) _ _) (by omega) _ _) (by omega) _ _) (by omega) _ _) (by omega) _ _⟩
end Go.Proofs.YtpeamehplhpcjaaGreatDoor
