/- A part of the proofs of the laws of one package; see the law's own text, which comes last in 'order'. No conditions of its own. -/
import Derived.Shelf.SlSortCmp.NoneTotal
import Derived.Test.YtpeamehplhpcjaaGreatDoorWC29
set_option linter.unusedVariables false
set_option linter.unusedSimpArgs false
namespace Go.Proofs.YtpeamehplhpcjaaGreatDoor
open Go.RowKit Go.Shelf Go.Lib Go.Sort
theorem lt_ltS (a : Bs) : ∀ b : Bs, a < b ↔ ltS a b = true := by
  induction a with
  | nil => intro b; cases b <;> simp [ltS]
  | cons x r ih =>
    intro b
    cases b with
    | nil => simp [ltS]
    | cons y t =>
      rw [List.cons_lt_cons_iff, ih t]
      have e : ltS (x :: r) (y :: t) = if x = y then ltS r t else decide (x.toNat < y.toNat) := rfl
      rw [e]
      by_cases h : x = y
      · subst h; simp [UInt8.lt_irrefl]
      · simp [h, UInt8.lt_iff_toNat_lt]
theorem le_ltS (a b : Bs) : a ≤ b ↔ ltS b a = false := by
  show ¬ (b < a) ↔ _
  rw [lt_ltS]; simp
theorem merge_sortS (l : List Bs) (hn : l.Nodup) : l.mergeSort (fun x y => decide (x ≤ y)) = sortG ltS l := by
  have hp : (l.mergeSort (fun x y => decide (x ≤ y))).Perm l := List.mergeSort_perm _ _
  obtain ⟨s1, s2⟩ := sortG_law strS l (fun a _ b _ => ltS_tot b a)
  refine srt_unique strS ?_ s1 (fun x => by rw [hp.mem_iff, s2])
  have hs : (l.mergeSort (fun x y => decide (x ≤ y))).Pairwise (fun x y => decide (x ≤ y) = true) := by
    refine List.pairwise_mergeSort ?_ ?_ l
    · intro a b c h1 h2
      simp only [decide_eq_true_eq, le_ltS] at h1 h2 ⊢
      rcases ltS_tot a b with h | h | h
      · cases h3 : ltS c a with
        | false => rfl
        | true => have := ltS_trans c a b h3 h; rw [h2] at this; cases this
      · subst h; exact h2
      · rw [h1] at h; cases h
    · intro a b
      rcases ltS_tot a b with h | h | h
      · have : a ≤ b := by rw [le_ltS]; cases h3 : ltS b a with
          | false => rfl
          | true => have := ltS_trans _ _ _ h h3; rw [ltS_irr] at this; cases this
        simp [this]
      · subst h; simp
      · have : b ≤ a := by rw [le_ltS]; cases h3 : ltS a b with
          | false => rfl
          | true => have := ltS_trans _ _ _ h h3; rw [ltS_irr] at this; cases this
        simp [this]
  have hd : (l.mergeSort (fun x y => decide (x ≤ y))).Pairwise (· ≠ ·) := hp.nodup_iff.2 hn
  refine (hs.and hd).imp ?_
  rintro a b ⟨h1, h2⟩
  simp only [decide_eq_true_eq, le_ltS] at h1
  rcases ltS_tot a b with h | h | h
  · exact h
  · exact absurd h h2
  · rw [h1] at h; cases h
theorem sortS_any (A : Option Addr) (c base : Nat) (xs : List Bs) (w : World) (ho : Own w (fun _ => False) base 9 A c xs) (hn : xs.Nodup) (hN : xs.length ≤ 1000000) :
    Calls Tryz.prog 49 #[.slice A xs.length c] w fun e w' => e = .returned (.tuple #[]) ∧ Sl w' (fun k => base ≤ k ∧ A.map Addr.block = some k) A xs.length c (sortG ltS xs) ∧ w.grownBy w' (A.map Addr.block) := by
  have hcap := ho.cap
  rcases Classical.em (A = none) with hA | hA
  · subst hA
    have hx : xs = [] := by
      rcases Nat.eq_zero_or_pos xs.length with h | h
      · exact List.eq_nil_of_length_eq_zero h
      · exact absurd rfl (ho.ne_none h)
    subst hx
    refine (Tryz.slices_Sort_string_none none c w).mono ?_
    rintro e w' ⟨rfl, rfl⟩
    exact ⟨rfl, Sl.nil _ _ _ _ hcap.2, ⟨rfl, rfl, rfl, Nat.le_refl _, fun _ _ _ => rfl⟩⟩
  · obtain ⟨blk, rfl, hb1, hb2, hfz⟩ := ho.blk hA
    have hsl := ho.sl (by decide)
    have hH : Holds encStr w blk 0 xs.toArray := by
      intro j hj
      have hj' : j < xs.length := by simpa using hj
      obtain ⟨b, o, e, -, -, hc⟩ := hsl.str hj'
      injection e with e
      injection e with e1 e2
      subst e1 e2
      refine ⟨?_, by rw [Nat.zero_add]; exact hfz j⟩
      rw [hc, getElem!_pos xs.toArray j hj]
      rfl
    refine (Tryz.slices_Sort_string blk 0 c xs w hH hb2 (by omega)).mono ?_
    rintro e w' ⟨rfl, n, os, rfl⟩
    have hs := merge_sortS xs hn
    have hl : (xs.mergeSort fun x y => decide (x ≤ y)).toArray.size = xs.toArray.size := by simp [List.length_mergeSort]
    have hH2 := holds_putRow encStr (Sort.ahead w n) blk 0 xs.toArray (xs.mergeSort fun x y => decide (x ≤ y)).toArray (holds_ahead _ _ n _ _ _ hH) hl
    have hlen : (sortG ltS xs).length = xs.length := by rw [← hs, List.length_mergeSort]
    have hblk : ∀ k, k < w.heap.size → k ≠ blk → (grow (putRow encStr (Sort.ahead w n) blk 0 (xs.mergeSort fun x y => decide (x ≤ y)).toArray) os).heap[k]? = w.heap[k]? := by
      intro k hk hne
      have hne' : ¬ blk = k := fun e => hne e.symm
      simp [putRow, mapBlock, grow, Sort.ahead, Array.getElem?_append, Array.getElem?_modify, Array.getElem_modify, hk, hne']
    refine ⟨rfl, ⟨hlen.symm, hcap.1, hcap.2, fun i hi => ⟨_, rfl, ⟨hb1, rfl⟩, fun _ => encStr (sortG ltS xs)[i], fun j hj => ?_, rfl⟩⟩, ⟨rfl, rfl, rfl, by simp [grow, putRow, mapBlock, Sort.ahead], fun k hk hne => hblk k hk (fun e => hne (by rw [e]; rfl))⟩⟩
    have hj : j < 1 := hj
    obtain rfl : j = 0 := by omega
    have h1 := (hH2 i (by rw [hl]; simp; omega)).1
    rw [add_plain]
    have e2 : (xs.mergeSort fun x y => decide (x ≤ y)).toArray[i]! = (sortG ltS xs)[i] := by
      rw [getElem!_pos _ i (by simp [List.length_mergeSort]; omega)]
      simp [hs]
    rw [e2] at h1
    have hb3 := World.block_lt_of_cell? _ _ h1
    have e3 : (grow (putRow encStr (Sort.ahead w n) blk 0 (xs.mergeSort fun x y => decide (x ≤ y)).toArray) os).heap[blk]? = (putRow encStr (Sort.ahead w n) blk 0 (xs.mergeSort fun x y => decide (x ≤ y)).toArray).heap[blk]? := by
      simp only [grow]
      rw [Array.getElem?_append, if_pos hb3]
    rw [World.cell?_of_block (w := putRow encStr (Sort.ahead w n) blk 0 (xs.mergeSort fun x y => decide (x ≤ y)).toArray) e3]
    have e4 : GoT.size Bs = 1 := rfl
    rw [e4]
    simpa using h1
theorem sortMac_any (A : Option Addr) (c base : Nat) (xs : List Mac) (w : World) (T : Nat → Prop) (ho : Own w T base 63 A c xs) (hn : xs.Nodup) (hi : ∀ x ∈ xs, ∀ y ∈ xs, x.name = y.name → x = y) (hN : xs.length ≤ 1000000) :
    Calls Tryz.prog 50 #[.slice A xs.length c, .func (.func 51) #[] #[]] w fun e w' => e = .returned (.tuple #[]) ∧ Sl w' (fun _ => True) A xs.length c (sortG ltMac xs) ∧ w.grownBy w' (A.map Addr.block) := by
  have hcap := ho.cap
  rcases Classical.em (A = none) with hA | hA
  · subst hA
    have hx : xs = [] := by
      rcases Nat.eq_zero_or_pos xs.length with h | h
      · exact List.eq_nil_of_length_eq_zero h
      · exact absurd rfl (ho.ne_none h)
    subst hx
    refine (AnyF.slices_SortFunc_none Tryz.sortT50 none c _ w).mono ?_
    rintro e w' ⟨rfl, rfl⟩
    exact ⟨rfl, Sl.nil _ _ _ _ hcap.2, ⟨rfl, rfl, rfl, Nat.le_refl _, fun _ _ _ => rfl⟩⟩
  · obtain ⟨blk, rfl, hb1, hb2, hfz⟩ := ho.blk hA
    have hsl := (ho.sl (by decide)).wide (S' := fun k => T k ∨ k = blk) (fun k _ hk => by rcases hk with hk | hk; exact .inl hk; injection hk with hk; exact .inr hk.symm) (by decide)
    have hT : ∀ i (h : i < xs.length), ∃ A n c, w.cell? ⟨blk, i * 5, none⟩ = some (.string ⟨xs[i].name.toArray⟩) ∧ w.cell? ⟨blk, i * 5 + 1, none⟩ = some (.slice A n c) ∧ w.cell? ⟨blk, i * 5 + 2, none⟩ = some (.string ⟨xs[i].body.path.toArray⟩) ∧ w.cell? ⟨blk, i * 5 + 3, none⟩ = some (.int .i64 xs[i].body.fr) ∧ w.cell? ⟨blk, i * 5 + 4, none⟩ = some (.int .i64 xs[i].body.tu) ∧ Sl w (fun k => T k ∧ k ≠ blk) A n c xs[i].params := by
      intro i hi'
      obtain ⟨cs, ⟨h1, h2⟩, h3⟩ := ho
      rcases h2 with ⟨hv, h0⟩ | ⟨g, cap, cur, hv, hb, hg, hn', hm, hcs, htk⟩
      · injection hv with e1 e2 e3
        cases e1
      · injection hv with e1 e2 e3
        injection e1 with e1
        injection e1 with e1
        subst e1
        obtain ⟨r0, r2, r3, r4, A, n, c', r1, hs⟩ := h3 i hi'
        have hsz : GoT.size Mac = 5 := rfl
        rw [hsz] at h1 htk r0 r1 r2 r3 r4
        have hcell : ∀ j, j < 5 → w.cell? ⟨blk, i * 5 + j, none⟩ = some (cs.getD (i * 5 + j) undef) := fun j hj => by
          rw [cell_blk hg]
          have hlt : i * 5 + j < cs.length := by omega
          rw [List.getD_eq_getElem?_getD, List.getElem?_eq_getElem hlt, Option.getD_some]
          have h5 : cs[i * 5 + j]? = some cs[i * 5 + j] := List.getElem?_eq_getElem hlt
          rw [← h5]
          conv => rhs; rw [← htk]
          rw [List.getElem?_take, if_pos (by omega), Array.getElem?_toList]
        exact ⟨A, n, c', (hcell 0 (by omega)).trans (congrArg some r0), (hcell 1 (by omega)).trans (congrArg some r1), (hcell 2 (by omega)).trans (congrArg some r2), (hcell 3 (by omega)).trans (congrArg some r3), (hcell 4 (by omega)).trans (congrArg some r4),
          hs.wide (fun k hk hT => ⟨hT.1, fun e => hT.2 (by rw [e]; rfl)⟩) (by decide)⟩
    refine (sortM_any blk c xs w T hsl hfz hb2 hT hN).mono ?_
    rintro e w' ⟨rfl, ys, hp, hsrt, hs9, hg9⟩
    rw [← sorted_mac hn hi hp hsrt]
    exact ⟨rfl, hs9.any, hg9⟩
def VUnt (w : World) (v : Value) (u : Unt) : Prop := ∃ A1 n1 c1 A2 n2 c2 A3 n3 c3 A4 n4 c4 A5 n5 c5, v = .agg #[.string ⟨u.path.toArray⟩, .slice A1 n1 c1, .slice A2 n2 c2, .slice A3 n3 c3, .slice A4 n4 c4, .slice A5 n5 c5] ∧
  Sl w (fun _ => True) A1 n1 c1 u.flags ∧ Sl w (fun _ => True) A2 n2 c2 u.macros ∧ Sl w (fun _ => True) A3 n3 c3 u.items ∧ Sl w (fun _ => True) A4 n4 c4 u.heads ∧ Sl w (fun _ => True) A5 n5 c5 u.files
theorem VUnt.below {w w' : World} {v : Value} {u : Unt} (h : VUnt w v u) (hb : Below w.heap.size w w') : VUnt w' v u := by
  obtain ⟨A1, n1, c1, A2, n2, c2, A3, n3, c3, A4, n4, c4, A5, n5, c5, e, h1, h2, h3, h4, h5⟩ := h
  exact ⟨A1, n1, c1, A2, n2, c2, A3, n3, c3, A4, n4, c4, A5, n5, c5, e, h1.below hb, h2.below hb, h3.below hb, h4.below hb, h5.below hb⟩
def vFlt (f : Flt) : Value := .agg #[.int .i64 f.err, .int .i64 f.pkg, .int .i64 f.step, .string ⟨f.ln.path.toArray⟩, .int .i64 f.ln.n]
end Go.Proofs.YtpeamehplhpcjaaGreatDoor
namespace Go.Proofs.YtpeamehplhpcjaaGreatDoor
open Go.RowKit
theorem own_row {w : World} {base : Nat} {v : Value} {xs : List Bs} (h : w.ownsRow base 9 1 v xs.length (xs.map fun x => Value.string ⟨x.toArray⟩)) : ∃ A c, v = .slice A xs.length c ∧ Own w (fun _ => False) base 9 A c xs := by
  have hsz : GoT.size Bs = 1 := rfl
  have hrd : ∀ (A : Option Addr) i (h : i < xs.length), GoT.rd w (fun b => False ∧ A.map Addr.block ≠ some b) (fun j => (xs.map fun x => Value.string ⟨x.toArray⟩).getD (i * GoT.size Bs + j) undef) xs[i] := fun A i hi => by
    show List.getD _ (i * 1 + 0) undef = _
    rw [List.getD_eq_getElem?_getD]
    simp [hi]
  obtain ⟨h1, h2⟩ := h
  rcases h2 with ⟨hv, h0⟩ | ⟨g, cap, cur, hv, h3⟩
  · refine ⟨none, 0, by rw [hv, h0], _, ⟨h1, .inl ⟨by rw [h0], h0⟩⟩, hrd _⟩
  · refine ⟨some ⟨g, 0, none⟩, cap, hv, _, ⟨h1, .inr ⟨g, cap, cur, rfl, h3⟩⟩, hrd _⟩
theorem cloneB_any (A : Option Addr) (n c : Nat) (w : World) (S : Nat → Prop) (xs : List Bs) (hl : Sl w S A n c xs) (hN : n ≤ 1000000) :
    Calls Tryz.prog 28 #[.slice A n c] w fun e w' => ∃ A' c', e = .returned (.slice A' n c') ∧ Sl w' (fun k => w.heap.size ≤ k) A' n c' xs ∧ Below w.heap.size w w' := by
  have hn := hl.len
  subst hn
  cases A with
  | none =>
    have hx : xs = [] := by
      rcases Nat.eq_zero_or_pos xs.length with h | h
      · exact List.eq_nil_of_length_eq_zero h
      · obtain ⟨ad, hA, _⟩ := hl.at_ h; cases hA
    subst hx
    refine (Tryz.slices_Clone_string_nil 0 c w).mono ?_
    rintro e w' ⟨rfl, rfl⟩
    exact ⟨none, 0, rfl, Sl.nil _ _ _ _ (by decide), Below.refl _ _⟩
  | some ad =>
    rcases Nat.eq_zero_or_pos xs.length with h | h
    · have hx := List.eq_nil_of_length_eq_zero h
      subst hx
      refine (Tryz.slices_Clone_string_zero ad c w).mono ?_
      rintro e w' ⟨v, rfl, hrow, -, hb⟩
      obtain ⟨A', c', rfl, ho⟩ := own_row (xs := []) hrow
      exact ⟨A', c', rfl, (ho.sl (by decide)).wide (fun k _ hk => by rcases hk with hk | hk; exact hk.elim; exact (ho.lt k hk).1) (by decide), hb⟩
    · obtain ⟨b, o, hA, -, -, -⟩ := hl.str h
      injection hA with hA
      subst hA
      have hcell : ∀ j, j < (xs.map fun x => (⟨x.toArray⟩ : ByteArray)).length → w.cell? ⟨b, o + j, none⟩ = some (.string ((xs.map fun x => (⟨x.toArray⟩ : ByteArray)).getD j ByteArray.empty)) := fun j hj => by
        rw [List.length_map] at hj
        obtain ⟨b', o', hA', -, -, hc⟩ := hl.str hj
        injection hA' with hA'
        injection hA' with e1 e2
        subst e1 e2
        rw [hc, List.getD_eq_getElem?_getD]
        simp [hj]
      refine (Tryz.slices_Clone_string b o xs.length c (xs.map fun x => ⟨x.toArray⟩) w (by simp) (by omega) hcell).mono ?_
      rintro e w' ⟨v, rfl, hrow, -, hb⟩
      have e1 : ((xs.map fun x => (⟨x.toArray⟩ : ByteArray)).take xs.length).map Value.string = xs.map fun x => Value.string ⟨x.toArray⟩ := by
        rw [List.take_of_length_le (by simp), List.map_map]; rfl
      rw [e1] at hrow
      obtain ⟨A', c', rfl, ho⟩ := own_row hrow
      exact ⟨A', c', rfl, (ho.sl (by decide)).wide (fun k _ hk => by rcases hk with hk | hk; exact hk.elim; exact (ho.lt k hk).1) (by decide), hb⟩
theorem find_idx (l : List Itm) (x : Bs) (k : Nat) : (l.find? (fun y => y.name == x) = none ∧ idxS (fun y : Itm => y.name == x) l k = -1) ∨ ∃ i, ∃ h : i < l.length, idxS (fun y : Itm => y.name == x) l k = ((k + i : Nat) : Int) ∧ l.find? (fun y => y.name == x) = some l[i] := by
  induction l generalizing k with
  | nil => exact .inl ⟨rfl, rfl⟩
  | cons f r ih =>
    unfold idxS
    rw [List.find?_cons]
    by_cases h : (f.name == x) = true
    · rw [if_pos h, h]
      exact .inr ⟨0, by simp, by simp, rfl⟩
    · rw [if_neg h]
      rw [Bool.not_eq_true] at h
      rw [h]
      rcases ih (k + 1) with ⟨h1, h2⟩ | ⟨i, hi, h1, h2⟩
      · exact .inl ⟨h1, h2⟩
      · exact .inr ⟨i + 1, by simp; omega, by rw [h1]; congr 1; omega, by simpa using h2⟩
set_option maxHeartbeats 400000 in
theorem find1_any (w : World) (S : Nat → Prop) (v : Value) (x : Itm) (hv : VItm w S v x) (q : Nat) (nm : Bs) (hq : w.cell? ⟨q, 0, none⟩ = some (.string ⟨nm.toArray⟩)) :
    Calls Tryz.prog 65 #[v, .pointer (some ⟨q, 0, none⟩)] w fun e w' => e = .returned (.bool (x.name == nm)) ∧ Below w.heap.size w w' := by
  obtain ⟨A, n, c, rfl, -⟩ := hv
  have h1 := cell_alloc' hq (.cells #[.string ⟨x.name.toArray⟩, .int .i64 x.kind, .int .i64 x.mode, .slice A n c, .string ⟨x.body.path.toArray⟩, .int .i64 x.body.fr, .int .i64 x.body.tu] 48 (0, 0))
  clear hq
  go_enter Tryz.func65, Tryz.ntmps65
  go_wp2_with fail
  go_ret
  exact ⟨rfl, by ((repeat (first | (with_reducible exact Below.refl _ _) | (with_reducible refine belowA ?_ _) | (with_reducible refine belowD ?_) | (with_reducible refine belowS ?_ (Nat.le_refl _) _ _) | (with_reducible refine next ?_ (by assumption) (Nat.le_refl _)))); done)⟩
end Go.Proofs.YtpeamehplhpcjaaGreatDoor
