/- A part of the proofs of the laws of one package; see the law's own text, which comes last in 'order'. No conditions of its own. -/
import Derived.Maps.RangeWalk
import Derived.Test.YtpeamehplhpcjaaGreatDoorZ04
import Derived.Test.YtpeamehplhpcjaaGreatDoorZ20
set_option linter.unusedVariables false
set_option linter.unusedSimpArgs false
namespace Go.Proofs.YtpeamehplhpcjaaGreatDoor
open Go.RowKit Go.Shelf Go.Lib Go.Sort
structure Gwn (w w' : World) : Prop where
  below : Below w.heap.size w w'
  drawn : w.drawn ≤ w'.drawn
theorem Gwn.refl (w : World) : Gwn w w := ⟨Below.refl _ _, Nat.le_refl _⟩
theorem Gwn.alloc {a w : World} (h : Gwn a w) (o : Obj) : Gwn a (w.alloc o) := ⟨h.below.alloc h.below.size o, h.drawn⟩
theorem sortW_block {α : Type} [Inhabited α] (enc : α → List Value) (k : Nat) (w : World) (blk off m : Nat) (d : Array α) (os : Array Obj) (i : Nat) (hi : i < w.heap.size) (hne : i ≠ blk) : (sortWorldK enc k w blk off m d os).heap[i]? = w.heap[i]? := by
  have hne' : ¬ blk = i := fun e => hne e.symm
  simp [sortWorldK, putRowK, putRow, mapBlock, grow, ahead, Array.getElem?_append, Array.getElem?_modify, Array.getElem_modify, hi, hne']
theorem sortW_size {α : Type} [Inhabited α] (enc : α → List Value) (k : Nat) (w : World) (blk off m : Nat) (d : Array α) (os : Array Obj) : w.heap.size ≤ (sortWorldK enc k w blk off m d os).heap.size := by
  simp [sortWorldK, putRowK, putRow, mapBlock, grow, ahead]
theorem grow_of {w w' : World} (h : Gwn w w') : ∃ q os, w' = grow (w.drewN q) os := by
  refine ⟨w'.drawn - w.drawn, w'.heap.extract w.heap.size w'.heap.size, ?_⟩
  have h1 := h.drawn
  have h2 := h.below.size
  have hh : w'.heap = w.heap ++ w'.heap.extract w.heap.size w'.heap.size := by
    apply Array.ext'
    apply List.ext_getElem?
    intro i
    rw [Array.toList_append]
    by_cases hi : i < w.heap.size
    · rw [List.getElem?_append_left (by simpa using hi)]
      simpa using h.below.block i hi
    · rw [List.getElem?_append_right (by simp; omega)]
      simp
      have e : w.heap.size + (i - w.heap.size) = i := by omega
      rw [List.getElem?_take, List.getElem?_drop, e]
      by_cases hlt : i - w.heap.size < w'.heap.size - w.heap.size
      · rw [if_pos hlt]; simp
      · rw [if_neg hlt, Array.getElem?_eq_none (by omega)]
  obtain ⟨hp, tp, dr, os, ot⟩ := w'
  simp only at *
  have e1 := h.below.os; have e2 := h.below.tape; have e3 := h.below.output
  simp only at e1 e2 e3
  subst e1 e2 e3
  unfold grow World.drewN
  simp only [World.mk.injEq, and_true, true_and]
  exact ⟨hh, by omega⟩
theorem choose_list {β : Type} [Inhabited β] (P : Nat → β → Prop) (n : Nat) (h : ∀ i, i < n → ∃ b, P i b) : ∃ d : Array β, d.size = n ∧ ∀ i, i < n → P i d[i]! := by
  induction n with
  | zero => exact ⟨#[], rfl, fun i hi => absurd hi (Nat.not_lt_zero i)⟩
  | succ n ih =>
    obtain ⟨d, hd, hp⟩ := ih fun i hi => h i (by omega)
    obtain ⟨b, hb⟩ := h n (by omega)
    refine ⟨d.push b, by simp [hd], fun i hi => ?_⟩
    rw [getElem!_pos _ i (by simp; omega)]
    by_cases hlt : i < n
    · rw [Array.getElem_push_lt (by omega)]
      have := hp i hlt
      rwa [getElem!_pos _ i (by omega)] at this
    · have : i = d.size := by omega
      subst this
      simp
      rw [hd]
      exact hb
theorem cmpb (a : Bs) : ∀ b : Bs, (Lib.compareBytes a b < 0 ↔ ltS a b = true) ∧ (Lib.compareBytes a b = 0 ↔ a = b) := by
  induction a with
  | nil => intro b; cases b <;> simp [Lib.compareBytes, ltS]
  | cons x r ih =>
    intro b
    cases b with
    | nil => simp [Lib.compareBytes, ltS]
    | cons y t =>
      obtain ⟨i1, i2⟩ := ih t
      unfold Lib.compareBytes ltS
      by_cases h1 : x < y
      · have hx : ¬ x = y := fun e => by subst e; exact absurd h1 (by simp [UInt8.lt_iff_toNat_lt])
        rw [if_pos h1, if_neg hx]
        simp only [decide_eq_true_eq, List.cons.injEq, hx, false_and, iff_false]
        have := UInt8.lt_iff_toNat_lt.1 h1
        exact ⟨⟨fun _ => this, fun _ => by decide⟩, by decide⟩
      · rw [if_neg h1]
        by_cases h2 : y < x
        · have hx : ¬ x = y := fun e => by subst e; exact h1 h2
          rw [if_pos h2, if_neg hx]
          simp only [decide_eq_true_eq, List.cons.injEq, hx, false_and, iff_false]
          have := UInt8.lt_iff_toNat_lt.1 h2
          exact ⟨⟨fun h => absurd h (by decide), fun h => by omega⟩, by decide⟩
        · have hx : x = y := by
            have a1 : ¬ x.toNat < y.toNat := fun h => h1 (UInt8.lt_iff_toNat_lt.2 h)
            have a2 : ¬ y.toNat < x.toNat := fun h => h2 (UInt8.lt_iff_toNat_lt.2 h)
            exact UInt8.toNat_inj.1 (by omega)
          rw [if_neg h2, if_pos hx, i1, i2]
          simp [hx]
theorem cmpC_any (a b : Bs) (w : World) : Calls Tryz.prog 52 #[.string ⟨a.toArray⟩, .string ⟨b.toArray⟩] w fun e w' => e = .returned (.int .i64 (Lib.compareBytes a b)) ∧ w' = w :=
  Tryz.strings_Compare ⟨a.toArray⟩ ⟨b.toArray⟩ w
def cfL (a b : Ln) : Int := if Lib.compareBytes a.path b.path ≠ 0 then Lib.compareBytes a.path b.path else a.n - b.n
def cfM (a b : Mac) : Int := Lib.compareBytes a.name b.name
theorem cfL_lt (a b : Ln) : cfL a b < 0 ↔ ltLn a b = true := by
  obtain ⟨h1, h2⟩ := cmpb a.path b.path
  unfold cfL ltLn
  by_cases h : Lib.compareBytes a.path b.path = 0
  · rw [if_neg (by simp [h])]
    have e := h2.1 h
    rw [e, ltS_irr]
    simp
    omega
  · rw [if_pos h, h1]
    have hne : ¬ a.path = b.path := fun e => h (h2.2 e)
    simp [hne]
theorem cfM_lt (a b : Mac) : cfM a b < 0 ↔ ltMac a b = true := (cmpb a.name b.name).1
theorem ltMac_nt {x y z : Mac} (h1 : ltMac x y = false) (h2 : ltMac y z = false) : ltMac x z = false := by
  unfold ltMac at *
  cases h3 : ltS x.name z.name with
  | false => rfl
  | true =>
    rcases ltS_tot x.name y.name with h | h | h
    · rw [h] at h1; cases h1
    · rw [← h, h3] at h2; cases h2
    · rw [ltS_trans _ _ _ h h3] at h2; cases h2
theorem ltLn_nt {x y z : Ln} (h1 : ltLn x y = false) (h2 : ltLn y z = false) : ltLn x z = false := by
  cases h3 : ltLn x z with
  | false => rfl
  | true =>
    rcases ltLn_tot x y with h | h | h
    · rw [h] at h1; cases h1
    · rw [← h, h3] at h2; cases h2
    · rw [strLn.2 _ _ _ h h3] at h2; cases h2
set_option maxHeartbeats 1000000 in
theorem spans1_any (a b : Ln) (w : World) (ha : 0 ≤ a.n ∧ a.n ≤ 100000) (hb : 0 ≤ b.n ∧ b.n ≤ 100000) :
    Calls Tryz.prog 89 #[.agg #[.string ⟨a.path.toArray⟩, .int .i64 a.n], .agg #[.string ⟨b.path.toArray⟩, .int .i64 b.n]] w fun e w' => e = .returned (.int .i64 (cfL a b)) ∧ Gwn w w' := by
  obtain ⟨ap, an⟩ := a
  obtain ⟨bp, bn⟩ := b
  simp only at ha hb
  have hc := fun w => cmpC_any ap bp w
  have hv : cfL ⟨ap, an⟩ ⟨bp, bn⟩ = if Lib.compareBytes ap bp ≠ 0 then Lib.compareBytes ap bp else an - bn := rfl
  generalize Lib.compareBytes ap bp = v at *
  have HC := Lib.hid hc; have HV := Lib.hid hv
  clear hc hv
  go_enter Tryz.func89, Tryz.ntmps89
  go_upto_region 1 with fail
  have hb1 : Gwn w ((w.alloc (.cells #[.string ⟨ap.toArray⟩, .int .i64 an] 38)).alloc (.cells #[.string ⟨bp.toArray⟩, .int .i64 bn] 38)) := ((Gwn.refl w).alloc _).alloc _
  have q0 : ((w.alloc (.cells #[.string ⟨ap.toArray⟩, .int .i64 an] 38)).alloc (.cells #[.string ⟨bp.toArray⟩, .int .i64 bn] 38)).heap[w.heap.size]? = some (.cells #[.string ⟨ap.toArray⟩, .int .i64 an] 38 (0, 0)) := by ((repeat (first | (with_reducible assumption) | ((with_reducible refine blkAt2 ?_ ?_); (focus (simp; done)); rfl) | (with_reducible refine blkOld ?_ _) | (with_reducible refine keptBlk (by assumption) ?_) | (with_reducible refine grownBlk (by assumption) ?_ (by simp; omega)) | (with_reducible refine blkDrw ?_))); done)
  have q1 : ((w.alloc (.cells #[.string ⟨ap.toArray⟩, .int .i64 an] 38)).alloc (.cells #[.string ⟨bp.toArray⟩, .int .i64 bn] 38)).heap[w.heap.size + 1]? = some (.cells #[.string ⟨bp.toArray⟩, .int .i64 bn] 38 (0, 0)) := by ((repeat (first | (with_reducible assumption) | ((with_reducible refine blkAt2 ?_ ?_); (focus (simp; done)); rfl) | (with_reducible refine blkOld ?_ _) | (with_reducible refine keptBlk (by assumption) ?_) | (with_reducible refine grownBlk (by assumption) ?_ (by simp; omega)) | (with_reducible refine blkDrw ?_))); done)
  generalize ((w.alloc (.cells #[.string ⟨ap.toArray⟩, .int .i64 an] 38)).alloc (.cells #[.string ⟨bp.toArray⟩, .int .i64 bn] 38)) = W at *
  have a0 := (cell_blk q0 0).trans rfl
  have a1 := (cell_blk q0 1).trans rfl
  have b0 := (cell_blk q1 0).trans rfl
  have b1 := (cell_blk q1 1).trans rfl
  have HB := Lib.hid hb1
  clear hb1 q0 q1
  by_cases h : v ≠ 0
  · have hE : (v != 0) = true := by rw [bne_iff_ne]; exact h
    have HR := Lib.hid (HV.out.trans (if_pos h))
    clear h
    go_wp2_with fail
    refine (HC.out W).mono ?_
    rintro e w1 ⟨rfl, rfl⟩
    go_wp2_with fail
    go_ret
    exact ⟨ret_int HR.out, HB.out⟩
  · have h0 : v = 0 := by omega
    subst h0
    have HR := Lib.hid (HV.out.trans (if_neg h))
    go_wp2_with fail
    refine (HC.out W).mono ?_
    rintro e w1 ⟨rfl, rfl⟩
    go_wp2_with fail
    go_ret
    exact ⟨ret_int HR.out, HB.out⟩
set_option maxHeartbeats 1000000 in
theorem scan1_any (a b : Mac) (A : Option Addr) (n c : Nat) (A2 : Option Addr) (n2 c2 : Nat) (w : World) :
    Calls Tryz.prog 51 #[.agg #[.string ⟨a.name.toArray⟩, .slice A n c, .string ⟨a.body.path.toArray⟩, .int .i64 a.body.fr, .int .i64 a.body.tu], .agg #[.string ⟨b.name.toArray⟩, .slice A2 n2 c2, .string ⟨b.body.path.toArray⟩, .int .i64 b.body.fr, .int .i64 b.body.tu]] w fun e w' => e = .returned (.int .i64 (cfM a b)) ∧ Gwn w w' := by
  obtain ⟨nm, ps, p, f, g⟩ := a
  obtain ⟨nm2, ps2, p2, f2, g2⟩ := b
  have hc := fun w => cmpC_any nm nm2 w
  have hv : cfM ⟨nm, ps, p, f, g⟩ ⟨nm2, ps2, p2, f2, g2⟩ = Lib.compareBytes nm nm2 := rfl
  generalize Lib.compareBytes nm nm2 = v at *
  simp only
  have HC := Lib.hid hc; have HV := Lib.hid hv
  clear hc hv
  have hb1 : Gwn w ((w.alloc (.cells #[.string ⟨nm.toArray⟩, .slice A n c, .string ⟨p.toArray⟩, .int .i64 f, .int .i64 g] 63)).alloc (.cells #[.string ⟨nm2.toArray⟩, .slice A2 n2 c2, .string ⟨p2.toArray⟩, .int .i64 f2, .int .i64 g2] 63)) := ((Gwn.refl w).alloc _).alloc _
  have HB := Lib.hid hb1
  clear hb1
  go_enter Tryz.func51, Tryz.ntmps51
  go_wp2_with (first | (go_at_call 52; refine (HC.out _).mono ?_; rintro e w1 ⟨rfl, rfl⟩))
  go_ret
  exact ⟨ret_int HV.out, HB.out⟩
def LE := {x : Ln // 0 ≤ x.n ∧ x.n ≤ 100000}
instance : Inhabited LE := ⟨⟨⟨[], 0⟩, by decide, by decide⟩⟩
def encL (x : LE) : List Value := [.string ⟨x.1.path.toArray⟩, .int .i64 x.1.n]
def cfLE (x y : LE) : Int := cfL x.1 y.1
theorem swoL : SWO (ltOf cfLE) where
  irrefl := fun x => by
    unfold ltOf cfLE
    rw [decide_eq_false_iff_not, cfL_lt, strLn.1]; simp
  trans := fun x y z h1 h2 => by
    unfold ltOf cfLE at *
    simp only [decide_eq_true_eq] at *
    rw [cfL_lt] at *
    exact strLn.2 _ _ _ h1 h2
  ntrans := fun x y z h1 h2 => by
    unfold ltOf cfLE at *
    simp only [decide_eq_false_iff_not] at *
    rw [cfL_lt, Bool.not_eq_true] at *
    exact ltLn_nt h1 h2
theorem cmpL (w : World) (blk size : Nat) : CmpLays Tryz.prog 89 #[] encL 2 cfLE blk 0 size w := by
  intro m os dk hd x y
  refine (spans1_any x.1 y.1 _ x.2 y.2).mono ?_
  rintro e w' ⟨rfl, hg⟩
  exact ⟨rfl, grow_of hg⟩
theorem sortL_any (blk cap : Nat) (xs : List Ln) (w : World) (hs : Sl w (fun k => k = blk) (some ⟨blk, 0, none⟩) xs.length cap xs) (hcell : ∀ i, w.frozen? ⟨blk, i, none⟩ = false) (hblk : blk < w.heap.size)
    (hin : ∀ x ∈ xs, 0 ≤ x.n ∧ x.n ≤ 100000) (hN : xs.length ≤ 1000000) :
    Calls Tryz.prog 88 #[.slice (some ⟨blk, 0, none⟩) xs.length cap, .func (.func 89) #[] #[]] w fun e w' => e = .returned (.tuple #[]) ∧ ∃ ys : List Ln, ys.Perm xs ∧ (∀ i j (hj : j < ys.length) (hij : i < j), ¬ ltLn ys[j] (ys[i]'(by omega)) = true) ∧
      Sl w' (fun k => k = blk) (some ⟨blk, 0, none⟩) xs.length cap ys ∧ w.grownBy w' (some blk) := by
  obtain ⟨d, hd, hp⟩ := choose_list (β := LE) (fun i b => xs[i]? = some b.1) xs.length (fun i hi => ⟨⟨xs[i], hin _ (List.getElem_mem hi)⟩, List.getElem?_eq_getElem hi⟩)
  have hcv : ∀ i (h : i < xs.length), w.cell? ⟨blk, i * 2, none⟩ = some (.string ⟨xs[i].path.toArray⟩) ∧ w.cell? ⟨blk, i * 2 + 1, none⟩ = some (.int .i64 xs[i].n) := fun i h => by
    obtain ⟨b, o, hA, -, -, h0, h1⟩ := hs.lne h
    injection hA with hA
    injection hA with e1 e2
    subst e1 e2
    rw [Nat.zero_add] at h0
    rw [Nat.zero_add] at h1
    exact ⟨h0, h1⟩
  have hH : HoldsK encL 2 w blk 0 d := by
    intro t ht
    rw [size_flatK, hd] at ht
    refine ⟨?_, by rw [Nat.zero_add]; exact hcell t⟩
    rw [get_flatK _ _ _ t (by rw [hd]; exact ht), Nat.zero_add]
    have h1 := hp (t / 2) (by omega)
    have hv := hcv (t / 2) (by omega)
    rw [List.getElem?_eq_getElem (by omega)] at h1
    injection h1 with h1
    rw [h1] at hv
    obtain ⟨h2, h3⟩ := hv
    rcases Nat.mod_two_eq_zero_or_one t with h | h
    · rw [h]
      have e : t / 2 * 2 = t := by omega
      rw [e] at h2
      exact h2
    · rw [h]
      have e : t / 2 * 2 + 1 = t := by omega
      rw [e] at h3
      exact h3
  have hsort := AnyQ.slices_SortFunc Tryz.sortT88 2 Tryz.isAgg38 Tryz.sizeOf38 encL (fun _ => rfl) (fun x v hv => by simp [encL] at hv; rcases hv with rfl | rfl <;> rfl) cfLE swoL 89 #[] blk 0 cap d w (fun _ _ => by kernel_rfl) (cmpL w blk d.size) hH hblk (by omega)
  rw [hd] at hsort
  refine hsort.mono ?_
  rintro e w' ⟨rfl, d', n, os, ⟨hz, -, hperm⟩, hsrt, rfl⟩
  have hz' : d'.size = xs.length := hz.trans hd
  have hxs : d.toList.map (fun b => b.1) = xs := by
    apply List.ext_getElem?
    intro i
    rw [List.getElem?_map]
    by_cases hi : i < xs.length
    · have h1 := hp i hi
      rw [h1, getElem!_pos d i (by omega)]
      simp [hd, hi]
    · rw [List.getElem?_eq_none (by simp; omega), List.getElem?_eq_none (by omega)]; rfl
  rw [show d'.extract 0 xs.length = d' by rw [← hz']; simp, show d.extract 0 xs.length = d by rw [← hd]; simp] at hperm
  have hyl : (d'.toList.map (fun b => b.1)).length = xs.length := by simp [hz']
  have hyg : ∀ i (h : i < xs.length), (d'.toList.map (fun b => b.1))[i]'(by omega) = d'[i]!.1 := fun i h => by
    rw [List.getElem_map, getElem!_pos d' i (by omega)]; simp
  refine ⟨rfl, d'.toList.map (fun b => b.1), by rw [← hxs]; exact hperm.map _, fun i j hj hij => ?_, ?_, ⟨rfl, rfl, rfl, sortW_size _ _ _ _ _ _ _ _, fun k hk hne => sortW_block _ _ _ _ _ _ _ _ k hk (fun e => hne (by rw [e]))⟩⟩
  · rw [hyg i (by omega), hyg j (by omega), ← cfL_lt]
    have := hsrt i j (Nat.zero_le _) hij (by omega)
    unfold ltOf cfLE at this
    simpa using this
  · have hW := (show SWK encL 2 w blk 0 d' (sortWorldK encL 2 w blk 0 n d' os) from ⟨n, os, rfl⟩).holds hblk hH (by omega)
    refine ⟨hyl.symm, hs.2.1, hs.2.2.1, fun i hi => ⟨_, rfl, rfl, fun j => (encL d'[i]!)[j]!, fun j hj => ?_, ?_⟩⟩
    · have h1 := (hW.cell (i := i) (c := j) (by omega) hj).1
      rw [add_plain]
      rw [Nat.zero_add] at h1 ⊢
      exact h1
    · rw [hyg i (by omega)]
      exact ⟨rfl, rfl⟩
theorem sorted_ln {L ys : List Ln} (hn : L.Nodup) (hp : ys.Perm L) (hs : ∀ i j (hj : j < ys.length) (hij : i < j), ¬ ltLn ys[j] (ys[i]'(by omega)) = true) : ys = sortG ltLn L := by
  have hnd : ys.Nodup := hp.nodup_iff.2 hn
  obtain ⟨s1, s2⟩ := sortG_law strLn L (fun a _ b _ => ltLn_tot b a)
  refine srt_unique strLn ?_ s1 (fun x => by rw [hp.mem_iff, s2])
  show List.Pairwise (fun a b => ltLn a b = true) ys
  rw [List.pairwise_iff_getElem]
  intro i j hi hj hij
  rcases ltLn_tot ys[i] ys[j] with h | h | h
  · exact h
  · exact absurd h (List.pairwise_iff_getElem.1 hnd i j hi hj hij)
  · exact absurd h (hs i j hj hij)
structure ME where
  at_ : Mac
  A : Option Addr
  n : Nat
  c : Nat
def MEok (w : World) (T : Nat → Prop) := {x : ME // Sl w T x.A x.n x.c x.at_.params}
instance (w : World) (T : Nat → Prop) : Inhabited (MEok w T) := ⟨⟨⟨⟨[], [], ⟨[], 0, 0⟩⟩, none, 0, 0⟩, Sl.nil _ _ _ _ (by decide)⟩⟩
def encM {w : World} {T : Nat → Prop} (x : MEok w T) : List Value := [.string ⟨x.1.at_.name.toArray⟩, .slice x.1.A x.1.n x.1.c, .string ⟨x.1.at_.body.path.toArray⟩, .int .i64 x.1.at_.body.fr, .int .i64 x.1.at_.body.tu]
def cfME {w : World} {T : Nat → Prop} (x y : MEok w T) : Int := cfM x.1.at_ y.1.at_
theorem swoM (w : World) (T : Nat → Prop) : SWO (ltOf (cfME (w := w) (T := T))) where
  irrefl := fun x => by
    unfold ltOf cfME
    rw [decide_eq_false_iff_not, cfM_lt, strMac.1]; simp
  trans := fun x y z h1 h2 => by
    unfold ltOf cfME at *
    simp only [decide_eq_true_eq] at *
    rw [cfM_lt] at *
    exact strMac.2 _ _ _ h1 h2
  ntrans := fun x y z h1 h2 => by
    unfold ltOf cfME at *
    simp only [decide_eq_false_iff_not] at *
    rw [cfM_lt, Bool.not_eq_true] at *
    exact ltMac_nt h1 h2
theorem cmpM (w : World) (T : Nat → Prop) (blk size : Nat) : CmpLays Tryz.prog 51 #[] (encM (w := w) (T := T)) 5 cfME blk 0 size w := by
  intro m os dk hd x y
  refine (scan1_any x.1.at_ y.1.at_ _ _ _ _ _ _ _).mono ?_
  rintro e w' ⟨rfl, hg⟩
  exact ⟨rfl, grow_of hg⟩
theorem sortM_any (blk cap : Nat) (xs : List Mac) (w : World) (T : Nat → Prop) (hs : Sl w (fun k => T k ∨ k = blk) (some ⟨blk, 0, none⟩) xs.length cap xs) (hcell : ∀ i, w.frozen? ⟨blk, i, none⟩ = false) (hblk : blk < w.heap.size)
    (hT : ∀ i (h : i < xs.length), ∃ A n c, w.cell? ⟨blk, i * 5, none⟩ = some (.string ⟨xs[i].name.toArray⟩) ∧ w.cell? ⟨blk, i * 5 + 1, none⟩ = some (.slice A n c) ∧ w.cell? ⟨blk, i * 5 + 2, none⟩ = some (.string ⟨xs[i].body.path.toArray⟩) ∧ w.cell? ⟨blk, i * 5 + 3, none⟩ = some (.int .i64 xs[i].body.fr) ∧ w.cell? ⟨blk, i * 5 + 4, none⟩ = some (.int .i64 xs[i].body.tu) ∧ Sl w (fun k => T k ∧ k ≠ blk) A n c xs[i].params) (hN : xs.length ≤ 1000000) :
    Calls Tryz.prog 50 #[.slice (some ⟨blk, 0, none⟩) xs.length cap, .func (.func 51) #[] #[]] w fun e w' => e = .returned (.tuple #[]) ∧ ∃ ys : List Mac, ys.Perm xs ∧ (∀ i j (hj : j < ys.length) (hij : i < j), ¬ ltMac ys[j] (ys[i]'(by omega)) = true) ∧
      Sl w' (fun k => T k ∨ k = blk) (some ⟨blk, 0, none⟩) xs.length cap ys ∧ w.grownBy w' (some blk) := by
  obtain ⟨d, hd, hp⟩ := choose_list (β := MEok w (fun k => T k ∧ k ≠ blk)) (fun i b => xs[i]? = some b.1.at_ ∧ w.cell? ⟨blk, i * 5, none⟩ = some (.string ⟨b.1.at_.name.toArray⟩) ∧ w.cell? ⟨blk, i * 5 + 1, none⟩ = some (.slice b.1.A b.1.n b.1.c) ∧ w.cell? ⟨blk, i * 5 + 2, none⟩ = some (.string ⟨b.1.at_.body.path.toArray⟩) ∧ w.cell? ⟨blk, i * 5 + 3, none⟩ = some (.int .i64 b.1.at_.body.fr) ∧ w.cell? ⟨blk, i * 5 + 4, none⟩ = some (.int .i64 b.1.at_.body.tu)) xs.length (fun i hi => by
    obtain ⟨A, n, c, h1, h2, h3, h4, h5, h6⟩ := hT i hi
    exact ⟨⟨⟨xs[i], A, n, c⟩, h6⟩, List.getElem?_eq_getElem hi, h1, h2, h3, h4, h5⟩)
  have hH : HoldsK encM 5 w blk 0 d := by
    intro t ht
    rw [size_flatK, hd] at ht
    refine ⟨?_, by rw [Nat.zero_add]; exact hcell t⟩
    rw [get_flatK _ _ _ t (by rw [hd]; exact ht), Nat.zero_add]
    obtain ⟨-, h0, h1, h2, h3, h4⟩ := hp (t / 5) (by omega)
    have hm : t % 5 = 0 ∨ t % 5 = 1 ∨ t % 5 = 2 ∨ t % 5 = 3 ∨ t % 5 = 4 := by omega
    rcases hm with h | h | h | h | h
    · rw [h]; have e : t / 5 * 5 = t := by omega
      rw [e] at h0; exact h0
    · rw [h]; have e : t / 5 * 5 + 1 = t := by omega
      rw [e] at h1; exact h1
    · rw [h]; have e : t / 5 * 5 + 2 = t := by omega
      rw [e] at h2; exact h2
    · rw [h]; have e : t / 5 * 5 + 3 = t := by omega
      rw [e] at h3; exact h3
    · rw [h]; have e : t / 5 * 5 + 4 = t := by omega
      rw [e] at h4; exact h4
  have hsort := AnyQ.slices_SortFunc Tryz.sortT50 5 Tryz.isAgg63 Tryz.sizeOf63 encM (fun _ => rfl) (fun x v hv => by simp [encM] at hv; rcases hv with rfl | rfl | rfl | rfl | rfl <;> rfl) cfME (swoM w _) 51 #[] blk 0 cap d w (fun _ _ => by kernel_rfl) (cmpM w _ blk d.size) hH hblk (by omega)
  rw [hd] at hsort
  refine hsort.mono ?_
  rintro e w' ⟨rfl, d', n, os, ⟨hz, -, hperm⟩, hsrt, rfl⟩
  have hz' : d'.size = xs.length := hz.trans hd
  have hxs : d.toList.map (fun b => b.1.at_) = xs := by
    apply List.ext_getElem?
    intro i
    rw [List.getElem?_map]
    by_cases hi : i < xs.length
    · obtain ⟨h1, -⟩ := hp i hi
      rw [h1, getElem!_pos d i (by omega)]
      simp [hd, hi]
    · rw [List.getElem?_eq_none (by simp; omega), List.getElem?_eq_none (by omega)]; rfl
  rw [show d'.extract 0 xs.length = d' by rw [← hz']; simp, show d.extract 0 xs.length = d by rw [← hd]; simp] at hperm
  have hyl : (d'.toList.map (fun b => b.1.at_)).length = xs.length := by simp [hz']
  have hyg : ∀ i (h : i < xs.length), (d'.toList.map (fun b => b.1.at_))[i]'(by omega) = d'[i]!.1.at_ := fun i h => by
    rw [List.getElem_map, getElem!_pos d' i (by omega)]; simp
  refine ⟨rfl, d'.toList.map (fun b => b.1.at_), by rw [← hxs]; exact hperm.map _, fun i j hj hij => ?_, ?_, ⟨rfl, rfl, rfl, sortW_size _ _ _ _ _ _ _ _, fun k hk hne => sortW_block _ _ _ _ _ _ _ _ k hk (fun e => hne (by rw [e]))⟩⟩
  · rw [hyg i (by omega), hyg j (by omega), ← cfM_lt]
    have := hsrt i j (Nat.zero_le _) hij (by omega)
    unfold ltOf cfME at this
    simpa using this
  · have hW := (show SWK encM 5 w blk 0 d' (sortWorldK encM 5 w blk 0 n d' os) from ⟨n, os, rfl⟩).holds hblk hH (by omega)
    refine ⟨hyl.symm, hs.2.1, hs.2.2.1, fun i hi => ⟨_, rfl, .inr rfl, fun j => (encM d'[i]!)[j]!, fun j hj => ?_, ?_⟩⟩
    · have h1 := (hW.cell (i := i) (c := j) (by omega) hj).1
      rw [add_plain]
      rw [Nat.zero_add] at h1 ⊢
      exact h1
    · rw [hyg i (by omega)]
      refine ⟨rfl, rfl, rfl, rfl, d'[i]!.1.A, d'[i]!.1.n, d'[i]!.1.c, rfl, ((d'[i]!.2).keep fun k hk hk' => sortW_block _ _ _ _ _ _ _ _ k hk hk'.2).wide (fun k _ hk => .inl hk.1) (by decide)⟩
theorem sorted_mac {L ys : List Mac} (hn : L.Nodup) (hi : ∀ x ∈ L, ∀ y ∈ L, x.name = y.name → x = y) (hp : ys.Perm L) (hs : ∀ i j (hj : j < ys.length) (hij : i < j), ¬ ltMac ys[j] (ys[i]'(by omega)) = true) : ys = sortG ltMac L := by
  have hnd : ys.Nodup := hp.nodup_iff.2 hn
  have htot : ∀ x ∈ L, ∀ y ∈ L, ltMac y x = true ∨ y = x ∨ ltMac x y = true := fun x hx y hy => by
    rcases ltS_tot y.name x.name with h | h | h
    · exact .inl h
    · exact .inr (.inl (hi y hy x hx h))
    · exact .inr (.inr h)
  obtain ⟨s1, s2⟩ := sortG_law strMac L htot
  refine srt_unique strMac ?_ s1 (fun x => by rw [hp.mem_iff, s2])
  show List.Pairwise (fun a b => ltMac a b = true) ys
  rw [List.pairwise_iff_getElem]
  intro i j hi' hj hij
  rcases htot ys[j] (hp.mem_iff.1 (List.getElem_mem hj)) ys[i] (hp.mem_iff.1 (List.getElem_mem hi')) with h | h | h
  · exact h
  · exact absurd h (List.pairwise_iff_getElem.1 hnd i j hi' hj hij)
  · exact absurd h (hs i j hj hij)
end Go.Proofs.YtpeamehplhpcjaaGreatDoor
namespace Go.Proofs.YtpeamehplhpcjaaGreatDoor
open Go.RowKit
theorem RangeV.left_eq {κ : Type} {T : KeyT κ} {w : World} {b r : Nat} {m left : List (κ × Value)} (h : RangeV T w b r m left) : w.rangeLeft b r = left.length := by
  obtain ⟨es, clock, since, seen, c0, h1, h2, h3, h4, h5, h6, h7, h8, h9, h10⟩ := h
  unfold World.rangeLeft
  rw [h1, h5]
  have := congrArg List.length h9
  simpa using this
theorem RangeV.grown {κ : Type} {T : KeyT κ} {w w' : World} {b r : Nat} {m left : List (κ × Value)} {row : Option Nat} (h : RangeV T w b r m left) (hg : w.grownBy w' row) (hb : row ≠ some b) (hr : row ≠ some r) : RangeV T w' b r m left :=
  h.keep (hg.block b h.lt.1 fun e => hb e.symm) (hg.block r h.lt.2.1 fun e => hr e.symm)
theorem Own.ne_none {α : Type} [GoT α] {w : World} {T : Nat → Prop} {base e : Nat} {A : Option Addr} {c : Nat} {xs : List α} (h : Own w T base e A c xs) (hx : 0 < xs.length) : A ≠ none := by
  obtain ⟨cs, ⟨h1, h2⟩, h3⟩ := h
  rcases h2 with ⟨hv, h0⟩ | ⟨g, cap, cur, hv, _⟩
  · omega
  · injection hv with e1 e2 e3
    rw [e1]; simp
theorem Own.blk {α : Type} [GoT α] {w : World} {T : Nat → Prop} {base e : Nat} {A : Option Addr} {c : Nat} {xs : List α} (h : Own w T base e A c xs) (hx : A ≠ none) : ∃ g, A = some ⟨g, 0, none⟩ ∧ base ≤ g ∧ g < w.heap.size ∧ ∀ i, w.frozen? ⟨g, i, none⟩ = false := by
  obtain ⟨cs, ⟨h1, h2⟩, h3⟩ := h
  rcases h2 with ⟨hv, h0⟩ | ⟨g, cap, cur, hv, hb, hg, _⟩
  · injection hv with e1 e2 e3
    exact absurd e1 hx
  · injection hv with e1 e2 e3
    exact ⟨g, e1, hb, (Array.getElem?_eq_some_iff.1 hg).1, fun i => frz_blk hg i⟩
theorem Own.put {α : Type} [GoT α] {w : World} {T : Nat → Prop} {base e : Nat} {A : Option Addr} {c : Nat} {xs : List α} (h : Own w T base e A c xs) {g : Nat} (hA : A = some ⟨g, 0, none⟩) (hT : ∀ k, T k → k ≠ g) {k j : Nat} (hk : k < xs.length) (hj : j < GoT.size α) (v : Value) (y : α)
    (hy : ∀ (z : Nat → Value), GoT.rd w (fun b => T b ∧ A.map Addr.block ≠ some b) z xs[k] → GoT.rd w (fun b => T b ∧ A.map Addr.block ≠ some b) (fun i => if i = j then v else z i) y) :
    Own (w.setCell ⟨g, k * GoT.size α + j, none⟩ v) T base e A c (xs.set k y) := by
  obtain ⟨cs, ⟨h1, h2⟩, h3⟩ := h
  subst hA
  rcases h2 with ⟨hv, h0⟩ | ⟨g', cap, cur, hv, hb, hg, hn, hm, hcs, htk⟩
  · injection hv with e1 e2 e3
    cases e1
  · injection hv with e1 e2 e3
    injection e1 with e1
    injection e1 with e1
    subst e1
    have hmul : (k + 1) * GoT.size α ≤ xs.length * GoT.size α := Nat.mul_le_mul_right _ hk
    rw [Nat.add_mul, Nat.one_mul] at hmul
    refine ⟨cs.set (k * GoT.size α + j) v, ⟨by rw [List.length_set, h1, List.length_set], .inr ⟨g, cap, cur.setIfInBounds (k * GoT.size α + j) v, by rw [List.length_set, ← e3], hb, Blk.set w hg _ _, by rw [List.length_set]; exact hn, hm, by simpa using hcs, ?_⟩⟩, fun i hi => ?_⟩
    · rw [Array.toList_setIfInBounds, List.length_set, List.take_set, htk]
    · rw [List.length_set] at hi
      have hrd := h3 i hi
      refine GoT.keep (w := w) (fun b _ hb => set_other _ _ _ _ _ (hT b hb.1)) ?_
      by_cases hik : i = k
      · subst hik
        rw [List.getElem_set_self]
        refine GoT.same (fun q hq => ?_) (hy _ hrd)
        rw [List.getD_eq_getElem?_getD, List.getElem?_set]
        by_cases hq2 : q = j
        · subst hq2
          rw [if_pos rfl, if_pos (by omega)]; simp
        · rw [if_neg (by omega), List.getD_eq_getElem?_getD]; simp [hq2]
      · rw [List.getElem_set_ne (fun e => hik e.symm)]
        refine GoT.same (fun q hq => ?_) hrd
        rw [List.getD_eq_getElem?_getD, List.getElem?_set_ne, List.getD_eq_getElem?_getD]
        intro e
        have := Nat.div_add_mod
        rcases Nat.lt_or_gt_of_ne hik with h | h
        · have : (i + 1) * GoT.size α ≤ k * GoT.size α := Nat.mul_le_mul_right _ h
          rw [Nat.add_mul, Nat.one_mul] at this
          omega
        · have : (k + 1) * GoT.size α ≤ i * GoT.size α := Nat.mul_le_mul_right _ h
          rw [Nat.add_mul, Nat.one_mul] at this
          omega
end Go.Proofs.YtpeamehplhpcjaaGreatDoor
