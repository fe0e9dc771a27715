/- Query (package licitlaw54): a part of the proofs of its laws; see the law's own text, which comes last in 'order'. No conditions of its own. -/
import Derived.Shelf.SlSortCmp.WholeK
import Derived.Ground.SlsfProg
import Derived.Test.YtkjoaodoioicpaaGreatDoorProg
import Derived.Maps.RangeWalk
import Derived.Test.YtkjoaodoioicpaaGreatDoorWC19
import Derived.Test.YtkjoaodoioicpaaGreatDoorWC20
set_option linter.unusedVariables false
set_option linter.unusedSimpArgs false
namespace Go.Proofs.YtkjoaodoioicpaaGreatDoor
open Go.RowKit
theorem addQ_len (b : List Atm) (a : Atm) : b.length ≤ (addQ b a).length ∧ (addQ b a).length ≤ b.length + 1 := by
  unfold addQ
  split
  · omega
  · rw [List.length_append, List.length_singleton]; omega
theorem Grw.new {w0 w w' : World} {F I F' I' : Nat → Prop} (h : Grw w w' F I F' I') (hb : Below w0.heap.size w0 w) (hn : ∀ k, F k ∨ I k → w0.heap.size ≤ k ∧ k < w.heap.size) : Below w0.heap.size w0 w' ∧ ∀ k, F' k ∨ I' k → w0.heap.size ≤ k ∧ k < w'.heap.size := by
  have hs := hb.size
  refine ⟨hb.trans (h.frm.below hs fun i hi hF => by have := hn i (.inl hF); omega), fun k hk => ⟨?_, h.b k hk⟩⟩
  rcases hk with hk | hk
  · rcases h.f2 k hk with hk | hk
    · exact (hn k (.inl hk)).1
    · omega
  · rcases h.i2 k hk with hk | hk
    · exact (hn k (.inr hk)).1
    · omega
set_option maxRecDepth 100000 in
set_option maxHeartbeats 4000000 in
theorem givenQ_any (A : Option Addr) (n c : Nat) (l : List Atm) (w : World) (S : Nat → Prop) (hs : Sl w S A n c l) (hg : Gr l) (hN : l.length ≤ 100000) (hL : LD w) :
    Calls Tryz.prog 36 #[.slice A n c] w fun e w' => ∃ p F I, e = .returned (.pointer (some ⟨p, 0, none⟩)) ∧ BaseR w' F I p (givenS l) ∧ (∀ k, F k ∨ I k → w.heap.size ≤ k ∧ k < w'.heap.size) ∧ w.heap.size ≤ p ∧ Below w.heap.size w w' := by
  have hn := hs.len
  subst hn
  have hle := hs.le
  obtain ⟨V, hV⟩ : ∃ V, V = givenS l := ⟨_, rfl⟩
  rw [← hV]
  have HV0 : Hid (V = (l.drop 0).foldl addQ []) := hV
  have HS := Lib.hid hs; have HG := Lib.hid hg; have HL := Lib.hid hL
  clear hs hg hL hV
  go_enter Tryz.func36, Tryz.ntmps36
  go_wp2_with fail
  refine (emptyQ_any w (fun _ => False) (fun _ h => h.elim)).mono ?_
  rintro e w1 ⟨rfl, hb1, hB1⟩
  have h1 : ∀ k, twoB w.heap.size k ∨ False → w.heap.size ≤ k ∧ k < w1.heap.size := fun k hk => by have := hb1.lt; rcases hk with (h | h) | h; omega; omega; exact h.elim
  have HB1 := Lib.hid hb1; have HBB := Lib.hid hB1; have H1 := Lib.hid h1
  clear hb1 hB1 h1
  go_wp2_with fail
  go_loopw [9] (fun i wr => ∃ k : Nat, k ≤ l.length ∧ i = .int .i64 k ∧ Below w.heap.size w wr ∧ Hid (∃ F I Lk, BaseR wr F I (w.heap.size + 2) Lk ∧ (∀ k, F k ∨ I k → w.heap.size ≤ k ∧ k < wr.heap.size) ∧ V = (l.drop k).foldl addQ Lk ∧ Lk.length ≤ k)) (fun i _ => l.length - (intOf i).toNat)
  case atStart => exact ⟨0, by omega, rfl, HBB.out, Lib.hid ⟨_, _, [], HB1.out, H1.out, HV0.out, Nat.le_refl _⟩⟩
  case round =>
    obtain ⟨k, hk, rfl, hb, hr⟩ := hrel
    obtain ⟨F, I, Lk, h1, h2, h3, h4⟩ := hr.out
    clear hr
    by_cases hlt : k < l.length
    · obtain ⟨b1, o1, rfl, -, hbs1, A1, n1, c1, g1, g2, hsx⟩ := (HS.out.below hb).atm hlt
      have hgx := HG.out _ (List.getElem_mem hlt)
      rw [drop_get hlt, List.foldl_cons] at h3
      generalize l[k] = x at *
      have had := fun w' (hb' : Below wr.heap.size wr w') => addQ_any F I (w.heap.size + 2) Lk x A1 n1 c1 w' _ (h1.below hb') (fun k hk => Nat.lt_of_lt_of_le (h2 k hk).2 hb'.size) (hsx.below hb') hgx (HL.out.below (hb.trans (hb'.mono hb.size))) (by omega)
      have HAD := Lib.hid had; have H2 := Lib.hid h2; have H3 := Lib.hid h3; have HB := Lib.hid hb
      have h5 := addQ_len Lk x
      have H5 := Lib.hid (show (addQ Lk x).length ≤ k + 1 by omega)
      clear had h1 h2 h3 h4 h5 hsx hgx hb
      go_wp2_with fail
      refine (HAD.out _ boxed).mono ?_
      rintro e w3 ⟨rfl, F', I', h6, h7⟩
      have h8 := h7.new (HB.out.alloc HB.out.size _) (fun k hk => ⟨(H2.out k hk).1, by have := (H2.out k hk).2; simp; omega⟩)
      have H6 := Lib.hid h6; have H8 := Lib.hid h8
      clear h6 h7 h8
      go_wp2_with fail
      go_roundw
      case rel => exact ⟨k + 1, by omega, by go_num, H8.out.1, Lib.hid ⟨F', I', _, H6.out, H8.out.2, H3.out, H5.out⟩⟩
      case measure => simp [intOf]; omega
    · rw [drop_end hlt, List.foldl_nil] at h3
      have H1 := Lib.hid h1; have H2 := Lib.hid h2; have H3 := Lib.hid h3
      clear h1 h2 h3 h4
      go_wp2_with fail
      go_ret
      exact ⟨w.heap.size + 2, F, I, rfl, by rw [H3.out]; exact H1.out, H2.out, by omega, hb⟩
theorem BaseR.len {w : World} {F I : Nat → Prop} {p : Nat} {L : List Atm} (h : BaseR w F I p L) : ∃ fb fm, w.cell? ⟨p, 0, none⟩ = some (.map (some fb)) ∧ F fb ∧ MapV TS w fb fm ∧ fm.length = L.length := by
  obtain ⟨fb, ib, fm, im, h0, h1, h2, h3, h3', h4, h5, h6, h7, h8⟩ := h.ex
  exact ⟨fb, fm, (cell_blk h0 0).trans rfl, h1, h5, by have := congrArg List.length h7; simpa using this⟩
end Go.Proofs.YtkjoaodoioicpaaGreatDoor
namespace Go.Proofs
open Go.Shelf
def Tryz.sortT63_ren : Go.Shelf.Ren := ⟨fun | 6 => 63 | 15 => 94 | 14 => 93 | 28 => 127 | 29 => 128 | 20 => 119 | 21 => 120 | 22 => 121 | 23 => 122 | 24 => 123 | 25 => 124 | 26 => 125 | 27 => 126 | 46 => 146 | 47 => 147 | 48 => 148 | 49 => 149 | 50 => 150 | 57 => 179 | n => n, fun | 22 => 23 | 24 => 31 | 25 => 52 | 3 => 3 | 39 => 147 | 0 => 0 | 53 => 168 | 55 => 170 | 4 => 4 | 46 => 162 | 45 => 161 | 50 => 136 | 5 => 5 | 9 => 9 | 66 => 181 | 70 => 185 | 76 => 207 | 77 => 208 | n => n, fun | n => n⟩
theorem Tryz.sortT63 : Go.Proofs.SlLaysF0.n6 Tryz.prog Tryz.sortT63_ren := {
  mixed := by kernel_rfl
  f6 := ⟨Tryz.f63.name, by decide, Tryz.func63.trans (congrArg some (by kernel_rfl))⟩
  f14 := ⟨Tryz.f93.name, by decide, Tryz.func93.trans (congrArg some (by kernel_rfl))⟩
  f15 := Tryz.func94.trans (congrArg some (by kernel_rfl))
  f20 := ⟨Tryz.f119.name, by decide, Tryz.func119.trans (congrArg some (by kernel_rfl))⟩
  f21 := ⟨Tryz.f120.name, by decide, Tryz.func120.trans (congrArg some (by kernel_rfl))⟩
  f22 := ⟨Tryz.f121.name, by decide, Tryz.func121.trans (congrArg some (by kernel_rfl))⟩
  f23 := ⟨Tryz.f122.name, by decide, Tryz.func122.trans (congrArg some (by kernel_rfl))⟩
  f24 := ⟨Tryz.f123.name, by decide, Tryz.func123.trans (congrArg some (by kernel_rfl))⟩
  f25 := ⟨Tryz.f124.name, by decide, Tryz.func124.trans (congrArg some (by kernel_rfl))⟩
  f26 := ⟨Tryz.f125.name, by decide, Tryz.func125.trans (congrArg some (by kernel_rfl))⟩
  f27 := ⟨Tryz.f126.name, by decide, Tryz.func126.trans (congrArg some (by kernel_rfl))⟩
  f28 := Tryz.func127.trans (congrArg some (by kernel_rfl))
  f29 := Tryz.func128.trans (congrArg some (by kernel_rfl))
  f46 := ⟨Tryz.f146.name, by decide, Tryz.func146.trans (congrArg some (by kernel_rfl))⟩
  f47 := Tryz.func147.trans (congrArg some (by kernel_rfl))
  f48 := Tryz.func148.trans (congrArg some (by kernel_rfl))
  f49 := ⟨Tryz.f149.name, by decide, Tryz.func149.trans (congrArg some (by kernel_rfl))⟩
  f50 := ⟨Tryz.f150.name, by decide, Tryz.func150.trans (congrArg some (by kernel_rfl))⟩
  f57 := ⟨Tryz.f179.name, by decide, Tryz.func179.trans (congrArg some (by kernel_rfl))⟩
  t0 := Tryz.underlying0
  a0 := Tryz.isAgg0
  z0 := Tryz.sizeOf0
  v0 := Tryz.zeroValue0
  t3 := Tryz.underlying3
  a3 := Tryz.isAgg3
  z3 := Tryz.sizeOf3
  v3 := Tryz.zeroValue3
  t4 := Tryz.underlying4
  a4 := Tryz.isAgg4
  z4 := Tryz.sizeOf4
  v4 := Tryz.zeroValue4
  t5 := Tryz.underlying5
  a5 := Tryz.isAgg5
  z5 := Tryz.sizeOf5
  v5 := Tryz.zeroValue5
  t9 := Tryz.underlying9
  a9 := Tryz.isAgg9
  z9 := Tryz.sizeOf9
  v9 := Tryz.zeroValue9
  t22 := Tryz.underlying23
  a22 := Tryz.isAgg23
  z22 := Tryz.sizeOf23
  v22 := Tryz.zeroValue23
  t25 := Tryz.underlying52
  a25 := Tryz.isAgg52
  z25 := Tryz.sizeOf52
  v25 := Tryz.zeroValue52
  t39 := Tryz.underlying147
  a39 := Tryz.isAgg147
  z39 := Tryz.sizeOf147
  v39 := Tryz.zeroValue147
  t45 := Tryz.underlying161
  a45 := Tryz.isAgg161
  z45 := Tryz.sizeOf161
  v45 := Tryz.zeroValue161
  t46 := Tryz.underlying162
  a46 := Tryz.isAgg162
  z46 := Tryz.sizeOf162
  v46 := Tryz.zeroValue162
  t50 := Tryz.underlying136
  a50 := Tryz.isAgg136
  z50 := Tryz.sizeOf136
  v50 := Tryz.zeroValue136
  t53 := Tryz.underlying168
  a53 := Tryz.isAgg168
  z53 := Tryz.sizeOf168
  v53 := Tryz.zeroValue168
  t55 := Tryz.underlying170
  a55 := Tryz.isAgg170
  z55 := Tryz.sizeOf170
  v55 := Tryz.zeroValue170
  t66 := Tryz.underlying181
  a66 := Tryz.isAgg181
  z66 := Tryz.sizeOf181
  v66 := Tryz.zeroValue181
  t70 := Tryz.underlying185
  a70 := Tryz.isAgg185
  z70 := Tryz.sizeOf185
  v70 := Tryz.zeroValue185
  t76 := Tryz.underlying207
  a76 := Tryz.isAgg207
  z76 := Tryz.sizeOf207
  v76 := Tryz.zeroValue207
  t77 := Tryz.underlying208
  a77 := Tryz.isAgg208
  z77 := Tryz.sizeOf208
  v77 := Tryz.zeroValue208 }
end Go.Proofs
namespace Go.Proofs.YtkjoaodoioicpaaGreatDoor
open Go.RowKit Go.Shelf Go.Lib Go.Sort
structure AE where
  at_ : Atm
  A : Option Addr
  n : Nat
  c : Nat
def AEok (w : World) (T : Nat → Prop) := {x : AE // Sl w T x.A x.n x.c x.at_.args}
instance (w : World) (T : Nat → Prop) : Inhabited (AEok w T) := ⟨⟨⟨⟨[], []⟩, none, 0, 0⟩, Sl.nil _ _ _ _ (by decide)⟩⟩
def encA {w : World} {T : Nat → Prop} (x : AEok w T) : List Value := [.string ⟨x.1.at_.name.toArray⟩, .slice x.1.A x.1.n x.1.c]
def cfA {w : World} {T : Nat → Prop} (x y : AEok w T) : Int := ordS x.1.at_ y.1.at_
theorem ord_lt {a b : Atm} : ordS a b < 0 ↔ ordS a b = -1 := by
  have hr : ordS a b = -1 ∨ ordS a b = 0 ∨ ordS a b = 1 := by rw [ordS_key]; exact ordT.rng _ _
  omega
theorem swoA (w : World) (T : Nat → Prop) : SWO (ltOf (cfA (w := w) (T := T))) where
  irrefl := fun x => by
    unfold ltOf cfA
    rw [ordS_irr]; rfl
  trans := fun x y z h1 h2 => by
    unfold ltOf cfA at *
    simp only [decide_eq_true_eq] at *
    rw [ord_lt] at *
    exact ordS_tr h1 h2
  ntrans := fun x y z h1 h2 => by
    unfold ltOf cfA at *
    simp only [decide_eq_false_iff_not] at *
    intro h3
    rw [ord_lt] at *
    have r1 : ordS x.1.at_ y.1.at_ = -1 ∨ ordS x.1.at_ y.1.at_ = 0 ∨ ordS x.1.at_ y.1.at_ = 1 := by rw [ordS_key]; exact ordT.rng _ _
    have r2 : ordS y.1.at_ z.1.at_ = -1 ∨ ordS y.1.at_ z.1.at_ = 0 ∨ ordS y.1.at_ z.1.at_ = 1 := by rw [ordS_key]; exact ordT.rng _ _
    have n1 := ordS_neg x.1.at_ y.1.at_
    have n2 := ordS_neg y.1.at_ z.1.at_
    rcases r1 with r1 | r1 | r1
    · exact h1 r1
    · have e1 : keyT x.1.at_ = keyT y.1.at_ := (ordT.eq0 _ _).1 (by rw [← ordS_key]; exact r1)
      apply h2
      rw [ordS_key, ← e1, ← ordS_key]
      exact h3
    · have h4 : ordS y.1.at_ z.1.at_ = -1 := ordS_tr (by omega) h3
      exact h2 h4
theorem sortW_block {α : Type} [Inhabited α] (enc : α → List Value) (k : Nat) (w : World) (blk off m : Nat) (d : Array α) (os : Array Obj) (i : Nat) (hi : i < w.heap.size) (hne : i ≠ blk) : (sortWorldK enc k w blk off m d os).heap[i]? = w.heap[i]? := by
  have hne' : ¬ blk = i := fun e => hne e.symm
  simp [sortWorldK, putRowK, putRow, mapBlock, grow, ahead, Array.getElem?_append, Array.getElem?_modify, Array.getElem_modify, hi, hne']
theorem sortW_size {α : Type} [Inhabited α] (enc : α → List Value) (k : Nat) (w : World) (blk off m : Nat) (d : Array α) (os : Array Obj) : w.heap.size ≤ (sortWorldK enc k w blk off m d os).heap.size := by
  simp [sortWorldK, putRowK, putRow, mapBlock, grow, ahead]
theorem grow_of {w w' : World} (h : Gwn w w') : ∃ q os, w' = grow (w.drewN q) os := by
  refine ⟨w'.drawn - w.drawn, w'.heap.extract w.heap.size w'.heap.size, ?_⟩
  have h1 := h.drawn
  have h2 := h.below.size
  have hh : w'.heap = w.heap ++ w'.heap.extract w.heap.size w'.heap.size := by
    apply Array.ext'
    apply List.ext_getElem?
    intro i
    rw [Array.toList_append]
    by_cases hi : i < w.heap.size
    · rw [List.getElem?_append_left (by simpa using hi)]
      simpa using h.below.block i hi
    · rw [List.getElem?_append_right (by simp; omega)]
      simp
      have e : w.heap.size + (i - w.heap.size) = i := by omega
      rw [List.getElem?_take, List.getElem?_drop, e]
      by_cases hlt : i - w.heap.size < w'.heap.size - w.heap.size
      · rw [if_pos hlt]; simp
      · rw [if_neg hlt, Array.getElem?_eq_none (by omega)]
  obtain ⟨hp, tp, dr, os, ot⟩ := w'
  simp only at *
  have e1 := h.below.os; have e2 := h.below.tape; have e3 := h.below.output
  simp only at e1 e2 e3
  subst e1 e2 e3
  unfold grow World.drewN
  simp only [World.mk.injEq, and_true, true_and]
  exact ⟨hh, by omega⟩
theorem cmpA (w : World) (T : Nat → Prop) (blk size : Nat) (hT : ∀ k, T k → k < w.heap.size ∧ k ≠ blk) : CmpLays Tryz.prog 64 #[] (encA (w := w) (T := T)) 2 cfA blk 0 size w := by
  intro m os dk hd x y
  have hx := x.2.keep (w' := sortWorldK encA 2 w blk 0 m dk os) fun k hk hk' => sortW_block _ _ _ _ _ _ _ _ k hk (hT k hk').2
  have hy := y.2.keep (w' := sortWorldK encA 2 w blk 0 m dk os) fun k hk hk' => sortW_block _ _ _ _ _ _ _ _ k hk (hT k hk').2
  refine (OrderD_any x.1.at_ y.1.at_ _ _ _ _ _ _ _ _ _ hx hy).mono ?_
  rintro e w' ⟨rfl, hg⟩
  exact ⟨rfl, grow_of hg⟩
theorem choose_list {β : Type} [Inhabited β] (P : Nat → β → Prop) (n : Nat) (h : ∀ i, i < n → ∃ b, P i b) : ∃ d : Array β, d.size = n ∧ ∀ i, i < n → P i d[i]! := by
  induction n with
  | zero => exact ⟨#[], rfl, fun i hi => absurd hi (Nat.not_lt_zero i)⟩
  | succ n ih =>
    obtain ⟨d, hd, hp⟩ := ih fun i hi => h i (by omega)
    obtain ⟨b, hb⟩ := h n (by omega)
    refine ⟨d.push b, by simp [hd], fun i hi => ?_⟩
    rw [getElem!_pos _ i (by simp; omega)]
    by_cases hlt : i < n
    · rw [Array.getElem_push_lt (by omega)]
      have := hp i hlt
      rwa [getElem!_pos _ i (by omega)] at this
    · have : i = d.size := by omega
      subst this
      simp
      rw [hd]
      exact hb
theorem sortQ_any (blk cap : Nat) (xs : List Atm) (w : World) (T : Nat → Prop) (hs : Sl w T (some ⟨blk, 0, none⟩) xs.length cap xs) (hcell : ∀ i, i < xs.length * 2 → w.frozen? ⟨blk, i, none⟩ = false) (hblk : blk < w.heap.size)
    (hT : ∀ i (h : i < xs.length), ∃ A n c, w.cell? ⟨blk, i * 2, none⟩ = some (.string ⟨xs[i].name.toArray⟩) ∧ w.cell? ⟨blk, i * 2 + 1, none⟩ = some (.slice A n c) ∧ Sl w (fun k => (T k ∧ k < w.heap.size) ∧ k ≠ blk) A n c xs[i].args) (hN : xs.length ≤ 1000000) :
    Calls Tryz.prog 63 #[.slice (some ⟨blk, 0, none⟩) xs.length cap, .func (.func 64) #[] #[]] w fun e w' => e = .returned (.tuple #[]) ∧ ∃ ys : List Atm, ys.Perm xs ∧ (∀ i j (hj : j < ys.length) (hij : i < j), ¬ ordS ys[j] (ys[i]'(by omega)) < 0) ∧
      Sl w' (fun k => T k ∨ k = blk) (some ⟨blk, 0, none⟩) xs.length cap ys ∧ w.grownBy w' (some blk) := by
  obtain ⟨d, hd, hp⟩ := choose_list (β := AEok w (fun k => (T k ∧ k < w.heap.size) ∧ k ≠ blk)) (fun i b => xs[i]? = some b.1.at_ ∧ w.cell? ⟨blk, i * 2, none⟩ = some (.string ⟨b.1.at_.name.toArray⟩) ∧ w.cell? ⟨blk, i * 2 + 1, none⟩ = some (.slice b.1.A b.1.n b.1.c)) xs.length (fun i hi => by
    obtain ⟨A, n, c, h1, h2, h3⟩ := hT i hi
    exact ⟨⟨⟨xs[i], A, n, c⟩, h3⟩, List.getElem?_eq_getElem hi, h1, h2⟩)
  have hH : HoldsK encA 2 w blk 0 d := by
    intro t ht
    rw [size_flatK, hd] at ht
    refine ⟨?_, by rw [Nat.zero_add]; exact hcell t ht⟩
    rw [get_flatK _ _ _ t (by rw [hd]; exact ht), Nat.zero_add]
    obtain ⟨-, h2, h3⟩ := hp (t / 2) (by omega)
    rcases Nat.mod_two_eq_zero_or_one t with h | h
    · rw [h]
      have e : t / 2 * 2 = t := by omega
      rw [e] at h2
      exact h2
    · rw [h]
      have e : t / 2 * 2 + 1 = t := by omega
      rw [e] at h3
      exact h3
  have hsort := AnyQ.slices_SortFunc Tryz.sortT63 2 Tryz.isAgg31 Tryz.sizeOf31 encA (fun _ => rfl) (fun x v hv => by simp [encA] at hv; rcases hv with rfl | rfl <;> rfl) cfA (swoA w _) 64 #[] blk 0 cap d w (fun _ _ => by kernel_rfl) (cmpA w _ blk d.size (fun k hk => ⟨hk.1.2, hk.2⟩)) hH hblk (by omega)
  rw [hd] at hsort
  refine hsort.mono ?_
  rintro e w' ⟨rfl, d', n, os, ⟨hz, -, hperm⟩, hsrt, rfl⟩
  have hz' : d'.size = xs.length := hz.trans hd
  have hxs : d.toList.map (fun b => b.1.at_) = xs := by
    apply List.ext_getElem?
    intro i
    rw [List.getElem?_map]
    by_cases hi : i < xs.length
    · obtain ⟨h1, -⟩ := hp i hi
      rw [h1, getElem!_pos d i (by omega)]
      simp [hd, hi]
    · rw [List.getElem?_eq_none (by simp; omega), List.getElem?_eq_none (by omega)]; rfl
  rw [show d'.extract 0 xs.length = d' by rw [← hz']; simp, show d.extract 0 xs.length = d by rw [← hd]; simp] at hperm
  have hyl : (d'.toList.map (fun b => b.1.at_)).length = xs.length := by simp [hz']
  have hyg : ∀ i (h : i < xs.length), (d'.toList.map (fun b => b.1.at_))[i]'(by omega) = d'[i]!.1.at_ := fun i h => by
    rw [List.getElem_map, getElem!_pos d' i (by omega)]; simp
  refine ⟨rfl, d'.toList.map (fun b => b.1.at_), by rw [← hxs]; exact hperm.map _, fun i j hj hij => ?_, ?_, ⟨rfl, rfl, rfl, sortW_size _ _ _ _ _ _ _ _, fun k hk hne => sortW_block _ _ _ _ _ _ _ _ k hk (fun e => hne (by rw [e]))⟩⟩
  · rw [hyg i (by omega), hyg j (by omega)]
    have := hsrt i j (Nat.zero_le _) hij (by omega)
    unfold ltOf cfA at this
    simpa using this
  · have hW := (show SWK encA 2 w blk 0 d' (sortWorldK encA 2 w blk 0 n d' os) from ⟨n, os, rfl⟩).holds hblk hH (by omega)
    refine ⟨hyl.symm, hs.2.1, hs.2.2.1, fun i hi => ⟨_, rfl, .inr rfl, fun j => (encA d'[i]!)[j]!, fun j hj => ?_, ?_⟩⟩
    · have h1 := (hW.cell (i := i) (c := j) (by omega) hj).1
      rw [add_plain]
      rw [Nat.zero_add] at h1 ⊢
      exact h1
    · rw [hyg i (by omega)]
      refine ⟨rfl, d'[i]!.1.A, d'[i]!.1.n, d'[i]!.1.c, rfl, ((d'[i]!.2).keep fun k hk hk' => sortW_block _ _ _ _ _ _ _ _ k hk hk'.2).wide (fun k _ hk => .inl hk.1.1) (by decide)⟩
end Go.Proofs.YtkjoaodoioicpaaGreatDoor
namespace Go.Proofs.YtkjoaodoioicpaaGreatDoor
open Go.RowKit
theorem RangeV.left_eq {κ : Type} {T : KeyT κ} {w : World} {b r : Nat} {m left : List (κ × Value)} (h : RangeV T w b r m left) : w.rangeLeft b r = left.length := by
  obtain ⟨es, clock, since, seen, c0, h1, h2, h3, h4, h5, h6, h7, h8, h9, h10⟩ := h
  unfold World.rangeLeft
  rw [h1, h5]
  have := congrArg List.length h9
  simpa using this
theorem RangeV.grown {κ : Type} {T : KeyT κ} {w w' : World} {b r : Nat} {m left : List (κ × Value)} {row : Option Nat} (h : RangeV T w b r m left) (hg : w.grownBy w' row) (hb : row ≠ some b) (hr : row ≠ some r) : RangeV T w' b r m left :=
  h.keep (hg.block b h.lt.1 fun e => hb e.symm) (hg.block r h.lt.2.1 fun e => hr e.symm)
theorem Own.made {α : Type} [GoT α] {w : World} {T : Nat → Prop} {base e n size : Nat} {A : Option Addr} (h : w.ownsRow base e size (.slice A 0 n) 0 []) (hs : GoT.size α = size) : Own (α := α) w T base e A n [] := by
  subst hs
  exact ⟨[], h, fun i hi => absurd hi (Nat.not_lt_zero i)⟩
theorem Own.toSort {w : World} {T : Nat → Prop} {base : Nat} {A : Option Addr} {c : Nat} {xs : List Atm} (h : Own w T base 31 A c xs) (hA : A ≠ none) : ∃ blk, A = some ⟨blk, 0, none⟩ ∧ base ≤ blk ∧ blk < w.heap.size ∧ (∀ i, w.frozen? ⟨blk, i, none⟩ = false) ∧
    ∀ i (h : i < xs.length), ∃ A n c, w.cell? ⟨blk, i * 2, none⟩ = some (.string ⟨xs[i].name.toArray⟩) ∧ w.cell? ⟨blk, i * 2 + 1, none⟩ = some (.slice A n c) ∧ Sl w (fun k => (T k ∧ k < w.heap.size) ∧ k ≠ blk) A n c xs[i].args := by
  obtain ⟨cs, ⟨h1, h2⟩, h3⟩ := h
  rcases h2 with ⟨hv, h0⟩ | ⟨g, cap, cur, hv, hb, hg, hn, hm, hcs, htk⟩
  · injection hv with e1 e2 e3
    exact absurd e1 hA
  · injection hv with e1 e2 e3
    subst e1
    refine ⟨g, rfl, hb, (Array.getElem?_eq_some_iff.1 hg).1, fun i => frz_blk hg i, fun i hi => ?_⟩
    obtain ⟨r0, A, n, c', r1, hs⟩ := h3 i hi
    have hcell : ∀ j, j < 2 → w.cell? ⟨g, i * 2 + j, none⟩ = some (cs.getD (i * 2 + j) undef) := fun j hj => by
      rw [cell_blk hg]
      have hsz : GoT.size Atm = 2 := rfl
      rw [hsz] at h1 htk
      have hlt : i * 2 + j < cs.length := by omega
      rw [List.getD_eq_getElem?_getD, List.getElem?_eq_getElem hlt, Option.getD_some]
      have h5 : cs[i * 2 + j]? = some cs[i * 2 + j] := List.getElem?_eq_getElem hlt
      rw [← h5]
      conv => rhs; rw [← htk]
      rw [List.getElem?_take, if_pos (by omega), Array.getElem?_toList]
    refine ⟨A, n, c', ?_, ?_, hs.wide (fun k hk hT => ⟨⟨hT.1, hk⟩, fun e => hT.2 (by rw [e]; rfl)⟩) (by decide)⟩
    · exact (hcell 0 (by omega)).trans (congrArg some r0)
    · exact (hcell 1 (by omega)).trans (congrArg some r1)
theorem Own.ne_none {α : Type} [GoT α] {w : World} {T : Nat → Prop} {base e : Nat} {A : Option Addr} {c : Nat} {xs : List α} (h : Own w T base e A c xs) (hx : 0 < xs.length) : A ≠ none := by
  obtain ⟨cs, ⟨h1, h2⟩, h3⟩ := h
  rcases h2 with ⟨hv, h0⟩ | ⟨g, cap, cur, hv, _⟩
  · omega
  · injection hv with e1 e2 e3
    rw [e1]; simp
theorem sorted_eq {L ys : List Atm} (hg : Gr L) (hn : L.Nodup) (hp : ys.Perm L) (hs : ∀ i j (hj : j < ys.length) (hij : i < j), ¬ ordS ys[j] (ys[i]'(by omega)) < 0) : ys = sortT L := by
  have hnd : ys.Nodup := hp.nodup_iff.2 hn
  refine sortT_unique _ _ ?_ (sort_sortT (fun x hx => ground_atomS (hg x hx)) hn) fun s => by rw [hp.mem_iff, mem_sortT]
  show List.Pairwise (fun a b => ordS a b = -1) ys
  rw [List.pairwise_iff_getElem]
  intro i j hi hj hij
  have h1 := hs i j hj hij
  rcases ordS_tot (a := ys[i]) (b := ys[j]) (ground_atomS (hg _ (hp.mem_iff.1 (List.getElem_mem hi)))) (ground_atomS (hg _ (hp.mem_iff.1 (List.getElem_mem hj)))) with h | h | h
  · exact h
  · exact absurd h (List.pairwise_iff_getElem.1 hnd i j hi hj hij)
  · omega
set_option maxRecDepth 100000 in
set_option maxHeartbeats 8000000 in
theorem sortedQ_any (F I : Nat → Prop) (p : Nat) (L : List Atm) (w : World) (hb : BaseR w F I p L) (hN : L.length ≤ 100000) :
    Calls Tryz.prog 28 #[.pointer (some ⟨p, 0, none⟩)] w fun e w' => ∃ A n c, e = .returned (.slice A n c) ∧ Sl w' (fun k => w.heap.size ≤ k) A n c (sortT L) ∧ Below w.heap.size w w' := by
  have hgr := hb.gr
  have hnd := hb.nd
  obtain ⟨fb, ib, fm, im, hbb, -, -, -, -, -, hmf, -, hkeys, hvals, -⟩ := hb.ex
  have hfl : fm.length = L.length := by have := congrArg List.length hkeys; simpa using this
  obtain ⟨i0, z0, hi0, hi1, hi2, hi3, hi4⟩ := eltAtm.info
  have q0 := (cell_blk hbb 0).trans rfl
  have hlm := hmf.len Tryz.underlying88 3
  have hplt := (Array.getElem?_eq_some_iff.1 hbb).1
  have hls : (fm.zip L).map (·.1) = fm ∧ (fm.zip L).map (·.2) = L ∧ ∀ q ∈ fm.zip L, FactV w I q.1.2 q.2 := by
    refine ⟨List.map_fst_zip (by omega), List.map_snd_zip (by omega), fun q hq => ?_⟩
    obtain ⟨i, hi, rfl⟩ := List.getElem_of_mem hq
    rw [List.getElem_zip]
    exact hvals i _ _
  generalize fm.zip L = ls0 at *
  have HMF := Lib.hid hmf; have HLS := Lib.hid hls; have HGR := Lib.hid hgr; have HND := Lib.hid hnd; have HFL := Lib.hid hfl; have HBB := Lib.hid hbb
  clear hb hmf hkeys hvals hls hgr hnd hfl hbb
  go_enter Tryz.func28, Tryz.ntmps28
  go_wp2_with (first | (refine wpList_make_own _ rfl _ _ 23 rfl w.heap.size 31 i0 z0 2 Tryz.underlying23 hi0 hi1 hi2 .i64 .i64 _ fm.length rfl rfl rfl (by have := HFL.out; rw [hi3]; omega) (by have := HFL.out; simp only [maxLen]; omega) (Nat.le_refl _) ?_; intro w1 hr1 hg1; have hbw1 : Below w.heap.size w w1 := (Below.refl _ _).grown hg1 (Nat.le_refl _) (fun k hk => by cases hk); have q1 := (cell_blk (keptBlk hbw1 HBB.out) 0).trans rfl; have HM1 := Lib.hid (HMF.out.below hbw1); have HR1 := Lib.hid hr1; have HBW1 := Lib.hid hbw1; clear hr1 hg1 hbw1 q0 hlm) | (at_range; refine wpList_rangeV rfl _ rfl Tryz.underlying88 rfl HM1.out ?_; intro w2 hrg hb2 hs2))
  go_frame
  have hbw2 : Below w.heap.size w w2 := HBW1.out.trans (hb2.mono HBW1.out.size)
  have hown : Own (α := Atm) w2 (fun _ => False) w.heap.size 31 (some ⟨w.heap.size, 0, none⟩) fm.length [] := (Own.made HR1.out rfl).below hb2
  have hlt1 := (hown.lt w.heap.size rfl).2
  have hw1 : w.heap.size < w1.heap.size := (Own.made (α := Atm) (T := fun _ => True) HR1.out rfl).lt w.heap.size rfl |>.2
  have HRG := Lib.hid hrg; have HOW := Lib.hid hown; have HB2 := Lib.hid hbw2
  clear hrg hown hbw2 hb2 HM1 HR1 q1
  go_loopw [3] (fun o wr => ∃ (ls : List ((Bs × Value) × Atm)) (out : List Atm) (A : Option Addr) (c : Nat), o = .slice A out.length c ∧ Hid (∃ T : Nat → Prop, (∀ k, T k → w.heap.size ≤ k ∧ k < wr.heap.size ∧ k ≠ w1.heap.size) ∧ RangeV TS wr fb w1.heap.size fm (ls.map (·.1)) ∧ Own wr T w.heap.size 31 A c out ∧ A ≠ none ∧ A.map Addr.block ≠ some w1.heap.size ∧ (∀ q ∈ ls, FactV w I q.1.2 q.2) ∧ (out ++ ls.map (·.2)).Perm L ∧ Below w.heap.size w wr)) (fun _ wr => wr.rangeLeft fb w1.heap.size)
  case atStart => exact ⟨ls0, [], _, _, rfl, Lib.hid ⟨_, fun _ h => h.elim, by rw [HLS.out.1]; exact HRG.out, HOW.out, by simp, (fun e => by injection e with e; have e : w.heap.size = w1.heap.size := e; omega), HLS.out.2.2, by rw [List.nil_append, HLS.out.2.1], HB2.out⟩⟩
  case round =>
    obtain ⟨ls, out, A, c, rfl, hr⟩ := hrel
    obtain ⟨T, h0, h1, h2, h3, h4, h5, h6, h7⟩ := hr.out
    clear hr
    have hol : out.length ≤ 100000 := by have := h6.length_eq; rw [List.length_append] at this; omega
    have H0 := Lib.hid h0; have H1 := Lib.hid h1; have H2 := Lib.hid h2; have H3 := Lib.hid h3; have H4 := Lib.hid h4; have H5 := Lib.hid h5; have H6 := Lib.hid h6; have H7 := Lib.hid h7
    clear h0 h1 h2 h3 h4 h5 h6 h7
    go_wp2_with (at_next; refine wpList_nextV rfl _ rfl rfl H1.out ?_ ?_)
    · intro h0
      have hls : ls = [] := h0
      subst hls
      have hpm := H6.out
      rw [List.map_nil, List.append_nil] at hpm
      obtain ⟨blk, rfl, hbk, hbk2, hfz, hce⟩ := H2.out.toSort H3.out
      have hso := sortQ_any blk c out wr (fun k => w.heap.size ≤ k) ((H2.out.sl (by decide)).wide (fun k _ hk => by rcases hk with hk | hk; exact (H0.out k hk).1; exact (H2.out.lt k hk).1) (by decide)) (fun i _ => hfz i) hbk2 (fun i hi => by
        obtain ⟨A, n, c, r1, r2, r3⟩ := hce i hi
        exact ⟨A, n, c, r1, r2, r3.wide (fun k _ hk => ⟨⟨(H0.out k hk.1.1).1, hk.1.2⟩, hk.2⟩) (by decide)⟩) (by omega)
      have HSO := Lib.hid hso; have HPM := Lib.hid hpm
      clear hso hpm hfz hce h0
      go_wp2_with fail
      refine HSO.out.mono ?_
      rintro e w9 ⟨rfl, ys, hp, hsrt, hsl, hg9⟩
      have hys := sorted_eq HGR.out HND.out (hp.trans HPM.out) (fun i j hj hij => by have := hsrt i j hj hij; omega)
      have HSL := Lib.hid hsl; have HYS := Lib.hid hys; have HG9 := Lib.hid hg9
      clear hp hsrt hsl hys hg9
      go_wp2_with fail
      refine bodyPost_ret (v := .slice (some ⟨blk, 0, none⟩) out.length c) (by simp [results, Tryz.results28, go_sem]) rfl ?_
      exact ⟨_, _, _, rfl, by rw [← HYS.out]; exact HSL.out.wide (fun k _ hk => by rcases hk with hk | hk; exact hk; omega) (by decide), H7.out.grown HG9.out H7.out.size (fun k hk => by injection hk with hk; omega)⟩
    · intro l1 pk pv l2 w3 hsp hrg3 hg3 hs3 hen
      obtain ⟨a1, ar, rfl, rfl, e2⟩ := List.map_eq_append_iff.1 hsp
      obtain ⟨⟨⟨pk', pv'⟩, qa⟩, a2, rfl, e3, rfl⟩ := List.map_eq_cons_iff.1 e2
      simp only [Prod.mk.injEq] at e3
      obtain ⟨rfl, rfl⟩ := e3
      have hq5 := H5.out ((pk', pv'), qa) (List.mem_append_right _ List.mem_cons_self)
      obtain ⟨A1, n1, c1, hpv, hsx⟩ := hq5
      simp only at hpv hsx
      subst hpv
      have hqL : qa ∈ L := H6.out.mem_iff.1 (List.mem_append_right _ (by simp))
      have hql := (ground_okT (HGR.out qa hqL)).2.1
      obtain rfl : n1 = qa.args.length := hsx.len
      have hb3 : Below w.heap.size w w3 := H7.out.grown hg3 H7.out.size (fun k hk => by injection hk with hk; omega)
      have hwr := H7.out.size
      have hcl := fun w' (hb' : Below w.heap.size w w') => cloneArg_any A1 qa.args.length c1 w' I qa.args (hsx.below hb') (by omega)
      have how3 : Own w3 T w.heap.size 31 A c out := H2.out.keep fun k hk hT => hg3.block k hk (fun e => by
        injection e with e
        rcases hT with hT | hT
        · exact (H0.out k hT).2.2 e
        · exact H4.out (by rw [hT, e]))
      have hr3 := H1.out.lt
      have HRG3 := Lib.hid hrg3; have HB3 := Lib.hid hb3; have HCL := Lib.hid hcl; have HOW3 := Lib.hid how3
      have HS3 := Lib.hid hs3
      clear hsp e2 hrg3 hg3 hsx hb3 hcl how3 hs3
      go_wp2_with fail
      have hbx := blkAt w3 (.cells #[.string ⟨qa.name.toArray⟩, .slice A1 qa.args.length c1] 31) rfl
      have hb4 : Below w3.heap.size w3 (w3.alloc (.cells #[.string ⟨qa.name.toArray⟩, .slice A1 qa.args.length c1] 31)) := boxed
      have hs4 : (w3.alloc (.cells #[.string ⟨qa.name.toArray⟩, .slice A1 qa.args.length c1] 31)).heap.size = w3.heap.size + 1 := by simp
      refine (HCL.out _ (HB3.out.trans (hb4.mono HB3.out.size))).mono ?_
      rintro e w5 ⟨A', n', c', rfl, hs5, hb5⟩
      obtain rfl : n' = qa.args.length := hs5.len
      have hx5 := keptBlk hb5 hbx
      have hb35 : Below w3.heap.size w3 w5 := hb4.trans (hb5.mono hb4.size)
      have hlt5 : w3.heap.size < w5.heap.size := (Array.getElem?_eq_some_iff.1 hx5).1
      have k0 := (cell_blk hx5 0).trans rfl; have k1 := (cell_blk hx5 1).trans rfl; have y1 := frz_blk hx5 1
      have hs5' : Sl w5 (fun k => w3.heap.size + 1 ≤ k ∧ k < w5.heap.size) A' qa.args.length c' qa.args := hs5.wide (fun k hk h => ⟨by rw [hs4] at h; exact h, hk⟩) (by decide)
      have hs6 : Sl (w5.setCell ⟨w3.heap.size, 1, none⟩ (.slice A' qa.args.length c')) (fun k => w3.heap.size + 1 ≤ k ∧ k < w5.heap.size) A' qa.args.length c' qa.args := hs5'.keep fun k _ hk => set_other _ _ _ _ _ (by have := hk.1; omega)
      have hTlt : ∀ k, (T k ∨ A.map Addr.block = some k) → k < w3.heap.size := fun k hk => by rcases hk with hk | hk; have := (H0.out k hk).2.1; have := HS3.out; omega; exact (HOW3.out.lt k hk).2
      have how6 : Own (w5.setCell ⟨w3.heap.size, 1, none⟩ (.slice A' qa.args.length c')) (fun k => T k ∨ (w3.heap.size + 1 ≤ k ∧ k < w5.heap.size)) w.heap.size 31 A c out :=
        ((HOW3.out.below hb35).keep fun k _ hT => set_other _ _ _ _ _ (by have := hTlt k hT; omega)).wide fun k _ hk => .inl hk
      have hb36 : Below w3.heap.size w3 (w5.setCell ⟨w3.heap.size, 1, none⟩ (.slice A' qa.args.length c')) := hb35.setCell (p := ⟨w3.heap.size, 1, none⟩) (Nat.le_refl _) _
      have hz6 : (w5.setCell ⟨w3.heap.size, 1, none⟩ (.slice A' qa.args.length c')).heap.size = w5.heap.size := by simp [World.setCell]
      have hws3 := HB3.out.size
      have HS6 := Lib.hid hs6; have HOW6 := Lib.hid how6; have HB36 := Lib.hid hb36; have HT := Lib.hid hTlt; have HZ := Lib.hid (And.intro hr3 hz6)
      clear hs5 hb5 hx5 hb35 hs5' hs6 how6 hb36 hTlt hbx hb4 HOW3 hs4 hr3 hen hz6
      go_wp2_with (at_builtin; go_loud (refine wpList_app1 rfl _ _ eltAtm rfl (by decide) rfl rfl rfl (HOW6.out.alloc _) rfl [.string ⟨qa.name.toArray⟩, .slice A' qa.args.length c'] qa (blkAt _ _ HZ.out.2.symm) rfl ⟨rfl, A', _, c', rfl, (HS6.out.alloc _).wide (fun k _ hk => ⟨.inr hk, fun e => by have := HT.out k (.inr e); have := hk.1; omega⟩) (by decide)⟩ (by omega) (by omega) (Nat.le_trans hws3 (Nat.le_trans HB36.out.size (Nat.le_of_lt (lt_alloc _ _)))) ?_); intro A3 c3 w7 hown7 hg7 hat7)
      have hz7 := hg7.size
      have hsA : ((w5.setCell ⟨w3.heap.size, 1, none⟩ (.slice A' qa.args.length c')).alloc (.cells #[.string ⟨qa.name.toArray⟩, .slice A' qa.args.length c'] 31)).heap.size = w5.heap.size + 1 := by simp [World.setCell]
      rw [hsA] at hz7 hat7
      have hb6a : Below w3.heap.size w3 ((w5.setCell ⟨w3.heap.size, 1, none⟩ (.slice A' qa.args.length c')).alloc (.cells #[.string ⟨qa.name.toArray⟩, .slice A' qa.args.length c'] 31)) := HB36.out.alloc HB36.out.size _
      have hrg7 : RangeV TS w7 fb w1.heap.size fm (a1.map (·.1) ++ a2.map (·.1)) := (HRG3.out.below hb6a).grown hg7 (fun e => by have := (HOW6.out.lt fb e).1; have := HMF.out.lt; omega) H4.out
      have hbE : Below w.heap.size w w7 := (HB3.out.trans (hb6a.mono HB3.out.size)).grown hg7 (by have := hb6a.size; omega) (fun k hk => (HOW6.out.lt k hk).1)
      have hA3 : A3 ≠ none := hown7.ne_none (by simp)
      have hr := HZ.out.1
      have hz6 := HZ.out.2
      have hrr : A3.map Addr.block ≠ some w1.heap.size := fun e => by
        rcases hat7 with h | h
        · exact H4.out (by rw [← h]; exact e)
        · rw [h] at e; injection e with e; have := HS3.out; have := hr.2.1; omega
      have hrel : RangeV TS w7 fb w1.heap.size fm ((a1 ++ a2).map (·.1)) := by rw [List.map_append]; exact hrg7
      have HR := Lib.hid (show ∃ T : Nat → Prop, (∀ k, T k → w.heap.size ≤ k ∧ k < w7.heap.size ∧ k ≠ w1.heap.size) ∧ RangeV TS w7 fb w1.heap.size fm ((a1 ++ a2).map (·.1)) ∧ Own w7 T w.heap.size 31 A3 c3 (out ++ [qa]) ∧ A3 ≠ none ∧ A3.map Addr.block ≠ some w1.heap.size ∧ (∀ q ∈ a1 ++ a2, FactV w I q.1.2 q.2) ∧ ((out ++ [qa]) ++ (a1 ++ a2).map (·.2)).Perm L ∧ Below w.heap.size w w7 from
        ⟨_, fun k hk => by
          rcases hk with hk | hk
          · have := H0.out k hk; have := HS3.out; omega
          · have := hk.1; have := hk.2; have := HS3.out; have := hr.2.1; omega, hrel, hown7, hA3, hrr, fun q hq => H5.out q (by
          rcases List.mem_append.1 hq with h | h
          · exact List.mem_append_left _ h
          · exact List.mem_append_right _ (List.mem_cons_of_mem _ h)), by
          refine List.Perm.trans ?_ H6.out
          rw [List.map_append, List.map_append, List.map_cons, List.append_assoc]
          refine List.Perm.append_left _ ?_
          show (qa :: (a1.map (·.2) ++ a2.map (·.2))).Perm (a1.map (·.2) ++ qa :: a2.map (·.2))
          exact List.perm_middle.symm, hbE⟩)
      have HM := Lib.hid (show w7.rangeLeft fb w1.heap.size < wr.rangeLeft fb w1.heap.size by
        rw [hrel.left_eq, H1.out.left_eq, List.length_map, List.length_map, List.length_append, List.length_append, List.length_cons]
        omega)
      clear hown7 hg7 hat7 hrg7 hbE hA3 hrr hrel hb6a hz7 hr hz6 k0 k1 y1
      go_wp2_with fail
      go_roundw
      case rel => exact ⟨a1 ++ a2, out ++ [qa], A3, c3, by simp, HR.out⟩
      case measure => exact HM.out
end Go.Proofs.YtkjoaodoioicpaaGreatDoor
namespace Go.Proofs.YtkjoaodoioicpaaGreatDoor
open Go.RowKit
theorem groundS_P (a : Atm) : groundS a = groundP a := by
  unfold groundS groundP
  rfl
theorem slRul1 {w : World} {S : Nat → Prop} {b : Nat} {r : Rul} {A : Option Addr} {n c : Nat} {B : Option Addr} {m d : Nat} (hb : w.heap[b]? = some (.cells #[.string ⟨r.head.name.toArray⟩, .slice A n c, .slice B m d] 34 (0, 0))) (h1 : Sl w S A n c r.head.args) (h2 : Sl w S B m d r.body) :
    Sl w (fun k => S k ∨ k = b) (some ⟨b, 0, none⟩) 1 1 [r] := by
  refine ⟨rfl, Nat.le_refl _, by decide, fun i hi => ?_⟩
  have hi : i < 1 := hi
  have h0 : i = 0 := by omega
  subst h0
  refine ⟨_, rfl, .inr rfl, fun j => (#[.string ⟨r.head.name.toArray⟩, .slice A n c, .slice B m d] : Array Value).getD j undef, fun j hj => ?_, rfl, ⟨A, n, c, rfl, h1.wide (fun _ _ h => .inl h) (by decide)⟩, B, m, d, rfl, h2.wide (fun _ _ h => .inl h) (by decide)⟩
  have hj : j < 3 := hj
  rw [add_plain, cell_blk hb]
  match j, hj with
  | 0, _ => rfl
  | 1, _ => rfl
  | 2, _ => rfl
theorem ready1_any (x : Atm) (A : Option Addr) (n c : Nat) (w : World) (S : Nat → Prop) (hs : Sl w S A n c x.args) (ho : OkT x) :
    Calls Tryz.prog 74 (#[.agg #[.string ⟨x.name.toArray⟩, .slice A n c]] ++ #[]) w fun e w' => e = .returned (.bool (!groundP x)) ∧ Below w.heap.size w w' := by
  have hg := Ground_any x A n c _ S (hs.alloc (.cells #[.string ⟨x.name.toArray⟩, .slice A n c] 31)) ho
  rw [groundS_P] at hg
  generalize groundP x = g at *
  have HG := Lib.hid hg; clear hg hs ho
  go_enter Tryz.func74, Tryz.ntmps74
  go_wp2_with fail
  refine HG.out.mono ?_
  rintro e w1 ⟨rfl, hb1⟩
  go_wp2_with fail
  go_ret
  exact ⟨rfl, boxed.trans (hb1.mono (by simp))⟩
set_option maxHeartbeats 4000000 in
theorem readyQ_any (r : Rul) (model : List Atm) (A1 : Option Addr) (n1 c1 : Nat) (A2 : Option Addr) (n2 c2 : Nat) (A : Option Addr) (n c : Nat) (w : World) (S T : Nat → Prop) (h1 : Sl w S A1 n1 c1 r.head.args) (h2 : Sl w S A2 n2 c2 r.body) (hm : Sl w T A n c model) (ho : OkR r) (hom : ∀ a ∈ model, OkT a) (hL : LD w) :
    Calls Tryz.prog 35 #[.agg #[.string ⟨r.head.name.toArray⟩, .slice A1 n1 c1, .slice A2 n2 c2], .slice A n c] w fun e w' => e = .returned (.int .i64 (readyS r model)) ∧ Below w.heap.size w w' := by
  have hn := hm.len
  subst hn
  have hle := hm.le
  obtain ⟨V, hV⟩ : ∃ V, V = readyS r model := ⟨_, rfl⟩
  rw [← hV]
  unfold readyS at hV
  have hB : ∀ W : World, W = (w.alloc (.cells #[.string ⟨r.head.name.toArray⟩, .slice A1 n1 c1, .slice A2 n2 c2] 34)).alloc (.cells #[.string ⟨r.head.name.toArray⟩, .slice A1 n1 c1, .slice A2 n2 c2] 34) → Below w.heap.size w W ∧ Sl W (fun k => S k ∨ k = w.heap.size + 1) (some ⟨w.heap.size + 1, 0, none⟩) 1 1 [r] := by
    rintro W rfl
    have hb : Below w.heap.size w ((w.alloc (.cells #[.string ⟨r.head.name.toArray⟩, .slice A1 n1 c1, .slice A2 n2 c2] 34)).alloc (.cells #[.string ⟨r.head.name.toArray⟩, .slice A1 n1 c1, .slice A2 n2 c2] 34)) := belowA boxed _
    exact ⟨hb, slRul1 (blkAt _ _ (by simp)) (h1.below hb) (h2.below hb)⟩
  obtain ⟨hb0, hs0⟩ := hB _ rfl
  have hck := Check_any (some ⟨w.heap.size + 1, 0, none⟩) 1 1 [r] _ _ hs0 (fun x hx => by rw [List.mem_singleton.1 hx]; exact ho) (hL.below hb0)
  have hcon := fun w' (hb' : Below w.heap.size w w') => conT_any A model.length c w' T model (hm.below hb') 74 #[] (fun _ _ => by kernel_rfl) (fun a => !groundP a) (fun x hx w1 hb1 v hv => by
    obtain ⟨A1, n1, c1, rfl, hs⟩ := hv
    exact ready1_any x A1 n1 c1 w1 _ hs (hom x hx))
  generalize checkS53 [r] = ck at *
  obtain ⟨ci, ce⟩ := ck
  simp only at hV hck
  generalize (model.any fun a => !groundP a) = an at *
  have HCK := Lib.hid hck; have HCON := Lib.hid hcon; have HV := Lib.hid hV; have HB0 := Lib.hid hb0
  clear hck hcon hV hB hb0 hs0 h1 h2 hm ho hom hL
  go_enter Tryz.func35, Tryz.ntmps35
  go_wp2_with fail
  refine HCK.out.mono ?_
  rintro e w1 ⟨rfl, hb1⟩
  have HB1 := Lib.hid (HB0.out.trans (hb1.mono HB0.out.size)); clear hb1
  by_cases he : ce = 1
  · have hv := HV.out
    rw [if_pos (.inl he)] at hv
    have HD := Lib.hid hv; clear hv HV
    subst he
    go_wp2_with fail
    go_ret
    exact ⟨ret_int HD.out, HB1.out⟩
  · have heb : (ce == 1) = false := by simpa using he
    by_cases hl : 2048 < model.length
    · have hlI : (2048 : Int) < (model.length : Int) := by omega
      have hv := HV.out
      rw [if_pos (.inr (.inl hl))] at hv
      have HD := Lib.hid hv; clear hv HV he hl
      go_wp2_with fail
      go_ret
      exact ⟨ret_int HD.out, HB1.out⟩
    · have hlI : ¬ (2048 : Int) < (model.length : Int) := by omega
      have hv := HV.out
      have HE := Lib.hid he
      clear he HV
      go_wp2_with fail
      refine (HCON.out _ HB1.out).mono ?_
      rintro e w2 ⟨rfl, hb2⟩
      have HB2 := Lib.hid (HB1.out.trans (hb2.mono HB1.out.size)); clear hb2
      cases an
      · rw [if_neg (fun h => by rcases h with h | h | h; exact HE.out h; exact hl h; cases h)] at hv
        by_cases he8 : ce = 8
        · rw [if_pos he8] at hv
          have HD := Lib.hid hv; clear hv
          subst he8
          go_wp2_with fail
          go_ret
          exact ⟨ret_int HD.out, HB2.out⟩
        · rw [if_neg he8] at hv
          have HD := Lib.hid hv; clear hv
          have he8b : (ce == 8) = false := by simpa using he8
          go_wp2_with fail
          go_ret
          exact ⟨ret_int HD.out, HB2.out⟩
      · rw [if_pos (.inr (.inr rfl))] at hv
        have HD := Lib.hid hv; clear hv
        go_wp2_with fail
        go_ret
        exact ⟨ret_int HD.out, HB2.out⟩
end Go.Proofs.YtkjoaodoioicpaaGreatDoor
