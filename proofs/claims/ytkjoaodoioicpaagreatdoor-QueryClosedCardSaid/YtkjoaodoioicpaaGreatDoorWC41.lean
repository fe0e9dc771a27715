/- Query (package licitlaw54): a part of the proofs of its laws; see the law's own text, which comes last in 'order'. No conditions of its own. -/
import Derived.Test.YtkjoaodoioicpaaGreatDoorWC32
import Derived.Test.YtkjoaodoioicpaaGreatDoorWC40
set_option linter.unusedVariables false
set_option linter.unusedSimpArgs false
namespace Go.Proofs.YtkjoaodoioicpaaGreatDoor
open Go.RowKit
theorem aw_cnt : cntB quA ≤ 1000 := by decide +kernel
theorem aw_okT : (∀ a ∈ faA, OkT a) ∧ (∀ a ∈ moA, OkT a) ∧ (∀ l ∈ quA, OkL l) := by
  refine ⟨?_, ?_, ?_⟩ <;> simp [faA, moA, quA, OkT, OkL, OkAs, OkA, nA, vX, sEdge, sReach]
theorem slInts {w : World} {b : Nat} (xs : List Int) (h : w.heap[b]? = some (.cells (xs.map fun z => Value.int .i64 z).toArray 3 (0, 0))) (hl : xs.length ≤ 1000) : Sl w (fun k => k < w.heap.size) (some ⟨b, 0, none⟩) xs.length xs.length xs := by
  refine ⟨rfl, Nat.le_refl _, by omega, fun i hi => ?_⟩
  have hbl := (Array.getElem?_eq_some_iff.1 h).1
  refine ⟨_, rfl, hbl, fun j => .int .i64 xs[i], fun j hj => ?_, rfl⟩
  have hj : j < 1 := hj
  obtain rfl : j = 0 := by omega
  rw [add_plain, cell_blk h]
  show (xs.map fun z => Value.int .i64 z).toArray[0 + i * 1 + 0]? = _
  simp [hi]
theorem slAtms2 {w : World} {b : Nat} {S : Nat → Prop} {x y : Atm} {A B : Option Addr} {n c m d : Nat} (h : w.heap[b]? = some (.cells #[.string ⟨x.name.toArray⟩, .slice A n c, .string ⟨y.name.toArray⟩, .slice B m d] 31 (0, 0)))
    (hx : Sl w (fun k => k < w.heap.size) A n c x.args) (hy : Sl w (fun k => k < w.heap.size) B m d y.args) : Sl w (fun k => k < w.heap.size) (some ⟨b, 0, none⟩) 2 2 [x, y] := by
  refine ⟨rfl, Nat.le_refl _, by omega, fun i hi => ?_⟩
  have hbl := (Array.getElem?_eq_some_iff.1 h).1
  have hi : i < 2 := hi
  refine ⟨_, rfl, hbl, fun j => (#[.string ⟨x.name.toArray⟩, .slice A n c, .string ⟨y.name.toArray⟩, .slice B m d] : Array Value).getD (i * 2 + j) undef, fun j hj => ?_, ?_⟩
  · have hj : j < 2 := hj
    rw [add_plain, cell_blk h]
    match i, hi, j, hj with
    | 0, _, 0, _ => rfl
    | 0, _, 1, _ => rfl
    | 1, _, 0, _ => rfl
    | 1, _, 1, _ => rfl
  · match i, hi with
    | 0, _ => exact ⟨rfl, A, n, c, rfl, hx⟩
    | 1, _ => exact ⟨rfl, B, m, d, rfl, hy⟩
theorem slArg2 {w : World} {b : Nat} {x y : Arg} (h : w.heap[b]? = some (.cells #[.int .i64 x.kind, .string ⟨x.text.toArray⟩, .int .i64 x.num, .int .i64 y.kind, .string ⟨y.text.toArray⟩, .int .i64 y.num] 46 (0, 0))) : Sl w (fun k => k < w.heap.size) (some ⟨b, 0, none⟩) 2 2 [x, y] := by
  refine ⟨rfl, Nat.le_refl _, by omega, fun i hi => ?_⟩
  have hbl := (Array.getElem?_eq_some_iff.1 h).1
  have hi : i < 2 := hi
  refine ⟨_, rfl, hbl, fun j => (#[.int .i64 x.kind, .string ⟨x.text.toArray⟩, .int .i64 x.num, .int .i64 y.kind, .string ⟨y.text.toArray⟩, .int .i64 y.num] : Array Value).getD (i * 3 + j) undef, fun j hj => ?_, ?_⟩
  · have hj : j < 3 := hj
    rw [add_plain, cell_blk h]
    match i, hi, j, hj with
    | 0, _, 0, _ => rfl
    | 0, _, 1, _ => rfl
    | 0, _, 2, _ => rfl
    | 1, _, 0, _ => rfl
    | 1, _, 1, _ => rfl
    | 1, _, 2, _ => rfl
  · match i, hi with
    | 0, _ => exact ⟨rfl, rfl, rfl⟩
    | 1, _ => exact ⟨rfl, rfl, rfl⟩
theorem slLtls2 {w : World} {b : Nat} {x y : Ltl} {A B : Option Addr} {n c m d : Nat} (h : w.heap[b]? = some (.cells #[.bool x.neg, .string ⟨x.op.toArray⟩, .string ⟨x.atom.name.toArray⟩, .slice A n c, .bool y.neg, .string ⟨y.op.toArray⟩, .string ⟨y.atom.name.toArray⟩, .slice B m d] 60 (0, 0)))
    (hx : Sl w (fun k => k < w.heap.size) A n c x.atom.args) (hy : Sl w (fun k => k < w.heap.size) B m d y.atom.args) : Sl w (fun k => k < w.heap.size) (some ⟨b, 0, none⟩) 2 2 [x, y] := by
  refine ⟨rfl, Nat.le_refl _, by omega, fun i hi => ?_⟩
  have hbl := (Array.getElem?_eq_some_iff.1 h).1
  have hi : i < 2 := hi
  refine ⟨_, rfl, hbl, fun j => (#[.bool x.neg, .string ⟨x.op.toArray⟩, .string ⟨x.atom.name.toArray⟩, .slice A n c, .bool y.neg, .string ⟨y.op.toArray⟩, .string ⟨y.atom.name.toArray⟩, .slice B m d] : Array Value).getD (i * 4 + j) undef, fun j hj => ?_, ?_⟩
  · have hj : j < 4 := hj
    rw [add_plain, cell_blk h]
    match i, hi, j, hj with
    | 0, _, 0, _ => rfl
    | 0, _, 1, _ => rfl
    | 0, _, 2, _ => rfl
    | 0, _, 3, _ => rfl
    | 1, _, 0, _ => rfl
    | 1, _, 1, _ => rfl
    | 1, _, 2, _ => rfl
    | 1, _, 3, _ => rfl
  · match i, hi with
    | 0, _ => exact ⟨rfl, rfl, rfl, A, n, c, rfl, hx⟩
    | 1, _ => exact ⟨rfl, rfl, rfl, B, m, d, rfl, hy⟩
theorem slAtms5 {w : World} {b : Nat} {x1 x2 x3 x4 x5 : Atm} {A1 A2 A3 A4 A5 : Option Addr} {n1 n2 n3 n4 n5 c1 c2 c3 c4 c5 : Nat} (h : w.heap[b]? = some (.cells #[.string ⟨x1.name.toArray⟩, .slice A1 n1 c1, .string ⟨x2.name.toArray⟩, .slice A2 n2 c2, .string ⟨x3.name.toArray⟩, .slice A3 n3 c3, .string ⟨x4.name.toArray⟩, .slice A4 n4 c4, .string ⟨x5.name.toArray⟩, .slice A5 n5 c5] 31 (0, 0)))
    (h1 : Sl w (fun k => k < w.heap.size) A1 n1 c1 x1.args) (h2 : Sl w (fun k => k < w.heap.size) A2 n2 c2 x2.args) (h3 : Sl w (fun k => k < w.heap.size) A3 n3 c3 x3.args) (h4 : Sl w (fun k => k < w.heap.size) A4 n4 c4 x4.args) (h5 : Sl w (fun k => k < w.heap.size) A5 n5 c5 x5.args) :
    Sl w (fun k => k < w.heap.size) (some ⟨b, 0, none⟩) 5 5 [x1, x2, x3, x4, x5] := by
  refine ⟨rfl, Nat.le_refl _, by omega, fun i hi => ?_⟩
  have hbl := (Array.getElem?_eq_some_iff.1 h).1
  have hi : i < 5 := hi
  refine ⟨_, rfl, hbl, fun j => (#[.string ⟨x1.name.toArray⟩, .slice A1 n1 c1, .string ⟨x2.name.toArray⟩, .slice A2 n2 c2, .string ⟨x3.name.toArray⟩, .slice A3 n3 c3, .string ⟨x4.name.toArray⟩, .slice A4 n4 c4, .string ⟨x5.name.toArray⟩, .slice A5 n5 c5] : Array Value).getD (i * 2 + j) undef, fun j hj => ?_, ?_⟩
  · have hj : j < 2 := hj
    rw [add_plain, cell_blk h]
    match i, hi, j, hj with
    | 0, _, 0, _ => rfl
    | 0, _, 1, _ => rfl
    | 1, _, 0, _ => rfl
    | 1, _, 1, _ => rfl
    | 2, _, 0, _ => rfl
    | 2, _, 1, _ => rfl
    | 3, _, 0, _ => rfl
    | 3, _, 1, _ => rfl
    | 4, _, 0, _ => rfl
    | 4, _, 1, _ => rfl
  · match i, hi with
    | 0, _ => exact ⟨rfl, _, _, _, rfl, h1⟩
    | 1, _ => exact ⟨rfl, _, _, _, rfl, h2⟩
    | 2, _ => exact ⟨rfl, _, _, _, rfl, h3⟩
    | 3, _ => exact ⟨rfl, _, _, _, rfl, h4⟩
    | 4, _ => exact ⟨rfl, _, _, _, rfl, h5⟩
theorem Sl.rowA {w : World} {S : Nat → Prop} {A : Option Addr} {n c k : Nat} {xs : List (List Arg)} (h : Sl w S A n c xs) (hk : k < xs.length) : ∃ b o, A = some ⟨b, o, none⟩ ∧ S b ∧ b < w.heap.size ∧
    ∃ A' n' c', w.cell? ⟨b, o + k, none⟩ = some (.slice A' n' c') ∧ Sl w S A' n' c' xs[k] := by
  obtain ⟨b, o, hA, hS, hb, g, hc, A', n', c', h0, hs, _⟩ := h.plain (by decide) hk
  have c0 := hc 0 (by decide)
  rw [h0] at c0
  exact ⟨b, o, hA, hS, hb, A', n', c', by simpa [GoT.size] using c0, hs⟩
theorem fact2 (s : Bs) (a b : Int) (w : World) :
    Calls Tryz.prog 15 #[.string ⟨s.toArray⟩, .slice (some ⟨w.heap.size, 0, none⟩) 2 2] (w.alloc (.cells #[.int .i64 a, .int .i64 b] 3)) fun e w' => ∃ A c, e = .returned (.agg #[.string ⟨s.toArray⟩, .slice A 2 c]) ∧ Sl w' (fun k => k < w'.heap.size) A 2 c [nA a, nA b] ∧ Below w.heap.size w w' := by
  refine (fact_any s [a, b] (some ⟨w.heap.size, 0, none⟩) 2 2 _ _ (slInts [a, b] (blkAt w (.cells #[.int .i64 a, .int .i64 b] 3) rfl) (by simp)) (by simp)).mono ?_
  rintro e w' ⟨A, c, rfl, hs, hb⟩
  exact ⟨A, c, rfl, hs.wide (fun k hk _ => hk) (by decide), boxed.trans (hb.mono (by simp))⟩
set_option maxRecDepth 100000 in
set_option maxHeartbeats 8000000 in
theorem awake54_any (w : World) (hL : LD w) :
    Calls Tryz.prog 7 #[] w fun e w' => e = .returned (.bool true) ∧ Below w.heap.size w w' := by
  have hp := fun w => rParse_any txA w (by decide)
  rw [aw_parse] at hp
  have he := fun A c B d w S T hl hf ho hL => EvalQ_any A ruA.length c ruA B 2 d faA w S T hl hf ho aw_okT.1 hL
  rw [aw_eval] at he
  have hr := fun A c B d w S T hl hf ho hL => RanksQ_any A ruA.length c ruA B 2 d faA w S T hl hf ho aw_okT.1 hL _ aw_ranks aw_hB
  have ha := fun A2 c2 A c w S T hl hm hL => AskQ_any quA moA A2 2 c2 A 5 c w S T hl hm aw_okT.2.2 aw_okT.2.1 hL aw_cnt (fun _ => aw_askr)
  rw [aw_ask] at ha
  have hLP := Lib.hid hp; have HE := Lib.hid he; have HR := Lib.hid hr; have HA := Lib.hid ha; have HL := Lib.hid hL
  clear hp he hr ha hL
  generalize ruA = l1 at *
  go_enter Tryz.func7, Tryz.ntmps7
  go_wp2_with fail
  refine (show Calls Tryz.prog 16 _ w (PaPost w (l1, 0, 0)) from hLP.out w).mono ?_
  rintro e w1 ⟨A1, k1, rfl, s1, b1, o1⟩
  have L1 := HL.out.below b1
  clear hLP
  have S1 := Lib.hid s1; have B1 := Lib.hid b1; have O1 := Lib.hid o1; clear s1 b1 o1
  go_wp2_with fail
  refine (fact2 sEdge 2 3 w1).mono ?_
  rintro e w2 ⟨A2, k2, rfl, s2, b2⟩
  have S2 := Lib.hid s2; have B2 := Lib.hid b2; clear s2 b2
  go_wp2_with fail
  refine (fact2 sEdge 1 2 w2).mono ?_
  rintro e w3 ⟨A3, k3, rfl, s3, b3⟩
  have S3 := Lib.hid s3; have B3 := Lib.hid b3; clear s3 b3
  go_wp2_with fail
  have b13 : Below w1.heap.size w1 w3 := B2.out.trans (B3.out.mono B2.out.size)
  have hw4 : ∀ W : World, W = w3.alloc (.cells #[.string ⟨sEdge.toArray⟩, .slice A2 2 k2, .string ⟨sEdge.toArray⟩, .slice A3 2 k3] 31) → Below w1.heap.size w1 W ∧ Sl W (fun k => k < W.heap.size) (some ⟨w3.heap.size, 0, none⟩) 2 2 faA := by
    rintro W rfl
    exact ⟨b13.alloc b13.size _, slAtms2 (x := ⟨sEdge, [nA 2, nA 3]⟩) (y := ⟨sEdge, [nA 1, nA 2]⟩) (S := fun _ => True) (blkAt _ _ rfl) (((S2.out.below B3.out).alloc _).wide (fun k hk _ => hk) (by decide)) ((S3.out.alloc _).wide (fun k hk _ => hk) (by decide))⟩
  have hw4 := hw4 _ rfl
  generalize w3.alloc (.cells #[.string ⟨sEdge.toArray⟩, .slice A2 2 k2, .string ⟨sEdge.toArray⟩, .slice A3 2 k3] 31) = w4 at *
  have B4 := Lib.hid hw4.1; have S4 := Lib.hid hw4.2; clear hw4 b13
  have L4 := L1.below B4.out
  refine (HE.out A1 k1 _ _ w4 _ _ (S1.out.below B4.out) S4.out O1.out L4).mono ?_
  rintro e w5 ⟨A5, n5, k5, rfl, s5, b5⟩
  obtain rfl : n5 = 5 := s5.len
  have S5 := Lib.hid (s5.wide (S' := fun k => k < w5.heap.size) (fun k hk _ => hk) (by decide)); have B5 := Lib.hid b5; clear s5 b5
  have L5 := L4.below B5.out
  simp only
  go_wp2_with fail
  refine (HR.out A1 k1 _ _ w5 _ _ ((S1.out.below B4.out).below B5.out) (S4.out.below B5.out) O1.out L5).mono ?_
  rintro e w6 ⟨A6, n6, k6, rfl, s6, b6⟩
  obtain rfl : n6 = 5 := s6.len
  have S6 := Lib.hid (s6.wide (S' := fun k => k < w6.heap.size) (fun k hk _ => hk) (by decide)); have B6 := Lib.hid b6; clear s6 b6
  have L6 := L5.below B6.out
  simp only
  go_wp2_with fail
  have hw7 : ∀ W : World, W = (((((w6.alloc (.cells #[.int .i64 1, .string ⟨#[88]⟩, .int .i64 0] 46)).alloc (.cells #[.int .i64 3, .string ⟨#[]⟩, .int .i64 1] 46)).alloc (.cells #[.int .i64 3, .string ⟨#[]⟩, .int .i64 2] 46)).alloc (.cells #[.int .i64 3, .string ⟨#[]⟩, .int .i64 1, .int .i64 1, .string ⟨#[88]⟩, .int .i64 0] 46)).alloc (.cells #[.int .i64 1, .string ⟨#[88]⟩, .int .i64 0, .int .i64 3, .string ⟨#[]⟩, .int .i64 2] 46)).alloc (.cells #[.bool false, .string ⟨#[]⟩, .string ⟨#[114, 101, 97, 99, 104]⟩, .slice (some ⟨w6.heap.size + 1 + 1 + 1, 0, none⟩) 2 2, .bool false, .string ⟨#[33, 61]⟩, .string ⟨#[]⟩, .slice (some ⟨w6.heap.size + 1 + 1 + 1 + 1, 0, none⟩) 2 2] 60) → Below w6.heap.size w6 W ∧ Sl W (fun k => k < W.heap.size) (some ⟨w6.heap.size + 1 + 1 + 1 + 1 + 1, 0, none⟩) 2 2 quA := by
    rintro W rfl
    refine ⟨((((boxed.alloc (by simp) _).alloc (by simp; omega) _).alloc (by simp; omega) _).alloc (by simp; omega) _).alloc (by simp; omega) _, slLtls2 (x := ⟨false, [], ⟨sReach, [nA 1, vX]⟩⟩) (y := ⟨false, [33, 61], ⟨[], [vX, nA 2]⟩⟩) (blkAt _ _ (by simp)) ?_ ?_⟩
    · exact slArg2 (x := nA 1) (y := vX) (blkOld (blkOld (blkAt _ _ (by simp)) _) _)
    · exact slArg2 (x := vX) (y := nA 2) (blkOld (blkAt _ _ (by simp)) _)
  have hw7 := hw7 _ rfl
  generalize (((((w6.alloc (.cells #[.int .i64 1, .string ⟨#[88]⟩, .int .i64 0] 46)).alloc (.cells #[.int .i64 3, .string ⟨#[]⟩, .int .i64 1] 46)).alloc (.cells #[.int .i64 3, .string ⟨#[]⟩, .int .i64 2] 46)).alloc (.cells #[.int .i64 3, .string ⟨#[]⟩, .int .i64 1, .int .i64 1, .string ⟨#[88]⟩, .int .i64 0] 46)).alloc (.cells #[.int .i64 1, .string ⟨#[88]⟩, .int .i64 0, .int .i64 3, .string ⟨#[]⟩, .int .i64 2] 46)).alloc (.cells #[.bool false, .string ⟨#[]⟩, .string ⟨#[114, 101, 97, 99, 104]⟩, .slice (some ⟨w6.heap.size + 1 + 1 + 1, 0, none⟩) 2 2, .bool false, .string ⟨#[33, 61]⟩, .string ⟨#[]⟩, .slice (some ⟨w6.heap.size + 1 + 1 + 1 + 1, 0, none⟩) 2 2] 60) = w7 at *
  have B7 := Lib.hid hw7.1; have S7 := Lib.hid hw7.2; clear hw7
  have L7 := L6.below B7.out
  refine (HA.out _ _ A5 k5 w7 _ _ S7.out ((S5.out.below B6.out).below B7.out) L7).mono ?_
  rintro e w8 ⟨A8, n8, k8, rfl, s8, b8⟩
  obtain rfl : n8 = 1 := s8.len
  have S8 := Lib.hid (s8.wide (S' := fun k => k < w8.heap.size) (fun k hk _ => hk) (by decide)); have B8 := Lib.hid b8; clear s8 b8
  clear S7 HA HR HE L7 L6 L5 L4 L1
  have B78 := B7.out.trans (B8.out.mono B7.out.size)
  have B58 := Lib.hid (B6.out.trans (B78.mono B6.out.size))
  have B48 := Lib.hid (B5.out.trans (B58.out.mono B5.out.size))
  clear B78
  simp only
  go_wp2_with fail
  refine (fact2 sEdge 1 2 w8).mono ?_
  rintro e w9 ⟨C1, d1, rfl, t1, c1⟩
  have T1 := Lib.hid t1; have C9 := Lib.hid c1; clear t1 c1
  go_wp2_with fail
  refine (fact2 sEdge 2 3 w9).mono ?_
  rintro e w10 ⟨C2, d2, rfl, t1, c1⟩
  have T2 := Lib.hid t1; have C10 := Lib.hid c1; clear t1 c1
  go_wp2_with fail
  refine (fact2 sReach 1 2 w10).mono ?_
  rintro e w11 ⟨C3, d3, rfl, t1, c1⟩
  have T3 := Lib.hid t1; have C11 := Lib.hid c1; clear t1 c1
  go_wp2_with fail
  refine (fact2 sReach 1 3 w11).mono ?_
  rintro e w12 ⟨C4, d4, rfl, t1, c1⟩
  have T4 := Lib.hid t1; have C12 := Lib.hid c1; clear t1 c1
  go_wp2_with fail
  refine (fact2 sReach 2 3 w12).mono ?_
  rintro e w13 ⟨C5, d5, rfl, t1, c1⟩
  have T5 := Lib.hid t1; have C13 := Lib.hid c1; clear t1 c1
  go_wp2_with fail
  have b1113 := C12.out.trans (C13.out.mono C12.out.size)
  have b1013 := C11.out.trans (b1113.mono C11.out.size)
  have b913 := C10.out.trans (b1013.mono C10.out.size)
  have b813 := C9.out.trans (b913.mono C9.out.size)
  have hw14 : ∀ W : World, W = w13.alloc (.cells #[.string ⟨sEdge.toArray⟩, .slice C1 2 d1, .string ⟨sEdge.toArray⟩, .slice C2 2 d2, .string ⟨sReach.toArray⟩, .slice C3 2 d3, .string ⟨sReach.toArray⟩, .slice C4 2 d4, .string ⟨sReach.toArray⟩, .slice C5 2 d5] 31) → Below w8.heap.size w8 W ∧ Sl W (fun k => k < W.heap.size) (some ⟨w13.heap.size, 0, none⟩) 5 5 moA := by
    rintro W rfl
    exact ⟨b813.alloc b813.size _, slAtms5 (x1 := ⟨sEdge, [nA 1, nA 2]⟩) (x2 := ⟨sEdge, [nA 2, nA 3]⟩) (x3 := ⟨sReach, [nA 1, nA 2]⟩) (x4 := ⟨sReach, [nA 1, nA 3]⟩) (x5 := ⟨sReach, [nA 2, nA 3]⟩) (blkAt _ _ rfl) (((T1.out.below b913).alloc _).wide (fun k hk _ => hk) (by decide)) (((T2.out.below b1013).alloc _).wide (fun k hk _ => hk) (by decide)) (((T3.out.below b1113).alloc _).wide (fun k hk _ => hk) (by decide)) (((T4.out.below C13.out).alloc _).wide (fun k hk _ => hk) (by decide)) ((T5.out.alloc _).wide (fun k hk _ => hk) (by decide))⟩
  have hw14 := hw14 _ rfl
  generalize w13.alloc (.cells #[.string ⟨sEdge.toArray⟩, .slice C1 2 d1, .string ⟨sEdge.toArray⟩, .slice C2 2 d2, .string ⟨sReach.toArray⟩, .slice C3 2 d3, .string ⟨sReach.toArray⟩, .slice C4 2 d4, .string ⟨sReach.toArray⟩, .slice C5 2 d5] 31) = w14 at *
  have B14 := Lib.hid hw14.1; have S14 := Lib.hid hw14.2; clear hw14 b1113 b1013 b913 b813 T1 T2 T3 T4 T5 C9 C10 C11 C12 C13
  refine (sameR_any moA moA A5 5 k5 _ _ _ w14 _ _ ((S5.out.below B58.out).below B14.out) S14.out).mono ?_
  rintro e w15 ⟨rfl, b15⟩
  rw [decide_eq_true rfl]
  have B15 := Lib.hid (B14.out.trans (b15.mono B14.out.size)); clear b15 B14 S14
  go_wp2_with fail
  have B515 := B58.out.trans (B15.out.mono B58.out.size)
  have B615 := B7.out.trans ((B8.out.trans (B15.out.mono B8.out.size)).mono B7.out.size)
  refine (equalI_any A6 5 k6 [0, 0, 1, 2, 1] _ 5 5 [0, 0, 1, 2, 1] _ _ _ ((S6.out.below B615).alloc _) (slInts [0, 0, 1, 2, 1] (blkAt w15 (.cells #[.int .i64 0, .int .i64 0, .int .i64 1, .int .i64 2, .int .i64 1] 3) rfl) (by simp))).mono ?_
  rintro e w16 ⟨rfl, b16⟩
  rw [decide_eq_true rfl]
  have b1516 : Below w15.heap.size w15 w16 := boxed.trans (b16.mono (by simp))
  have b816 := B15.out.trans (b1516.mono B15.out.size)
  have b516 := B515.trans (b1516.mono B515.size)
  have b416 := B5.out.trans (b516.mono B5.out.size)
  obtain ⟨b, o, rfl, -, hbs, D, n, dc, q0, hs⟩ := S8.out.rowA (k := 0) (by decide)
  obtain rfl : n = 1 := hs.len
  obtain ⟨b', o', rfl, -, hbs', r0, r1, r2⟩ := hs.arg (k := 0) (by decide)
  obtain ⟨b'', o'', hA, -, hbs'', E1, m1, f1, g0, g1, hs4⟩ := S4.out.atm (k := 0) (by decide)
  obtain ⟨rfl, rfl⟩ : w3.heap.size = b'' ∧ 0 = o'' := by simpa using hA
  obtain rfl : m1 = 2 := hs4.len
  have q0 := cell_later b816 q0; have r2 := cell_later b816 r2
  have g0 := cell_later b416 g0; have g1 := cell_later b416 g1
  have hs16 := hs4.below b416
  have q0 : w16.cell? ⟨b, o, none⟩ = some (.slice (some ⟨b', o', none⟩) 1 dc) := q0
  have r2 : w16.cell? ⟨b', o' + 2, none⟩ = some (.int .i64 3) := by simpa [nA] using r2
  have g0 : w16.cell? ⟨w3.heap.size, 0, none⟩ = some (.string ⟨sEdge.toArray⟩) := g0
  have g1 : w16.cell? ⟨w3.heap.size, 1, none⟩ = some (.slice E1 2 f1) := g1
  have HS16 := Lib.hid hs16
  have HM := Lib.hid (S5.out.below b516)
  have B416 := Lib.hid b416
  have B1 := B1; have B4 := B4
  clear b16 b1516 b816 b516 b416 hs r0 r1 hs4 hs16 S8 S6 S5 S4 S3 S2 S1 B515 B615 B58 B48 B15 B8 B7 B6 B5 B3 B2 O1 hA hbs hbs' hbs''
  go_wp2_with fail
  refine (HasQ_any moA faA[0] A5 5 k5 E1 2 f1 w16 _ _ HM.out HS16.out).mono ?_
  rintro e w17 ⟨rfl, b17⟩
  rw [show hasQ moA faA[0] = true from by decide +kernel]
  have B17 := Lib.hid (B416.out.trans (b17.mono B416.out.size)); clear b17
  go_wp2_with fail
  go_ret
  refine ⟨by rfl, B1.out.trans ((B4.out.trans (B17.out.mono B4.out.size)).mono B1.out.size)⟩
end Go.Proofs.YtkjoaodoioicpaaGreatDoor
namespace Go.Proofs.YtkjoaodoioicpaaGreatDoor
open Go.RowKit
theorem ne_err {x : Int} (h : ¬ x = 0) : (x != 0) = true := by simpa using h
end Go.Proofs.YtkjoaodoioicpaaGreatDoor
namespace Go.Proofs.YtkjoaodoioicpaaGreatDoor
structure ClosedP (l : List Rul) (facts m : List Atm) : Prop where
  rules : ∀ r ∈ l, ruleS r = true ∧ safeS r = true
  gr : ∀ a ∈ m, groundP a = true
  len : m.length ≤ facts.length + 1024
  ord : ∀ i (h : i + 1 < m.length), rordS (m[i]'(by omega)) m[i + 1] = -1
  sub : ∀ a ∈ facts, a ∈ m
  step : ∀ r ∈ l, (stepS r m).2 = 10 ∨ ((stepS r m).2 = 0 ∧ (stepS r m).1.length ≤ 1024 ∧ ∀ a ∈ (stepS r m).1, a ∈ m)
  supp : (∀ r ∈ l, (stepS r m).2 = 0) → ∀ a ∈ m, a ∈ facts ∨ ∃ r ∈ l, a ∈ (stepS r m).1
theorem closed_ok {l : List Rul} {facts : List Atm} (h : (evalS l facts).2.2 = 0) : ClosedP l facts (evalS l facts).1 := by
  obtain ⟨h1, h2, h3, h4⟩ := closed_law h
  have hm := modelS_mod (evalS_ok.1 h)
  obtain ⟨a1, a2⟩ := modelS_ok (evalS_ok.1 h)
  obtain ⟨hc, hfl, hg, hcons⟩ := (checkQ_ok l facts).1 a1
  have he := evalS_eq h
  have hgr : ∀ a ∈ (evalS l facts).1, groundP a = true := by
    rw [he]
    intro a ha
    exact hm.gr a ((mem_sortT _ a).1 ha)
  refine ⟨((checkS_ok l).1 hc).2.1, hgr, ?_, ?_, h2, ?_, h4⟩
  · rw [he]
    show (sortT _).length ≤ _
    rw [len_sortT]
    exact hm.len
  · intro i hi
    rw [rord_eq (ground_atomS (hgr _ (List.getElem_mem _))) (ground_atomS (hgr _ (List.getElem_mem _)))]
    exact List.pairwise_iff_getElem.1 h1 i (i + 1) (by omega) hi (by omega)
  · intro r hr
    rcases h3 r hr with h | ⟨h5, h6⟩
    · exact .inl h
    · refine .inr ⟨h5, ?_, h6⟩
      unfold stepS at h5 ⊢
      split
      · simp
      · rename_i hn
        rw [if_neg hn] at h5
        split
        · simp
        · rename_i hk
          show (sortT _).length ≤ _
          rw [len_sortT]; omega
theorem evalS_nil {l : List Rul} {facts : List Atm} (h : (evalS l facts).2.2 ≠ 0) : (evalS l facts).1 = [] := by
  unfold evalS at h ⊢
  split
  · rfl
  · rename_i h1
    rw [if_neg h1] at h
    exact absurd rfl h
end Go.Proofs.YtkjoaodoioicpaaGreatDoor
