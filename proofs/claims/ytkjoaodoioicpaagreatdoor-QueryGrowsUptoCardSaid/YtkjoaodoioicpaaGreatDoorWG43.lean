/- Query (package licitlaw54): a part of the proofs of its laws; see the law's own text, which comes last in 'order'. No conditions of its own. -/
import Derived.Deep.Slices
import Derived.Deep.Strs
import Derived.ProofKit
import Derived.OpenShut
import Derived.Test.YtkjoaodoioicpaaGreatDoorWG01
import Derived.Test.YtkjoaodoioicpaaGreatDoorWG02
import Derived.Test.YtkjoaodoioicpaaGreatDoorWG34
import Derived.Test.YtkjoaodoioicpaaGreatDoorWG42
set_option linter.unusedVariables false
set_option linter.unusedSimpArgs false
namespace Go.Proofs.YtkjoaodoioicpaaGreatDoor
open Go.RowKit
theorem aw_cnt : cntB quA ≤ 1000 := by decide +kernel
theorem aw_okT : (∀ a ∈ faA, OkT a) ∧ (∀ a ∈ moA, OkT a) ∧ (∀ l ∈ quA, OkL l) := by
  refine ⟨?_, ?_, ?_⟩ <;> simp [faA, moA, quA, OkT, OkL, OkAs, OkA, nA, vX, sEdge, sReach]
theorem slInts {w : World} {b : Nat} (xs : List Int) (h : w.heap[b]? = some (.cells (xs.map fun z => Value.int .i64 z).toArray 3 (0, 0))) (hl : xs.length ≤ 1000) : Sl w (fun k => k < w.heap.size) (some ⟨b, 0, none⟩) xs.length xs.length xs := by
  refine ⟨rfl, Nat.le_refl _, by omega, fun i hi => ?_⟩
  have hbl := (Array.getElem?_eq_some_iff.1 h).1
  refine ⟨_, rfl, hbl, fun j => .int .i64 xs[i], fun j hj => ?_, rfl⟩
  have hj : j < 1 := hj
  obtain rfl : j = 0 := by omega
  rw [add_plain, cell_blk h]
  show (xs.map fun z => Value.int .i64 z).toArray[0 + i * 1 + 0]? = _
  simp [hi]
theorem slAtms2 {w : World} {b : Nat} {S : Nat → Prop} {x y : Atm} {A B : Option Addr} {n c m d : Nat} (h : w.heap[b]? = some (.cells #[.string ⟨x.name.toArray⟩, .slice A n c, .string ⟨y.name.toArray⟩, .slice B m d] 31 (0, 0)))
    (hx : Sl w (fun k => k < w.heap.size) A n c x.args) (hy : Sl w (fun k => k < w.heap.size) B m d y.args) : Sl w (fun k => k < w.heap.size) (some ⟨b, 0, none⟩) 2 2 [x, y] := by
  refine ⟨rfl, Nat.le_refl _, by omega, fun i hi => ?_⟩
  have hbl := (Array.getElem?_eq_some_iff.1 h).1
  have hi : i < 2 := hi
  refine ⟨_, rfl, hbl, fun j => (#[.string ⟨x.name.toArray⟩, .slice A n c, .string ⟨y.name.toArray⟩, .slice B m d] : Array Value).getD (i * 2 + j) undef, fun j hj => ?_, ?_⟩
  · have hj : j < 2 := hj
    rw [add_plain, cell_blk h]
    match i, hi, j, hj with
    | 0, _, 0, _ => rfl
    | 0, _, 1, _ => rfl
    | 1, _, 0, _ => rfl
    | 1, _, 1, _ => rfl
  · match i, hi with
    | 0, _ => exact ⟨rfl, A, n, c, rfl, hx⟩
    | 1, _ => exact ⟨rfl, B, m, d, rfl, hy⟩
theorem slArg2 {w : World} {b : Nat} {x y : Arg} (h : w.heap[b]? = some (.cells #[.int .i64 x.kind, .string ⟨x.text.toArray⟩, .int .i64 x.num, .int .i64 y.kind, .string ⟨y.text.toArray⟩, .int .i64 y.num] 46 (0, 0))) : Sl w (fun k => k < w.heap.size) (some ⟨b, 0, none⟩) 2 2 [x, y] := by
  refine ⟨rfl, Nat.le_refl _, by omega, fun i hi => ?_⟩
  have hbl := (Array.getElem?_eq_some_iff.1 h).1
  have hi : i < 2 := hi
  refine ⟨_, rfl, hbl, fun j => (#[.int .i64 x.kind, .string ⟨x.text.toArray⟩, .int .i64 x.num, .int .i64 y.kind, .string ⟨y.text.toArray⟩, .int .i64 y.num] : Array Value).getD (i * 3 + j) undef, fun j hj => ?_, ?_⟩
  · have hj : j < 3 := hj
    rw [add_plain, cell_blk h]
    match i, hi, j, hj with
    | 0, _, 0, _ => rfl
    | 0, _, 1, _ => rfl
    | 0, _, 2, _ => rfl
    | 1, _, 0, _ => rfl
    | 1, _, 1, _ => rfl
    | 1, _, 2, _ => rfl
  · match i, hi with
    | 0, _ => exact ⟨rfl, rfl, rfl⟩
    | 1, _ => exact ⟨rfl, rfl, rfl⟩
theorem slLtls2 {w : World} {b : Nat} {x y : Ltl} {A B : Option Addr} {n c m d : Nat} (h : w.heap[b]? = some (.cells #[.bool x.neg, .string ⟨x.op.toArray⟩, .string ⟨x.atom.name.toArray⟩, .slice A n c, .bool y.neg, .string ⟨y.op.toArray⟩, .string ⟨y.atom.name.toArray⟩, .slice B m d] 60 (0, 0)))
    (hx : Sl w (fun k => k < w.heap.size) A n c x.atom.args) (hy : Sl w (fun k => k < w.heap.size) B m d y.atom.args) : Sl w (fun k => k < w.heap.size) (some ⟨b, 0, none⟩) 2 2 [x, y] := by
  refine ⟨rfl, Nat.le_refl _, by omega, fun i hi => ?_⟩
  have hbl := (Array.getElem?_eq_some_iff.1 h).1
  have hi : i < 2 := hi
  refine ⟨_, rfl, hbl, fun j => (#[.bool x.neg, .string ⟨x.op.toArray⟩, .string ⟨x.atom.name.toArray⟩, .slice A n c, .bool y.neg, .string ⟨y.op.toArray⟩, .string ⟨y.atom.name.toArray⟩, .slice B m d] : Array Value).getD (i * 4 + j) undef, fun j hj => ?_, ?_⟩
  · have hj : j < 4 := hj
    rw [add_plain, cell_blk h]
    match i, hi, j, hj with
    | 0, _, 0, _ => rfl
    | 0, _, 1, _ => rfl
    | 0, _, 2, _ => rfl
    | 0, _, 3, _ => rfl
    | 1, _, 0, _ => rfl
    | 1, _, 1, _ => rfl
    | 1, _, 2, _ => rfl
    | 1, _, 3, _ => rfl
  · match i, hi with
    | 0, _ => exact ⟨rfl, rfl, rfl, A, n, c, rfl, hx⟩
    | 1, _ => exact ⟨rfl, rfl, rfl, B, m, d, rfl, hy⟩
theorem slAtms5 {w : World} {b : Nat} {x1 x2 x3 x4 x5 : Atm} {A1 A2 A3 A4 A5 : Option Addr} {n1 n2 n3 n4 n5 c1 c2 c3 c4 c5 : Nat} (h : w.heap[b]? = some (.cells #[.string ⟨x1.name.toArray⟩, .slice A1 n1 c1, .string ⟨x2.name.toArray⟩, .slice A2 n2 c2, .string ⟨x3.name.toArray⟩, .slice A3 n3 c3, .string ⟨x4.name.toArray⟩, .slice A4 n4 c4, .string ⟨x5.name.toArray⟩, .slice A5 n5 c5] 31 (0, 0)))
    (h1 : Sl w (fun k => k < w.heap.size) A1 n1 c1 x1.args) (h2 : Sl w (fun k => k < w.heap.size) A2 n2 c2 x2.args) (h3 : Sl w (fun k => k < w.heap.size) A3 n3 c3 x3.args) (h4 : Sl w (fun k => k < w.heap.size) A4 n4 c4 x4.args) (h5 : Sl w (fun k => k < w.heap.size) A5 n5 c5 x5.args) :
    Sl w (fun k => k < w.heap.size) (some ⟨b, 0, none⟩) 5 5 [x1, x2, x3, x4, x5] := by
  refine ⟨rfl, Nat.le_refl _, by omega, fun i hi => ?_⟩
  have hbl := (Array.getElem?_eq_some_iff.1 h).1
  have hi : i < 5 := hi
  refine ⟨_, rfl, hbl, fun j => (#[.string ⟨x1.name.toArray⟩, .slice A1 n1 c1, .string ⟨x2.name.toArray⟩, .slice A2 n2 c2, .string ⟨x3.name.toArray⟩, .slice A3 n3 c3, .string ⟨x4.name.toArray⟩, .slice A4 n4 c4, .string ⟨x5.name.toArray⟩, .slice A5 n5 c5] : Array Value).getD (i * 2 + j) undef, fun j hj => ?_, ?_⟩
  · have hj : j < 2 := hj
    rw [add_plain, cell_blk h]
    match i, hi, j, hj with
    | 0, _, 0, _ => rfl
    | 0, _, 1, _ => rfl
    | 1, _, 0, _ => rfl
    | 1, _, 1, _ => rfl
    | 2, _, 0, _ => rfl
    | 2, _, 1, _ => rfl
    | 3, _, 0, _ => rfl
    | 3, _, 1, _ => rfl
    | 4, _, 0, _ => rfl
    | 4, _, 1, _ => rfl
  · match i, hi with
    | 0, _ => exact ⟨rfl, _, _, _, rfl, h1⟩
    | 1, _ => exact ⟨rfl, _, _, _, rfl, h2⟩
    | 2, _ => exact ⟨rfl, _, _, _, rfl, h3⟩
    | 3, _ => exact ⟨rfl, _, _, _, rfl, h4⟩
    | 4, _ => exact ⟨rfl, _, _, _, rfl, h5⟩
theorem Sl.rowA {w : World} {S : Nat → Prop} {A : Option Addr} {n c k : Nat} {xs : List (List Arg)} (h : Sl w S A n c xs) (hk : k < xs.length) : ∃ b o, A = some ⟨b, o, none⟩ ∧ S b ∧ b < w.heap.size ∧
    ∃ A' n' c', w.cell? ⟨b, o + k, none⟩ = some (.slice A' n' c') ∧ Sl w S A' n' c' xs[k] := by
  obtain ⟨b, o, hA, hS, hb, g, hc, A', n', c', h0, hs, _⟩ := h.plain (by decide) hk
  have c0 := hc 0 (by decide)
  rw [h0] at c0
  exact ⟨b, o, hA, hS, hb, A', n', c', by simpa [GoT.size] using c0, hs⟩
theorem fact2 (s : Bs) (a b : Int) (w : World) :
    Calls Tryz.prog 15 #[.string ⟨s.toArray⟩, .slice (some ⟨w.heap.size, 0, none⟩) 2 2] (w.alloc (.cells #[.int .i64 a, .int .i64 b] 3)) fun e w' => ∃ A c, e = .returned (.agg #[.string ⟨s.toArray⟩, .slice A 2 c]) ∧ Sl w' (fun k => k < w'.heap.size) A 2 c [nA a, nA b] ∧ Below w.heap.size w w' := by
  refine (fact_any s [a, b] (some ⟨w.heap.size, 0, none⟩) 2 2 _ _ (slInts [a, b] (blkAt w (.cells #[.int .i64 a, .int .i64 b] 3) rfl) (by simp)) (by simp)).mono ?_
  rintro e w' ⟨A, c, rfl, hs, hb⟩
  exact ⟨A, c, rfl, hs.wide (fun k hk _ => hk) (by decide), boxed.trans (hb.mono (by simp))⟩
set_option maxRecDepth 100000 in
set_option maxHeartbeats 8000000 in
theorem awake54_any (w : World) (hL : LD w) :
    Calls Tryz.prog 7 #[] w fun e w' => e = .returned (.bool true) ∧ Below w.heap.size w w' := by
  have hp := fun w => rParse_any txA w (by decide)
  rw [aw_parse] at hp
  have he := fun A c B d w S T hl hf ho hL => EvalQ_any A ruA.length c ruA B 2 d faA w S T hl hf ho aw_okT.1 hL
  rw [aw_eval] at he
  have hr := fun A c B d w S T hl hf ho hL => RanksQ_any A ruA.length c ruA B 2 d faA w S T hl hf ho aw_okT.1 hL _ aw_ranks aw_hB
  have ha := fun A2 c2 A c w S T hl hm hL => AskQ_any quA moA A2 2 c2 A 5 c w S T hl hm aw_okT.2.2 aw_okT.2.1 hL aw_cnt (fun _ => aw_askr)
  rw [aw_ask] at ha
  have hLP := Lib.hid hp; have HE := Lib.hid he; have HR := Lib.hid hr; have HA := Lib.hid ha; have HL := Lib.hid hL
  clear hp he hr ha hL
  generalize ruA = l1 at *
  go_enter Tryz.func7, Tryz.ntmps7
  go_wp2_with fail
  refine (show Calls Tryz.prog 16 _ w (PaPost w (l1, 0, 0)) from hLP.out w).mono ?_
  rintro e w1 ⟨A1, k1, rfl, s1, b1, o1⟩
  have L1 := HL.out.below b1
  clear hLP
  have S1 := Lib.hid s1; have B1 := Lib.hid b1; have O1 := Lib.hid o1; clear s1 b1 o1
  go_wp2_with fail
  refine (fact2 sEdge 2 3 w1).mono ?_
  rintro e w2 ⟨A2, k2, rfl, s2, b2⟩
  have S2 := Lib.hid s2; have B2 := Lib.hid b2; clear s2 b2
  go_wp2_with fail
  refine (fact2 sEdge 1 2 w2).mono ?_
  rintro e w3 ⟨A3, k3, rfl, s3, b3⟩
  have S3 := Lib.hid s3; have B3 := Lib.hid b3; clear s3 b3
  go_wp2_with fail
  have b13 : Below w1.heap.size w1 w3 := B2.out.trans (B3.out.mono B2.out.size)
  have hw4 : ∀ W : World, W = w3.alloc (.cells #[.string ⟨sEdge.toArray⟩, .slice A2 2 k2, .string ⟨sEdge.toArray⟩, .slice A3 2 k3] 31) → Below w1.heap.size w1 W ∧ Sl W (fun k => k < W.heap.size) (some ⟨w3.heap.size, 0, none⟩) 2 2 faA := by
    rintro W rfl
    exact ⟨b13.alloc b13.size _, slAtms2 (x := ⟨sEdge, [nA 2, nA 3]⟩) (y := ⟨sEdge, [nA 1, nA 2]⟩) (S := fun _ => True) (blkAt _ _ rfl) (((S2.out.below B3.out).alloc _).wide (fun k hk _ => hk) (by decide)) ((S3.out.alloc _).wide (fun k hk _ => hk) (by decide))⟩
  have hw4 := hw4 _ rfl
  generalize w3.alloc (.cells #[.string ⟨sEdge.toArray⟩, .slice A2 2 k2, .string ⟨sEdge.toArray⟩, .slice A3 2 k3] 31) = w4 at *
  have B4 := Lib.hid hw4.1; have S4 := Lib.hid hw4.2; clear hw4 b13
  have L4 := L1.below B4.out
  refine (HE.out A1 k1 _ _ w4 _ _ (S1.out.below B4.out) S4.out O1.out L4).mono ?_
  rintro e w5 ⟨A5, n5, k5, rfl, s5, b5⟩
  obtain rfl : n5 = 5 := s5.len
  have S5 := Lib.hid (s5.wide (S' := fun k => k < w5.heap.size) (fun k hk _ => hk) (by decide)); have B5 := Lib.hid b5; clear s5 b5
  have L5 := L4.below B5.out
  simp only
  go_wp2_with fail
  refine (HR.out A1 k1 _ _ w5 _ _ ((S1.out.below B4.out).below B5.out) (S4.out.below B5.out) O1.out L5).mono ?_
  rintro e w6 ⟨A6, n6, k6, rfl, s6, b6⟩
  obtain rfl : n6 = 5 := s6.len
  have S6 := Lib.hid (s6.wide (S' := fun k => k < w6.heap.size) (fun k hk _ => hk) (by decide)); have B6 := Lib.hid b6; clear s6 b6
  have L6 := L5.below B6.out
  simp only
  go_wp2_with fail
  have hw7 : ∀ W : World, W = (((((w6.alloc (.cells #[.int .i64 1, .string ⟨#[88]⟩, .int .i64 0] 46)).alloc (.cells #[.int .i64 3, .string ⟨#[]⟩, .int .i64 1] 46)).alloc (.cells #[.int .i64 3, .string ⟨#[]⟩, .int .i64 2] 46)).alloc (.cells #[.int .i64 3, .string ⟨#[]⟩, .int .i64 1, .int .i64 1, .string ⟨#[88]⟩, .int .i64 0] 46)).alloc (.cells #[.int .i64 1, .string ⟨#[88]⟩, .int .i64 0, .int .i64 3, .string ⟨#[]⟩, .int .i64 2] 46)).alloc (.cells #[.bool false, .string ⟨#[]⟩, .string ⟨#[114, 101, 97, 99, 104]⟩, .slice (some ⟨w6.heap.size + 1 + 1 + 1, 0, none⟩) 2 2, .bool false, .string ⟨#[33, 61]⟩, .string ⟨#[]⟩, .slice (some ⟨w6.heap.size + 1 + 1 + 1 + 1, 0, none⟩) 2 2] 60) → Below w6.heap.size w6 W ∧ Sl W (fun k => k < W.heap.size) (some ⟨w6.heap.size + 1 + 1 + 1 + 1 + 1, 0, none⟩) 2 2 quA := by
    rintro W rfl
    refine ⟨((((boxed.alloc (by simp) _).alloc (by simp; omega) _).alloc (by simp; omega) _).alloc (by simp; omega) _).alloc (by simp; omega) _, slLtls2 (x := ⟨false, [], ⟨sReach, [nA 1, vX]⟩⟩) (y := ⟨false, [33, 61], ⟨[], [vX, nA 2]⟩⟩) (blkAt _ _ (by simp)) ?_ ?_⟩
    · exact slArg2 (x := nA 1) (y := vX) (blkOld (blkOld (blkAt _ _ (by simp)) _) _)
    · exact slArg2 (x := vX) (y := nA 2) (blkOld (blkAt _ _ (by simp)) _)
  have hw7 := hw7 _ rfl
  generalize (((((w6.alloc (.cells #[.int .i64 1, .string ⟨#[88]⟩, .int .i64 0] 46)).alloc (.cells #[.int .i64 3, .string ⟨#[]⟩, .int .i64 1] 46)).alloc (.cells #[.int .i64 3, .string ⟨#[]⟩, .int .i64 2] 46)).alloc (.cells #[.int .i64 3, .string ⟨#[]⟩, .int .i64 1, .int .i64 1, .string ⟨#[88]⟩, .int .i64 0] 46)).alloc (.cells #[.int .i64 1, .string ⟨#[88]⟩, .int .i64 0, .int .i64 3, .string ⟨#[]⟩, .int .i64 2] 46)).alloc (.cells #[.bool false, .string ⟨#[]⟩, .string ⟨#[114, 101, 97, 99, 104]⟩, .slice (some ⟨w6.heap.size + 1 + 1 + 1, 0, none⟩) 2 2, .bool false, .string ⟨#[33, 61]⟩, .string ⟨#[]⟩, .slice (some ⟨w6.heap.size + 1 + 1 + 1 + 1, 0, none⟩) 2 2] 60) = w7 at *
  have B7 := Lib.hid hw7.1; have S7 := Lib.hid hw7.2; clear hw7
  have L7 := L6.below B7.out
  refine (HA.out _ _ A5 k5 w7 _ _ S7.out ((S5.out.below B6.out).below B7.out) L7).mono ?_
  rintro e w8 ⟨A8, n8, k8, rfl, s8, b8⟩
  obtain rfl : n8 = 1 := s8.len
  have S8 := Lib.hid (s8.wide (S' := fun k => k < w8.heap.size) (fun k hk _ => hk) (by decide)); have B8 := Lib.hid b8; clear s8 b8
  clear S7 HA HR HE L7 L6 L5 L4 L1
  have B78 := B7.out.trans (B8.out.mono B7.out.size)
  have B58 := Lib.hid (B6.out.trans (B78.mono B6.out.size))
  have B48 := Lib.hid (B5.out.trans (B58.out.mono B5.out.size))
  clear B78
  simp only
  go_wp2_with fail
  refine (fact2 sEdge 1 2 w8).mono ?_
  rintro e w9 ⟨C1, d1, rfl, t1, c1⟩
  have T1 := Lib.hid t1; have C9 := Lib.hid c1; clear t1 c1
  go_wp2_with fail
  refine (fact2 sEdge 2 3 w9).mono ?_
  rintro e w10 ⟨C2, d2, rfl, t1, c1⟩
  have T2 := Lib.hid t1; have C10 := Lib.hid c1; clear t1 c1
  go_wp2_with fail
  refine (fact2 sReach 1 2 w10).mono ?_
  rintro e w11 ⟨C3, d3, rfl, t1, c1⟩
  have T3 := Lib.hid t1; have C11 := Lib.hid c1; clear t1 c1
  go_wp2_with fail
  refine (fact2 sReach 1 3 w11).mono ?_
  rintro e w12 ⟨C4, d4, rfl, t1, c1⟩
  have T4 := Lib.hid t1; have C12 := Lib.hid c1; clear t1 c1
  go_wp2_with fail
  refine (fact2 sReach 2 3 w12).mono ?_
  rintro e w13 ⟨C5, d5, rfl, t1, c1⟩
  have T5 := Lib.hid t1; have C13 := Lib.hid c1; clear t1 c1
  go_wp2_with fail
  have b1113 := C12.out.trans (C13.out.mono C12.out.size)
  have b1013 := C11.out.trans (b1113.mono C11.out.size)
  have b913 := C10.out.trans (b1013.mono C10.out.size)
  have b813 := C9.out.trans (b913.mono C9.out.size)
  have hw14 : ∀ W : World, W = w13.alloc (.cells #[.string ⟨sEdge.toArray⟩, .slice C1 2 d1, .string ⟨sEdge.toArray⟩, .slice C2 2 d2, .string ⟨sReach.toArray⟩, .slice C3 2 d3, .string ⟨sReach.toArray⟩, .slice C4 2 d4, .string ⟨sReach.toArray⟩, .slice C5 2 d5] 31) → Below w8.heap.size w8 W ∧ Sl W (fun k => k < W.heap.size) (some ⟨w13.heap.size, 0, none⟩) 5 5 moA := by
    rintro W rfl
    exact ⟨b813.alloc b813.size _, slAtms5 (x1 := ⟨sEdge, [nA 1, nA 2]⟩) (x2 := ⟨sEdge, [nA 2, nA 3]⟩) (x3 := ⟨sReach, [nA 1, nA 2]⟩) (x4 := ⟨sReach, [nA 1, nA 3]⟩) (x5 := ⟨sReach, [nA 2, nA 3]⟩) (blkAt _ _ rfl) (((T1.out.below b913).alloc _).wide (fun k hk _ => hk) (by decide)) (((T2.out.below b1013).alloc _).wide (fun k hk _ => hk) (by decide)) (((T3.out.below b1113).alloc _).wide (fun k hk _ => hk) (by decide)) (((T4.out.below C13.out).alloc _).wide (fun k hk _ => hk) (by decide)) ((T5.out.alloc _).wide (fun k hk _ => hk) (by decide))⟩
  have hw14 := hw14 _ rfl
  generalize w13.alloc (.cells #[.string ⟨sEdge.toArray⟩, .slice C1 2 d1, .string ⟨sEdge.toArray⟩, .slice C2 2 d2, .string ⟨sReach.toArray⟩, .slice C3 2 d3, .string ⟨sReach.toArray⟩, .slice C4 2 d4, .string ⟨sReach.toArray⟩, .slice C5 2 d5] 31) = w14 at *
  have B14 := Lib.hid hw14.1; have S14 := Lib.hid hw14.2; clear hw14 b1113 b1013 b913 b813 T1 T2 T3 T4 T5 C9 C10 C11 C12 C13
  refine (sameR_any moA moA A5 5 k5 _ _ _ w14 _ _ ((S5.out.below B58.out).below B14.out) S14.out).mono ?_
  rintro e w15 ⟨rfl, b15⟩
  rw [decide_eq_true rfl]
  have B15 := Lib.hid (B14.out.trans (b15.mono B14.out.size)); clear b15 B14 S14
  go_wp2_with fail
  have B515 := B58.out.trans (B15.out.mono B58.out.size)
  have B615 := B7.out.trans ((B8.out.trans (B15.out.mono B8.out.size)).mono B7.out.size)
  refine (equalI_any A6 5 k6 [0, 0, 1, 2, 1] _ 5 5 [0, 0, 1, 2, 1] _ _ _ ((S6.out.below B615).alloc _) (slInts [0, 0, 1, 2, 1] (blkAt w15 (.cells #[.int .i64 0, .int .i64 0, .int .i64 1, .int .i64 2, .int .i64 1] 3) rfl) (by simp))).mono ?_
  rintro e w16 ⟨rfl, b16⟩
  rw [decide_eq_true rfl]
  have b1516 : Below w15.heap.size w15 w16 := boxed.trans (b16.mono (by simp))
  have b816 := B15.out.trans (b1516.mono B15.out.size)
  have b516 := B515.trans (b1516.mono B515.size)
  have b416 := B5.out.trans (b516.mono B5.out.size)
  obtain ⟨b, o, rfl, -, hbs, D, n, dc, q0, hs⟩ := S8.out.rowA (k := 0) (by decide)
  obtain rfl : n = 1 := hs.len
  obtain ⟨b', o', rfl, -, hbs', r0, r1, r2⟩ := hs.arg (k := 0) (by decide)
  obtain ⟨b'', o'', hA, -, hbs'', E1, m1, f1, g0, g1, hs4⟩ := S4.out.atm (k := 0) (by decide)
  obtain ⟨rfl, rfl⟩ : w3.heap.size = b'' ∧ 0 = o'' := by simpa using hA
  obtain rfl : m1 = 2 := hs4.len
  have q0 := cell_later b816 q0; have r2 := cell_later b816 r2
  have g0 := cell_later b416 g0; have g1 := cell_later b416 g1
  have hs16 := hs4.below b416
  have q0 : w16.cell? ⟨b, o, none⟩ = some (.slice (some ⟨b', o', none⟩) 1 dc) := q0
  have r2 : w16.cell? ⟨b', o' + 2, none⟩ = some (.int .i64 3) := by simpa [nA] using r2
  have g0 : w16.cell? ⟨w3.heap.size, 0, none⟩ = some (.string ⟨sEdge.toArray⟩) := g0
  have g1 : w16.cell? ⟨w3.heap.size, 1, none⟩ = some (.slice E1 2 f1) := g1
  have HS16 := Lib.hid hs16
  have HM := Lib.hid (S5.out.below b516)
  have B416 := Lib.hid b416
  have B1 := B1; have B4 := B4
  clear b16 b1516 b816 b516 b416 hs r0 r1 hs4 hs16 S8 S6 S5 S4 S3 S2 S1 B515 B615 B58 B48 B15 B8 B7 B6 B5 B3 B2 O1 hA hbs hbs' hbs''
  go_wp2_with fail
  refine (HasQ_any moA faA[0] A5 5 k5 E1 2 f1 w16 _ _ HM.out HS16.out).mono ?_
  rintro e w17 ⟨rfl, b17⟩
  rw [show hasQ moA faA[0] = true from by decide +kernel]
  have B17 := Lib.hid (B416.out.trans (b17.mono B416.out.size)); clear b17
  go_wp2_with fail
  go_ret
  refine ⟨by rfl, B1.out.trans ((B4.out.trans (B17.out.mono B4.out.size)).mono B1.out.size)⟩
end Go.Proofs.YtkjoaodoioicpaaGreatDoor
namespace Go.Proofs.YtkjoaodoioicpaaGreatDoor
open Go.RowKit
theorem posRs_pos {l : List Rul} (h : posRs l = true) : PosR l := by
  unfold posRs posL at h
  simp only [List.all_eq_true] at h
  intro r hr x hx
  simpa using h r hr x hx
theorem ne_err {x : Int} (h : ¬ x = 0) : (x != 0) = true := by simpa using h
set_option maxRecDepth 100000 in
set_option maxHeartbeats 8000000 in
theorem queryGrows_walk (w : World) (A : Option Addr) (n c : Nat) (l : List Rul) (hl : Sl w (fun _ => True) A n c l) (ho : ∀ r ∈ l, OkR r) (B : Option Addr) (m d : Nat) (facts : List Atm) (hf : Sl w (fun _ => True) B m d facts) (hof : ∀ a ∈ facts, OkT a)
    (C : Option Addr) (p q : Nat) (more : List Atm) (hm : Sl w (fun _ => True) C p q more) (hom : ∀ a ∈ more, OkT a) (hN : facts.length ≤ 1048576) (hM : more.length ≤ 1048576) (hL : LD w) :
    Calls Tryz.prog 4 #[.slice A n c, .slice B m d, .slice C p q] w fun e w' => e = .returned (.bool true) ∧ Below w.heap.size w w' := by
  have hn := hl.len; have hmm := hf.len; have hpp := hm.len
  subst hn hmm hpp
  have hle := hl.le; have hle2 := hf.le; have hle3 := hm.le
  have hlt := fun (k : Nat) (hk : k < w.heap.size) (_ : True) => hk
  have HL := Lib.hid hL; have HS := Lib.hid (hl.wide (S' := fun b => b < w.heap.size) hlt (by decide)); have HF := Lib.hid (hf.wide (S' := fun b => b < w.heap.size) hlt (by decide)); have HM := Lib.hid (hm.wide (S' := fun b => b < w.heap.size) hlt (by decide))
  have HO := Lib.hid ho; have HOF := Lib.hid hof
  have HOA := Lib.hid (show ∀ a ∈ facts ++ more, OkT a from fun a ha => (List.mem_append.1 ha).elim (hof a) (hom a))
  have hgr := fun (hp : PosR l) => @grows l facts (facts ++ more) hp (fun a ha => List.mem_append_left _ ha)
  have HG := Lib.hid hgr
  clear hL hl ho hf hof hm hom hlt hgr
  go_enter Tryz.func4, Tryz.ntmps4
  go_wp2_with fail
  refine (ca54_any B _ d facts w _ HF.out (by omega)).mono ?_
  rintro e w1 ⟨A1, k1, rfl, hown1, b1⟩
  have HO1 := Lib.hid hown1; have B1 := Lib.hid b1; clear hown1 b1
  go_wp2_with (at_builtin; go_loud (refine wpList_appN (e := 31) (T := fun k => k < w.heap.size) (base := w.heap.size) (xs := facts) (ys := more) rfl _ _ eltAtm rfl (by decide) rfl rfl rfl HO1.out rfl ((HM.out.below B1.out).wide (fun k _ hk => ⟨hk, fun e => by have := (HO1.out.lt k e).1; omega⟩) (by decide)) (by omega) (by omega) B1.out.size ?_); intro A2 k2 w2 hown2 hg2 hat2)
  have b2 : Below w.heap.size w w2 := B1.out.grown hg2 B1.out.size (fun k hk => (HO1.out.lt k hk).1)
  have SA := Lib.hid (((hown2.sl (by decide)).wide (S' := fun k => k < w2.heap.size) (fun k hk _ => hk) (by decide)).cast (show (facts ++ more).length = facts.length + more.length by simp))
  have B2 := Lib.hid b2
  clear hown2 hg2 hat2 b2 HO1 B1 HM
  have hal : facts.length + more.length = (facts ++ more).length := by simp
  rw [hal] at SA ⊢
  generalize facts ++ more = all at *
  go_wp2_with fail
  refine (awake54_any _ (HL.out.below B2.out)).mono ?_
  rintro e w3 ⟨rfl, b3⟩
  have B3 := Lib.hid (B2.out.trans (b3.mono B2.out.size))
  have SA3 := Lib.hid (SA.out.below b3)
  clear b3 SA
  have hpos := posRs_pos (l := l)
  have HPOS := Lib.hid hpos; clear hpos
  go_wp2_with fail
  refine (light_any l all A l.length c A2 all.length k2 w3 _ _ (HS.out.below B3.out) SA3.out HO.out HOA.out).mono ?_
  rintro e w4 ⟨⟨qb, rfl, hq⟩, b4⟩
  have B4 := Lib.hid (B3.out.trans (b4.mono B3.out.size))
  have SA4 := Lib.hid ((SA3.out.below b4).wide (S' := fun k => k < w4.heap.size) (fun k hk _ => hk) (by decide))
  have HQ := Lib.hid hq
  clear b4 SA3 hq B2
  cases qb with
  | false =>
    go_wp2_with fail
    refine (awake54_any _ (HL.out.below B4.out)).mono ?_
    rintro e w5 ⟨rfl, b5⟩
    have B5 := Lib.hid (B4.out.trans (b5.mono B4.out.size)); clear b5
    go_wp2_with fail
    exact bodyPost_ret (v := .bool true) (by simp [results, Tryz.results4, go_sem]) rfl ⟨rfl, B5.out⟩
  | true =>
    obtain ⟨hq1, hq2⟩ := HQ.out rfl
    obtain ⟨hl6, -⟩ := fewS_sm (m := 6) hq1
    obtain ⟨hl14, -⟩ := fewAs_sm (m := 14) hq2
    clear hq1 hq2 HQ
    have hpv := positive54_any l A l.length c w4 _ (HS.out.below B4.out)
    cases hp : posRs l with
    | false =>
      rw [hp] at hpv
      have HPV := Lib.hid hpv; clear hpv hp
      go_wp2_with fail
      refine HPV.out.mono ?_
      rintro e w5 ⟨rfl, rfl⟩
      go_wp2_with fail
      refine (awake54_any _ (HL.out.below B4.out)).mono ?_
      rintro e w6 ⟨rfl, b6⟩
      have B6 := Lib.hid (B4.out.trans (b6.mono B4.out.size)); clear b6
      go_wp2_with fail
      exact bodyPost_ret (v := .bool true) (by simp [results, Tryz.results4, go_sem]) rfl ⟨rfl, B6.out⟩
    | true =>
      rw [hp] at hpv
      have hgr := HG.out (HPOS.out hp)
      have HPV := Lib.hid hpv; have HGR := Lib.hid hgr; clear hpv hp hgr HPOS HG
      go_wp2_with fail
      refine HPV.out.mono ?_
      rintro e w5 ⟨rfl, rfl⟩
      clear HPV
      have hw45 : w5.heap.size = w5.heap.size := rfl
      have he1 := fun A c B d w S T hl hf hL => EvalQ_any A l.length c l B facts.length d facts w S T hl hf HO.out HOF.out hL
      have he2 := fun A c B d w S T hl hf hL => EvalQ_any A l.length c l B all.length d all w S T hl hf HO.out HOA.out hL
      generalize evalS l facts = r1 at *
      generalize evalS l all = r2 at *
      obtain ⟨m1, i1, e1⟩ := r1
      obtain ⟨m2, i2, e2⟩ := r2
      have HE1 := Lib.hid he1; have HE2 := Lib.hid he2; clear he1 he2 hw45
      go_wp2_with fail
      refine (cp54_any A _ c l w5 _ (HS.out.below B4.out) (by omega)).mono ?_
      rintro e w6 ⟨A6, k6, rfl, o6, b6⟩
      have S6 := Lib.hid (o6.sl (by decide)); have B6 := Lib.hid (B4.out.trans (b6.mono B4.out.size)); have SA6 := Lib.hid (SA4.out.below b6); clear o6 b6 SA4
      go_wp2_with fail
      refine (ca54_any B _ d facts w6 _ (HF.out.below B6.out) (by omega)).mono ?_
      rintro e w7 ⟨A7, k7, rfl, o7, b7⟩
      have S7 := Lib.hid (o7.sl (by decide)); have B7 := Lib.hid (B6.out.trans (b7.mono B6.out.size)); have SA7 := Lib.hid (SA6.out.below b7); have S67 := Lib.hid (S6.out.below b7); clear o7 b7 SA6 S6
      go_wp2_with fail
      refine (HE1.out A6 k6 A7 k7 w7 _ _ S67.out S7.out (HL.out.below B7.out)).mono ?_
      rintro e w8 ⟨A8, n8, k8, rfl, s8, b8⟩
      have hn8 := s8.len
      subst hn8
      have hle8 := s8.le
      have S8 := Lib.hid (s8.wide (S' := fun k => k < w8.heap.size) (fun k hk _ => hk) (by decide)); have B8 := Lib.hid (B7.out.trans (b8.mono B7.out.size)); have SA8 := Lib.hid (SA7.out.below b8); clear s8 b8 SA7 S67 S7
      simp only at S8 hle8 ⊢
      go_wp2_with fail
      refine (cp54_any A _ c l w8 _ (HS.out.below B8.out) (by omega)).mono ?_
      rintro e w9 ⟨A9, k9, rfl, o9, b9⟩
      have S9 := Lib.hid (o9.sl (by decide)); have B9 := Lib.hid (B8.out.trans (b9.mono B8.out.size)); have SA9 := Lib.hid (SA8.out.below b9); have S89 := Lib.hid (S8.out.below b9); clear o9 b9 SA8 S8
      go_wp2_with fail
      refine (ca54_any A2 _ k2 all w9 _ SA9.out (by omega)).mono ?_
      rintro e w10 ⟨A10, k10, rfl, o10, b10⟩
      have S10 := Lib.hid (o10.sl (by decide)); have B10 := Lib.hid (B9.out.trans (b10.mono B9.out.size)); have S910 := Lib.hid (S9.out.below b10); have S810 := Lib.hid (S89.out.below b10); clear o10 b10 SA9 S9 S89
      go_wp2_with fail
      refine (HE2.out A9 k9 A10 k10 w10 _ _ S910.out S10.out (HL.out.below B10.out)).mono ?_
      rintro e w11 ⟨A11, n11, k11, rfl, s11, b11⟩
      have hn11 := s11.len
      subst hn11
      have hle11 := s11.le
      have S11 := Lib.hid s11; have B11 := Lib.hid (B10.out.trans (b11.mono B10.out.size)); have S811 := Lib.hid (S810.out.below b11); clear s11 b11 S910 S10 S810 HE1 HE2 B3 B4 B6 B7 B8 B9 B10
      simp only at S11 hle11 HGR ⊢
      by_cases h1 : e1 = 0
      · by_cases h2 : e2 = 0
        · subst h1 h2
          have hg := HGR.out rfl rfl
          have HGG := Lib.hid hg; clear hg HGR
          go_wp2_with fail
          go_loopw [60] (fun i wr => ∃ k : Nat, k ≤ m1.length ∧ i = .int .i64 k ∧ Below w11.heap.size w11 wr) (fun i _ => m1.length - (intOf i).toNat)
          case atStart => exact ⟨0, by omega, rfl, Below.refl _ _⟩
          case round =>
            obtain ⟨k, hk, rfl, hb⟩ := hrel
            by_cases hlt : k < m1.length
            · obtain ⟨b, o, rfl, -, hbs, D1, q1, f1, g0, g1, hs⟩ := (S811.out.below hb).atm hlt
              have hmem := HGG.out m1[k] (List.getElem_mem hlt)
              generalize m1[k] = x at *
              have hhas := fun (w' : World) (hb' : Below w11.heap.size w11 w') (S : Nat → Prop) (hs : Sl w' S D1 q1 f1 x.args) => hasR_any m2 x A11 m2.length k11 D1 q1 f1 w' _ S (S11.out.below hb') hs
              have hv : hasQ m2 x = true := by unfold hasQ; simpa using hmem
              rw [hv] at hhas
              have HS1 := Lib.hid hs; have HB := Lib.hid hb; have HH := Lib.hid hhas
              have hbs11 := hb.size
              clear hs hb hmem hv hhas
              go_wp2_with fail
              have hb2 : Below w11.heap.size w11 (wr.alloc (.cells #[.string ⟨x.name.toArray⟩, .slice D1 q1 f1] 31)) := HB.out.alloc hbs11 _
              refine (HH.out _ hb2 _ (HS1.out.alloc _)).mono ?_
              rintro e w12 ⟨rfl, b12⟩
              have HB2 := Lib.hid (hb2.trans (b12.mono hb2.size))
              clear hb2 b12 HH HS1 g0 g1
              go_wp2_with fail
              go_roundw
              case rel => exact ⟨k + 1, by omega, by go_num, HB2.out⟩
              case measure => simp [intOf]; omega
            · have HB := Lib.hid (B11.out.trans (hb.mono B11.out.size))
              clear hb
              go_wp2_with fail
              exact bodyPost_ret (v := .bool true) (by simp [results, Tryz.results4, go_sem]) rfl ⟨rfl, HB.out⟩
        · have hb2 := ne_err h2
          subst h1
          clear h2
          go_wp2_with fail
          exact bodyPost_ret (v := .bool true) (by simp [results, Tryz.results4, go_sem]) rfl ⟨rfl, B11.out⟩
      · have hb1 := ne_err h1
        clear h1
        go_wp2_with fail
        exact bodyPost_ret (v := .bool true) (by simp [results, Tryz.results4, go_sem]) rfl ⟨rfl, B11.out⟩
end Go.Proofs.YtkjoaodoioicpaaGreatDoor
namespace Go.Proofs.YtkjoaodoioicpaaGreatDoor
open Go.RowKit
theorem Own.blk {α : Type} [GoT α] {w : World} {T : Nat → Prop} {base e c : Nat} {A : Option Addr} {xs : List α} (h : Own w T base e A c xs) (hz : 0 < xs.length) : ∃ g cs, A = some ⟨g, 0, none⟩ ∧ w.heap[g]? = some (.cells cs e (0, 0)) ∧ xs.length * GoT.size α ≤ cs.size := by
  obtain ⟨l0, ⟨h1, h2⟩, h3⟩ := h
  rcases h2 with ⟨h2, h0⟩ | ⟨g', cap, cur, hv, hbb, hg, hn, hm, hcs, htk⟩
  · omega
  · injection hv with hA
    exact ⟨g', cur, hA, hg, by rw [hcs]; exact Nat.mul_le_mul_right _ hn⟩
theorem Own.base {α : Type} [GoT α] {w : World} {T : Nat → Prop} {base b e c : Nat} {A : Option Addr} {xs : List α} (h : Own w T base e A c xs) (hb : b ≤ base) : Own w T b e A c xs := by
  obtain ⟨cs, ⟨h1, h2⟩, h3⟩ := h
  refine ⟨cs, ⟨h1, ?_⟩, h3⟩
  rcases h2 with h2 | ⟨g, cap, cur, hv, hbb, h⟩
  · exact .inl h2
  · exact .inr ⟨g, cap, cur, hv, Nat.le_trans hb hbb, h⟩
structure Pr where
  a : Nat
  b : Nat
instance : Inhabited Pr := ⟨⟨0, 0⟩⟩
instance : GoT Pr where
  size := 2
  rd := fun _ _ g x => g 0 = .int .u8 (x.a : Int) ∧ g 1 = .int .u8 (x.b : Int)
  keep := fun _ h => h
  wide := fun _ h => h
  same := fun hg h => ⟨(hg 0 (by omega)).trans h.1, (hg 1 (by omega)).trans h.2⟩
  one := fun h j hj => by
    match j, hj with
    | 0, _ => rw [h.1]; rfl
    | 1, _ => rw [h.2]; rfl
end Go.Proofs.YtkjoaodoioicpaaGreatDoor
namespace Go.Proofs.YtkjoaodoioicpaaGreatDoor
open Go.RowKit Go.Deep Go.ChangeShapes
theorem cellsOfInt : Tryz.prog.cellsOf 3 = 1 := by kernel_rfl
theorem cellsOfStr : Tryz.prog.cellsOf 9 = 1 := by kernel_rfl
theorem cellsOfBool : Tryz.prog.cellsOf 4 = 1 := by kernel_rfl
theorem cellsOfArg : Tryz.prog.cellsOf 46 = 3 := by kernel_rfl
theorem cellsOfArgs : Tryz.prog.cellsOf 29 = 1 := by kernel_rfl
theorem cellsOfAtm : Tryz.prog.cellsOf 31 = 2 := by kernel_rfl
theorem cellsOfLtl : Tryz.prog.cellsOf 60 = 4 := by kernel_rfl
theorem cellsOfLtls : Tryz.prog.cellsOf 32 = 1 := by kernel_rfl
theorem cellsOfRul : Tryz.prog.cellsOf 34 = 3 := by kernel_rfl
theorem undArg : ∃ f0 f1 f2 : Field, Tryz.prog.underlying 46 = some (.struct #[f0, f1, f2]) ∧ f0.type = 3 ∧ f0.offset = 0 ∧ f1.type = 9 ∧ f1.offset = 1 ∧ f2.type = 3 ∧ f2.offset = 2 :=
  ⟨_, _, _, Tryz.underlying46, rfl, rfl, rfl, rfl, rfl, rfl⟩
theorem undAtm : ∃ f0 f1 : Field, Tryz.prog.underlying 31 = some (.struct #[f0, f1]) ∧ f0.type = 9 ∧ f0.offset = 0 ∧ f1.type = 29 ∧ f1.offset = 1 :=
  ⟨_, _, Tryz.underlying31, rfl, rfl, rfl, rfl⟩
theorem undLtl : ∃ f0 f1 f2 : Field, Tryz.prog.underlying 60 = some (.struct #[f0, f1, f2]) ∧ f0.type = 4 ∧ f0.offset = 0 ∧ f1.type = 9 ∧ f1.offset = 1 ∧ f2.type = 31 ∧ f2.offset = 2 :=
  ⟨_, _, _, Tryz.underlying60, rfl, rfl, rfl, rfl, rfl, rfl⟩
theorem undRul : ∃ f0 f1 : Field, Tryz.prog.underlying 34 = some (.struct #[f0, f1]) ∧ f0.type = 31 ∧ f0.offset = 0 ∧ f1.type = 32 ∧ f1.offset = 2 :=
  ⟨_, _, Tryz.underlying34, rfl, rfl, rfl, rfl⟩
section
variable {H : Type} {enc : TypeId × Value → H} {W : World} {base : Nat} {spare : Nat → Bool} {held : Bool}
def Opens (enc : TypeId × Value → H) (W : World) (base : Nat) (spare : Nat → Bool) (held : Bool) (α : Type) [GoT α] (t : TypeId) (Ok : α → Prop) : Prop :=
  ∀ (fuel : Nat) (cs : List Value) (x : DataW H × List MemPlace), DataW.trod enc Tryz.prog W base spare held fuel t cs = some x →
    cs.length = GoT.size α ∧ ∃ o : α, GoT.rd W (fun _ => True) (fun j => cs.getD j undef) o ∧ Ok o
theorem opens_slice {α : Type} [GoT α] [Inhabited α] {t e : TypeId} {Ok : α → Prop} (hu : Tryz.prog.underlying t = some (.slice e)) (hz : Tryz.prog.cellsOf e = GoT.size α) (h : Opens enc W base spare held α e Ok)
    {fuel : Nat} {cs : List Value} {x : DataW H × List MemPlace} (hx : DataW.trod enc Tryz.prog W base spare held fuel t cs = some x) :
    ∃ A n c, ∃ l : List α, cs = [.slice A n c] ∧ Sl W (fun _ => True) A n c l ∧ ∀ o ∈ l, Ok o := by
  rcases open_slice hu hx with ⟨rfl, _⟩ | ⟨a, len, cap, m, n', D, Pl, rfl, _, hl, hm, hmm, _, hx⟩
  · exact ⟨none, 0, 0, [], rfl, Sl.nil _ _ _ _ (by decide), fun o ho => by cases ho⟩
  · have hlm : len ≤ m := by rw [hmm]; split <;> omega
    rw [hz] at hx
    obtain ⟨g, hg⟩ := choose_lt (α := List Value × α) (n := len) (p := fun i o => (∀ j, j < GoT.size α → W.cell? ((a.add (i * GoT.size α)).add j) = o.1[j]?) ∧ o.1.length = GoT.size α ∧ GoT.rd W (fun _ => True) (fun j => o.1.getD j undef) o.2 ∧ Ok o.2) (fun i hi => by
      obtain ⟨cs', h1, h2⟩ := hx i (by omega)
      obtain ⟨hlen, o, h3, h4⟩ := h _ _ _ h2
      obtain ⟨-, -, hcell⟩ := World.cells?_some h1
      exact ⟨(cs', o), hcell, hlen, h3, h4⟩)
    refine ⟨some a, len, cap, (List.range len).map fun i => (g i).2, rfl, ⟨by simp, hl, by simpa [maxLen] using hm, fun i hi => ?_⟩, fun o ho => ?_⟩
    · have hi' : i < len := by simpa using hi
      obtain ⟨h1, h2, h3, h4⟩ := hg i hi'
      refine ⟨a, rfl, trivial, fun j => (g i).1.getD j undef, fun j hj => ?_, ?_⟩
      · have := h1 j hj
        rw [add_of_add] at this
        show _ = some ((g i).1.getD j undef)
        rw [this, List.getD_eq_getElem?_getD, List.getElem?_eq_getElem (by omega)]
        rfl
      · simp only [List.getElem_map, List.getElem_range]
        exact h3
    · obtain ⟨i, hi, rfl⟩ := List.mem_map.1 ho
      exact (hg i (List.mem_range.1 hi)).2.2.2
theorem opens_arg : Opens enc W base spare held Arg 46 OkA := by
  intro fuel cs x h
  obtain ⟨f0, f1, f2, hu, t0, o0, t1, o1, t2, o2⟩ := undArg
  obtain ⟨y0, y1, y2, n, -, hl, h0, h1, h2⟩ := trod_struct3 hu h
  rw [t0, o0, cellsOfInt] at h0
  rw [t1, o1, cellsOfStr] at h1
  rw [t2, o2, cellsOfInt] at h2
  rw [cellsOfArg] at hl
  obtain ⟨a, b, c, rfl⟩ : ∃ a b c, cs = [a, b, c] := by
    match cs, hl with
    | [a, b, c], _ => exact ⟨a, b, c, rfl⟩
  obtain ⟨k, e0, -, -⟩ := DataW.trod_int Tryz.underlying3 h0
  obtain ⟨s, e1, -, hs⟩ := DataW.trod_string Tryz.underlying9 h1
  obtain ⟨m, e2, -, hw⟩ := DataW.trod_int Tryz.underlying3 h2
  simp at e0 e1 e2
  subst e0 e1 e2
  have hb : -9223372036854775808 ≤ m ∧ m ≤ 9223372036854775807 := by simpa [Lit.wf, IntKind.min, IntKind.max, IntKind.signed, IntKind.bits] using hw
  exact ⟨rfl, ⟨k, s.data.toList, m⟩, ⟨rfl, rfl, rfl⟩, by simpa [maxLen] using hs, hb.1, hb.2⟩
set_option maxRecDepth 100000 in
theorem opens_atm : Opens enc W base spare held Atm 31 OkT := by
  intro fuel cs x h
  obtain ⟨f0, f1, hu, t0, o0, t1, o1⟩ := undAtm
  obtain ⟨xs, n, -, -, hl, hlen, hf⟩ := DataW.trod_struct hu h
  have h0 := hf 0 f0 rfl
  have h1 := hf 1 f1 rfl
  rw [t0, o0, cellsOfStr] at h0
  rw [t1, o1, cellsOfArgs] at h1
  rw [cellsOfAtm] at hl
  obtain ⟨a, b, rfl⟩ : ∃ a b, cs = [a, b] := by
    match cs, hl with
    | [a, b], _ => exact ⟨a, b, rfl⟩
  obtain ⟨y0, y1, rfl⟩ : ∃ a b, xs = [a, b] := by
    match xs, hlen with
    | [a, b], _ => exact ⟨a, b, rfl⟩
  simp only [List.getElem?_cons_zero, List.getElem?_cons_succ] at h0 h1
  obtain ⟨s, e1, -, hs⟩ := DataW.trod_string Tryz.underlying9 h0
  obtain ⟨A, n, c, l, e2, hsl, hk⟩ := opens_slice Tryz.underlying29 cellsOfArg opens_arg h1
  simp at e1 e2
  subst e1 e2
  exact ⟨rfl, ⟨s.data.toList, l⟩, ⟨rfl, A, n, c, rfl, hsl⟩, by simpa [maxLen] using hs, hk⟩
theorem opens_ltl : Opens enc W base spare held Ltl 60 OkL := by
  intro fuel cs x h
  obtain ⟨f0, f1, f2, hu, t0, o0, t1, o1, t2, o2⟩ := undLtl
  obtain ⟨y0, y1, y2, n, -, hl, h0, h1, h2⟩ := trod_struct3 hu h
  rw [t0, o0, cellsOfBool] at h0
  rw [t1, o1, cellsOfStr] at h1
  rw [t2, o2, cellsOfAtm] at h2
  rw [cellsOfLtl] at hl
  obtain ⟨a, b, c, d, rfl⟩ : ∃ a b c d, cs = [a, b, c, d] := by
    match cs, hl with
    | [a, b, c, d], _ => exact ⟨a, b, c, d, rfl⟩
  obtain ⟨k, e0, -⟩ := DataW.trod_bool Tryz.underlying4 h0
  obtain ⟨s, e1, -, hs⟩ := DataW.trod_string Tryz.underlying9 h1
  obtain ⟨-, o, hrd, hok⟩ := opens_atm _ _ _ h2
  simp at e0 e1
  subst e0 e1
  obtain ⟨q0, A, n, c', q1, hsl⟩ := hrd
  have q0 : c = .string ⟨o.name.toArray⟩ := q0
  have q1 : d = .slice A n c' := q1
  subst q0 q1
  exact ⟨rfl, ⟨k, s.data.toList, o⟩, ⟨rfl, rfl, rfl, A, n, c', rfl, hsl⟩, by simpa [maxLen] using hs, hok⟩
set_option maxRecDepth 100000 in
theorem opens_rul : Opens enc W base spare held Rul 34 OkR := by
  intro fuel cs x h
  obtain ⟨f0, f1, hu, t0, o0, t1, o1⟩ := undRul
  obtain ⟨xs, n, -, -, hl, hlen, hf⟩ := DataW.trod_struct hu h
  have h0 := hf 0 f0 rfl
  have h1 := hf 1 f1 rfl
  rw [t0, o0, cellsOfAtm] at h0
  rw [t1, o1, cellsOfLtls] at h1
  rw [cellsOfRul] at hl
  obtain ⟨a, b, c, rfl⟩ : ∃ a b c, cs = [a, b, c] := by
    match cs, hl with
    | [a, b, c], _ => exact ⟨a, b, c, rfl⟩
  obtain ⟨y0, y1, rfl⟩ : ∃ a b, xs = [a, b] := by
    match xs, hlen with
    | [a, b], _ => exact ⟨a, b, rfl⟩
  simp only [List.getElem?_cons_zero, List.getElem?_cons_succ] at h0 h1
  obtain ⟨-, o, hrd, hok⟩ := opens_atm _ _ _ h0
  obtain ⟨A2, n2, c2, l, e2, hsl2, hk⟩ := opens_slice Tryz.underlying32 cellsOfLtl opens_ltl h1
  simp at e2
  subst e2
  obtain ⟨q0, A, n, c', q1, hsl⟩ := hrd
  have q0 : a = .string ⟨o.name.toArray⟩ := q0
  have q1 : b = .slice A n c' := q1
  subst q0 q1
  exact ⟨rfl, ⟨o, l⟩, ⟨rfl, ⟨A, n, c', rfl, hsl⟩, A2, n2, c2, rfl, hsl2⟩, hok, hk⟩
theorem openRules {A : Option Addr} {n c : Nat} {d : DataW H} {p : List MemPlace} (h : DataW.Trod enc Tryz.prog W base spare held 22 (.slice A n c) d p) : ∃ l : List Rul, Sl W (fun _ => True) A n c l ∧ ∀ r ∈ l, OkR r := by
  obtain ⟨fuel, hf⟩ := h
  obtain ⟨A', n', c', l, e, hs, hk⟩ := opens_slice Tryz.underlying22 cellsOfRul opens_rul hf
  simp [Value.cells] at e
  obtain ⟨rfl, rfl, rfl⟩ := e
  exact ⟨l, hs, hk⟩
end
end Go.Proofs.YtkjoaodoioicpaaGreatDoor
