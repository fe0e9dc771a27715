/- RulesOrder: the law answers true, whatever the input, and writes nothing that was there. Conditions: none beyond the given statement's (the listed package-level variables start as the program's text lays them; the card ties them, over a pruned copy of the project). -/
import Derived.Test.YtjopmgoacncmgaaGreatDoorKA1
import Derived.Test.YtjopmgoacncmgaaGreatDoorKF2
import Derived.Test.YtjopmgoacncmgaaGreatDoorKW3
import Derived.Test.YtjopmgoacncmgaaGreatDoorKW5
import Derived.Test.YtjopmgoacncmgaaGreatDoorKO
import Derived.Test.YtjopmgoacncmgaaGreatDoorKFr
import Derived.Test.YtjopmgoacncmgaaGreatDoorTie
import Derived.Test.YtjopmgoacncmgaaGreatDoorCards
import Derived.ProofKit
import Derived.OpenShut
import Derived.ShutString
import Derived.ChangeOld
import Derived.Below
import Derived.Lay
import Derived.Handy
import Derived.SevenTiedAt
set_option linter.unusedVariables false
set_option linter.unusedSimpArgs false
namespace Go.Proofs.YtjopmgoacncmgaaGreatDoor
open Go.RowKit

theorem slAtm3 {w : World} {S1 S2 S3 : Nat → Prop} {b : Nat} {t : TypeId} {fz : Nat × Nat} {x y z : Atm} {A1 A2 A3 : Option Addr} {n1 c1 n2 c2 n3 c3 : Nat} (hb : w.heap[b]? = some (.cells #[.string ⟨x.name.toArray⟩, .slice A1 n1 c1, .string ⟨y.name.toArray⟩, .slice A2 n2 c2, .string ⟨z.name.toArray⟩, .slice A3 n3 c3] t fz))
    (h1 : Sl w S1 A1 n1 c1 x.args) (h2 : Sl w S2 A2 n2 c2 y.args) (h3 : Sl w S3 A3 n3 c3 z.args) : Sl w (fun _ => True) (some ⟨b, 0, none⟩) 3 3 [x, y, z] := by
  refine ⟨rfl, Nat.le_refl _, by decide, fun i hi => ?_⟩
  have hi : i < 3 := hi
  match i, hi with
  | 0, _ =>
    refine ⟨_, rfl, trivial, fun j => (#[.string ⟨x.name.toArray⟩, .slice A1 n1 c1] : Array Value).getD j undef, fun j hj => ?_, rfl, A1, n1, c1, rfl, h1.any⟩
    have hj : j < 2 := hj
    rw [add_plain, cell_blk hb]
    match j, hj with
    | 0, _ => rfl
    | 1, _ => rfl
  | 1, _ =>
    refine ⟨_, rfl, trivial, fun j => (#[.string ⟨y.name.toArray⟩, .slice A2 n2 c2] : Array Value).getD j undef, fun j hj => ?_, rfl, A2, n2, c2, rfl, h2.any⟩
    have hj : j < 2 := hj
    rw [add_plain, cell_blk hb]
    match j, hj with
    | 0, _ => rfl
    | 1, _ => rfl
  | 2, _ =>
    refine ⟨_, rfl, trivial, fun j => (#[.string ⟨z.name.toArray⟩, .slice A3 n3 c3] : Array Value).getD j undef, fun j hj => ?_, rfl, A3, n3, c3, rfl, h3.any⟩
    have hj : j < 2 := hj
    rw [add_plain, cell_blk hb]
    match j, hj with
    | 0, _ => rfl
    | 1, _ => rfl
theorem ord_rng (x y : Atm) : ordS x y = -1 ∨ ordS x y = 0 ∨ ordS x y = 1 := by rw [ordS_key]; exact ordT.rng _ _

set_option maxRecDepth 100000 in
set_option maxHeartbeats 8000000 in
theorem rulesOrder_walk (w : World) (V1 : Value) (x : Atm) (v1 : VAtm w (fun _ => True) V1 x) (o1 : OkT x) (V2 : Value) (y : Atm) (v2 : VAtm w (fun _ => True) V2 y) (o2 : OkT y) (V3 : Value) (z : Atm) (v3 : VAtm w (fun _ => True) V3 z) (o3 : OkT z) (hL : LD w) :
    Calls Tryz.prog 11 #[V1, V2, V3] w fun e w' => e = .returned (.bool true) ∧ Below w.heap.size w w' := by
  obtain ⟨A1, n1, c1, rfl, h1⟩ := v1
  obtain ⟨A2, n2, c2, rfl, h2⟩ := v2
  obtain ⟨A3, n3, c3, rfl, h3⟩ := v3
  have HL := Lib.hid (fun (w' : World) (hb : Below w.heap.size w w') => hL.below hb)
  have H1 := Lib.hid (fun (w' : World) (hb : Below w.heap.size w w') => h1.below hb)
  have H2 := Lib.hid (fun (w' : World) (hb : Below w.heap.size w w') => h2.below hb)
  have H3 := Lib.hid (fun (w' : World) (hb : Below w.heap.size w w') => h3.below hb)
  have HO := Lib.hid (And.intro o1 (And.intro o2 o3))
  clear hL h1 h2 h3 o1 o2 o3
  go_enter Tryz.func11, Tryz.ntmps11
  go_wp2_with fail
  have hB0 : (((w.alloc (.cells #[.string ⟨x.name.toArray⟩, .slice A1 n1 c1] 45)).alloc (.cells #[.string ⟨y.name.toArray⟩, .slice A2 n2 c2] 45)).alloc (.cells #[.string ⟨z.name.toArray⟩, .slice A3 n3 c3] 45)).heap[w.heap.size + 0]? = some (.cells #[.string ⟨x.name.toArray⟩, .slice A1 n1 c1] 45 (0, 0)) := blkOld (blkOld (blkAt w _ rfl) _) _
  have hB1 : (((w.alloc (.cells #[.string ⟨x.name.toArray⟩, .slice A1 n1 c1] 45)).alloc (.cells #[.string ⟨y.name.toArray⟩, .slice A2 n2 c2] 45)).alloc (.cells #[.string ⟨z.name.toArray⟩, .slice A3 n3 c3] 45)).heap[w.heap.size + 1]? = some (.cells #[.string ⟨y.name.toArray⟩, .slice A2 n2 c2] 45 (0, 0)) := blkOld (blkAt2 (by simp) rfl) _
  have hB2 : (((w.alloc (.cells #[.string ⟨x.name.toArray⟩, .slice A1 n1 c1] 45)).alloc (.cells #[.string ⟨y.name.toArray⟩, .slice A2 n2 c2] 45)).alloc (.cells #[.string ⟨z.name.toArray⟩, .slice A3 n3 c3] 45)).heap[w.heap.size + 2]? = some (.cells #[.string ⟨z.name.toArray⟩, .slice A3 n3 c3] 45 (0, 0)) := blkAt2 (by simp) rfl
  have hbl : Below w.heap.size w (((w.alloc (.cells #[.string ⟨x.name.toArray⟩, .slice A1 n1 c1] 45)).alloc (.cells #[.string ⟨y.name.toArray⟩, .slice A2 n2 c2] 45)).alloc (.cells #[.string ⟨z.name.toArray⟩, .slice A3 n3 c3] 45)) := (boxed.alloc (by simp) _).alloc (by simp; omega) _
  simp only [Nat.add_zero] at hB0
  generalize ((w.alloc (.cells #[.string ⟨x.name.toArray⟩, .slice A1 n1 c1] 45)).alloc (.cells #[.string ⟨y.name.toArray⟩, .slice A2 n2 c2] 45)).alloc (.cells #[.string ⟨z.name.toArray⟩, .slice A3 n3 c3] 45) = W at *
  have HBL := Lib.hid hbl
  have HX := Lib.hid (fun (X : World) (hx : Below W.heap.size W X) => And.intro ((cell_blk (keptBlk hx hB0) 0).trans rfl) (And.intro ((cell_blk (keptBlk hx hB0) 1).trans rfl) (And.intro ((cell_blk (keptBlk hx hB1) 0).trans rfl) (And.intro ((cell_blk (keptBlk hx hB1) 1).trans rfl) (And.intro ((cell_blk (keptBlk hx hB2) 0).trans rfl) ((cell_blk (keptBlk hx hB2) 1).trans rfl))))))
  have HT := Lib.hid (fun (X : World) (hx : Below W.heap.size W X) => HBL.out.trans (hx.mono HBL.out.size))
  clear hB0 hB1 hB2 hbl
  refine (awake_any _ (HL.out _ HBL.out)).mono ?_
  rintro e w1 ⟨rfl, hS⟩
  obtain ⟨q0, q1, q2, q3, q4, q5⟩ := HX.out w1 hS
  have HS := Lib.hid hS; clear hS
  go_wp2_with fail
  have s1 : Sl (w1.alloc (.cells #[.string ⟨x.name.toArray⟩, .slice A1 n1 c1, .string ⟨y.name.toArray⟩, .slice A2 n2 c2, .string ⟨z.name.toArray⟩, .slice A3 n3 c3] 45)) (fun _ => True) (some ⟨w1.heap.size, 0, none⟩) 3 3 [x, y, z] :=
    slAtm3 (blkAt w1 _ rfl) ((H1.out _ (HT.out _ HS.out)).alloc _) ((H2.out _ (HT.out _ HS.out)).alloc _) ((H3.out _ (HT.out _ HS.out)).alloc _)
  refine (fewAtoms_any _ _ _ [x, y, z] 3 _ _ s1 (fun a ha => by
    simp only [List.mem_cons, List.mem_nil_iff, or_false] at ha
    rcases ha with rfl | rfl | rfl
    · exact HO.out.1
    · exact HO.out.2.1
    · exact HO.out.2.2)).mono ?_
  rintro e w2 ⟨rfl, rfl⟩
  have hS : Below W.heap.size W (w1.alloc (.cells #[.string ⟨x.name.toArray⟩, .slice A1 n1 c1, .string ⟨y.name.toArray⟩, .slice A2 n2 c2, .string ⟨z.name.toArray⟩, .slice A3 n3 c3] 45)) := HS.out.alloc HS.out.size _
  clear s1 q0 q1 q2 q3 q4 q5 HS
  generalize w1.alloc (.cells #[.string ⟨x.name.toArray⟩, .slice A1 n1 c1, .string ⟨y.name.toArray⟩, .slice A2 n2 c2, .string ⟨z.name.toArray⟩, .slice A3 n3 c3] 45) = w2 at *

  cases hf : fewAs [x, y, z] 3
  · clear hf
    go_wp2_with fail
    refine (awake_any _ (HL.out _ (HT.out _ hS))).mono ?_
    rintro e w9 ⟨rfl, b9⟩
    go_wp2_with fail
    exact bodyPost_ret (v := .bool true) (by simp [results, Tryz.results11, go_sem]) rfl ⟨rfl, HT.out _ (hS.trans (b9.mono hS.size))⟩
  clear hf
  obtain ⟨q0, q1, q2, q3, q4, q5⟩ := HX.out _ hS
  go_wp2_with fail
  refine (ratomF_any x A1 n1 c1 _ _ (H1.out _ (HT.out _ hS)) HO.out.1).mono ?_
  rintro e u0 ⟨rfl, b0⟩
  replace hS := hS.trans (b0.mono hS.size)
  clear b0 q0 q1 q2 q3 q4 q5
  cases f0 : atomS x
  · clear f0
    go_wp2_with fail
    refine (awake_any _ (HL.out _ (HT.out _ hS))).mono ?_
    rintro e w9 ⟨rfl, b9⟩
    go_wp2_with fail
    exact bodyPost_ret (v := .bool true) (by simp [results, Tryz.results11, go_sem]) rfl ⟨rfl, HT.out _ (hS.trans (b9.mono hS.size))⟩
  obtain ⟨q0, q1, q2, q3, q4, q5⟩ := HX.out _ hS
  go_wp2_with fail
  refine (ratomF_any y A2 n2 c2 _ _ (H2.out _ (HT.out _ hS)) HO.out.2.1).mono ?_
  rintro e u1 ⟨rfl, b1⟩
  replace hS := hS.trans (b1.mono hS.size)
  clear b1 q0 q1 q2 q3 q4 q5
  cases f1 : atomS y
  · clear f1
    go_wp2_with fail
    refine (awake_any _ (HL.out _ (HT.out _ hS))).mono ?_
    rintro e w9 ⟨rfl, b9⟩
    go_wp2_with fail
    exact bodyPost_ret (v := .bool true) (by simp [results, Tryz.results11, go_sem]) rfl ⟨rfl, HT.out _ (hS.trans (b9.mono hS.size))⟩
  obtain ⟨q0, q1, q2, q3, q4, q5⟩ := HX.out _ hS
  go_wp2_with fail
  refine (ratomF_any z A3 n3 c3 _ _ (H3.out _ (HT.out _ hS)) HO.out.2.2).mono ?_
  rintro e u2 ⟨rfl, b2⟩
  replace hS := hS.trans (b2.mono hS.size)
  clear b2 q0 q1 q2 q3 q4 q5
  cases f2 : atomS z
  · clear f2
    go_wp2_with fail
    refine (awake_any _ (HL.out _ (HT.out _ hS))).mono ?_
    rintro e w9 ⟨rfl, b9⟩
    go_wp2_with fail
    exact bodyPost_ret (v := .bool true) (by simp [results, Tryz.results11, go_sem]) rfl ⟨rfl, HT.out _ (hS.trans (b9.mono hS.size))⟩
  have HF := Lib.hid (And.intro f0 (And.intro f1 f2)); clear f0 f1 f2
  have hS0 := hS
  go_wp2_with fail
  refine wpH_region (fun X => Below W.heap.size W X) (by kernel_rfl) ?_
  replace hS : Below W.heap.size W u2.drew := hS.drew
  clear hS0
  (refine wpAnyH_takeW 0 rfl rfl (by kernel_rfl) (by kernel_rfl) (by kernel_rfl) (fun _ _ _ h => h) (v := ?_) (by kernel_rfl) hS ?_ ?_; rotate_left; (focus (intro x hx; have fx := HX.out x hx; go_simp; (try with_reducible rfl); done)); (try simp only [Act.put, List.setIfInBounds_toArray, List.set_cons_zero, List.set_cons_succ]))
  (refine wpAnyH_takeW 1 rfl rfl (by kernel_rfl) (by kernel_rfl) (by kernel_rfl) (fun _ _ _ h => h) (v := ?_) (by kernel_rfl) hS ?_ ?_; rotate_left; (focus (intro x hx; have fx := HX.out x hx; go_simp; (try with_reducible rfl); done)); (try simp only [Act.put, List.setIfInBounds_toArray, List.set_cons_zero, List.set_cons_succ]))
  (refine wpAnyH_takeW 3 rfl rfl (by kernel_rfl) (by kernel_rfl) (by kernel_rfl) (fun _ _ _ h => h) (v := ?_) (by kernel_rfl) hS ?_ ?_; rotate_left; (focus (intro x hx; have fx := HX.out x hx; go_simp; (try with_reducible rfl); done)); (try simp only [Act.put, List.setIfInBounds_toArray, List.set_cons_zero, List.set_cons_succ]))
  (refine wpAnyH_takeW 4 rfl rfl (by kernel_rfl) (by kernel_rfl) (by kernel_rfl) (fun _ _ _ h => h) (v := ?_) (by kernel_rfl) hS ?_ ?_; rotate_left; (focus (intro x hx; have fx := HX.out x hx; go_simp; (try with_reducible rfl); done)); (try simp only [Act.put, List.setIfInBounds_toArray, List.set_cons_zero, List.set_cons_succ]))
  (refine wpAnyH_takeW 6 rfl rfl (by kernel_rfl) (by kernel_rfl) (by kernel_rfl) (fun _ _ _ h => h) (v := ?_) (by kernel_rfl) hS ?_ ?_; rotate_left; (focus (intro x hx; have fx := HX.out x hx; go_simp; (try with_reducible rfl); done)); (try simp only [Act.put, List.setIfInBounds_toArray, List.set_cons_zero, List.set_cons_succ]))
  (refine wpAnyH_takeW 7 rfl rfl (by kernel_rfl) (by kernel_rfl) (by kernel_rfl) (fun _ _ _ h => h) (v := ?_) (by kernel_rfl) hS ?_ ?_; rotate_left; (focus (intro x hx; have fx := HX.out x hx; go_simp; (try with_reducible rfl); done)); (try simp only [Act.put, List.setIfInBounds_toArray, List.set_cons_zero, List.set_cons_succ]))
  (refine wpAnyH_one 2 (by kernel_rfl) rfl ?_; intro K' hK'; go_simp; refine (Order_any x y A1 n1 c1 A2 n2 c2 _ _ _ (H1.out _ (HT.out _ hS)) (H2.out _ (HT.out _ hS))).mono ?_; rintro e r2 ⟨rfl, hb2⟩; have hS := hS.trans (hb2.mono hS.size); refine hK'.out _ _ hS ?_; clear hK' K')
  (refine wpAnyH_one 5 (by kernel_rfl) rfl ?_; intro K' hK'; go_simp; refine (Order_any y z A2 n2 c2 A3 n3 c3 _ _ _ (H2.out _ (HT.out _ hS)) (H3.out _ (HT.out _ hS))).mono ?_; rintro e r5 ⟨rfl, hb5⟩; have hS := hS.trans (hb5.mono hS.size); refine hK'.out _ _ hS ?_; clear hK' K')
  (refine wpAnyH_one 8 (by kernel_rfl) rfl ?_; intro K' hK'; go_simp; refine (Order_any x z A1 n1 c1 A3 n3 c3 _ _ _ (H1.out _ (HT.out _ hS)) (H3.out _ (HT.out _ hS))).mono ?_; rintro e r8 ⟨rfl, hb8⟩; have hS := hS.trans (hb8.mono hS.size); refine hK'.out _ _ hS ?_; clear hK' K')
  (refine wpAnyH_takeW 9 rfl rfl (by kernel_rfl) (by kernel_rfl) (by kernel_rfl) (fun _ _ _ h => h) (v := ?_) (by kernel_rfl) hS ?_ ?_; rotate_left; (focus (intro x hx; have fx := HX.out x hx; go_simp; (try with_reducible rfl); done)); (try simp only [Act.put, List.setIfInBounds_toArray, List.set_cons_zero, List.set_cons_succ]))
  (refine wpAnyH_takeW 10 rfl rfl (by kernel_rfl) (by kernel_rfl) (by kernel_rfl) (fun _ _ _ h => h) (v := ?_) (by kernel_rfl) hS ?_ ?_; rotate_left; (focus (intro x hx; have fx := HX.out x hx; go_simp; (try with_reducible rfl); done)); (try simp only [Act.put, List.setIfInBounds_toArray, List.set_cons_zero, List.set_cons_succ]))
  (refine wpAnyH_takeW 11 rfl rfl (by kernel_rfl) (by kernel_rfl) (by kernel_rfl) (fun _ _ _ h => h) (v := ?_) (by kernel_rfl) hS ?_ ?_; rotate_left; (focus (intro x hx; have fx := HX.out x hx; go_simp; (try with_reducible rfl); done)); (try simp only [Act.put, List.setIfInBounds_toArray, List.set_cons_zero, List.set_cons_succ]))
  refine wpAnyH_done (by kernel_rfl) ?_ _
  obtain ⟨q0, q1, q2, q3, q4, q5⟩ := HX.out _ hS
  go_wp2_with fail
  have L := order_law HF.out.1 HF.out.2.1 HF.out.2.2
  have C1 := rorder_any x y A1 n1 c1 A2 n2 c2 r8 _ _ (H1.out _ (HT.out _ hS)) (H2.out _ (HT.out _ hS))
  rw [← L.1] at C1
  have hL2 : ordS y x = - ordS x y := L.2.1
  have hsm : decide (x = y) = decide (ordS x y = 0) := by rw [decide_eq_decide]; exact L.2.2.1.symm
  have ha := ord_rng x y
  have hb := ord_rng y z
  have hc := ord_rng x z
  have hxx := L.2.2.2.1
  have L5 := L.2.2.2.2
  clear L
  refine C1.mono ?_
  rintro e r9 ⟨rfl, b9⟩
  replace hS := hS.trans (b9.mono hS.size)
  clear C1 b9 q0 q1 q2 q3 q4 q5
  obtain ⟨q0, q1, q2, q3, q4, q5⟩ := HX.out _ hS
  have HSM := Lib.hid hsm; have HL2 := Lib.hid hL2; have HXX := Lib.hid hxx; have HB := Lib.hid hb; have HC := Lib.hid hc; have HL5 := Lib.hid L5
  clear hsm hL2 hxx hb hc L5
  generalize ordS x y = a at *
  generalize ordS y z = b at *
  generalize ordS x z = c at *
  rcases ha with rfl | rfl | rfl
  all_goals go_wp2_with fail
  all_goals refine (Order_any y x A2 n2 c2 A1 n1 c1 _ _ _ (H2.out _ (HT.out _ hS)) (H1.out _ (HT.out _ hS))).mono ?_
  all_goals rintro e r10 ⟨rfl, b10⟩
  all_goals rw [HL2.out]
  all_goals replace hS := hS.trans (b10.mono hS.size)
  all_goals clear b10 q0 q1 q2 q3 q4 q5
  all_goals obtain ⟨q0, q1, q2, q3, q4, q5⟩ := HX.out _ hS
  all_goals go_wp2_with fail
  all_goals refine (sameAtom_any x y A1 n1 c1 A2 n2 c2 _ _ _ (H1.out _ (HT.out _ hS)) (H2.out _ (HT.out _ hS))).mono ?_
  all_goals rintro e r11 ⟨rfl, b11⟩
  all_goals rw [HSM.out]
  all_goals replace hS := hS.trans (b11.mono hS.size)
  all_goals clear b11 q0 q1 q2 q3 q4 q5
  all_goals obtain ⟨q0, q1, q2, q3, q4, q5⟩ := HX.out _ hS
  all_goals go_wp2_with fail
  all_goals refine (Order_any x x A1 n1 c1 A1 n1 c1 _ _ _ (H1.out _ (HT.out _ hS)) (H1.out _ (HT.out _ hS))).mono ?_
  all_goals rintro e r12 ⟨rfl, b12⟩
  all_goals rw [HXX.out]
  all_goals replace hS := hS.trans (b12.mono hS.size)
  all_goals clear b12 q0 q1 q2 q3 q4 q5
  all_goals have hb := HB.out
  all_goals have hc := HC.out
  all_goals have L5 := HL5.out
  all_goals clear HB HC HL5
  all_goals (rcases hb with rfl | rfl | rfl <;> rcases hc with rfl | rfl | rfl)
  all_goals first | exact absurd L5 (by decide) | clear L5
  all_goals go_wp2_with fail
  all_goals exact bodyPost_ret (v := .bool true) (by simp [results, Tryz.results11, go_sem]) rfl ⟨rfl, HT.out _ hS⟩
end Go.Proofs.YtjopmgoacncmgaaGreatDoor
namespace Go.Proofs.YtjopmgoacncmgaaGreatDoor.rulesOrder
open Go.ChangeShapes Go.WideShapes Go.ChangeAt Go.RowKit
open Go.ChangeMaps (open_string shut_string)

theorem own : ownKnob Tryz.prog.godebug = none := by kernel_rfl
theorem laidOut : laidOutB Tryz.prog = true := by kernel_rfl

set_option maxRecDepth 100000 in
theorem lifted (os : Os) (started : os.Started) (H : Type) (enc : TypeId × Value → H) :
    ReturnsInHanded {} Tryz.checked os 11 .any (fun w args => (Rows.rulesOrderSpec.pre enc Tryz.prog Tryz.f11 [] false w args ∧ laidMetH Tryz.prog laidL w) ∧ sizedMet enc Tryz.prog Tryz.f11 (OpenSpec.ofChange Rows.rulesOrderSpec) false w args)
      (Rows.rulesOrderSpec.post enc Tryz.prog Tryz.f11 false true false false) := by
  refine handed (C := Tryz.checked) (X := fun w _ => laidMetH Tryz.prog laidL w) (fun _ _ _ hh h => h.of_heap hh) own started (by kernel_rfl) Tryz.func11
    (ChangeSpec.witness_shaped (enc := enc) (C := Tryz.checked) (os := os) (X := fun w _ => laidMetH Tryz.prog laidL w) false (World.laidAll Tryz.prog os laidL) #[.agg #[.string ByteArray.empty, .slice none 0 0], .agg #[.string ByteArray.empty, .slice none 0 0], .agg #[.string ByteArray.empty, .slice none 0 0]] 8 (World.laidAll_os _ _ _)
      (World.shaped_of_ZipB (by kernel_rfl) (by kernel_rfl)) (by kernel_rfl) (by kernel_rfl) (by kernel_rfl)
      (by rw [MakeChecks.laidMetH_plain _ _ _ (by kernel_rfl)]; exact laidMet_laidAll _ (by kernel_rfl) (by kernel_rfl))) ?_
  intro W base args ds gs before hval0 hW hlaid hshape
  have hLD := ld_of hlaid hshape
  have hval : ∀ (j : Nat) t v, Tryz.f11.params[j]? = some t → args[j]? = some v → Value.okWide Tryz.prog W .any base t v := hval0
  have hW' := hW
  obtain ⟨p, q, hA0, hV, rfl, hfz, hnd⟩ := hW
  have hA : DataW.TrodAll enc Tryz.prog W 0 (fun _ => true) true Tryz.f11.params.toList args.toList ds p := hA0
  rw [Tryz.params11] at hA hval
  obtain ⟨v0, vs0, d0, ds0, p0, q0, hargs, rfl, rfl, h0, r0⟩ := trodAll_cons hA
  obtain ⟨v1, vs1, d1, ds1, p1, q1, rfl, rfl, rfl, h1, r1⟩ := trodAll_cons r0
  obtain ⟨v2, vs2, d2, ds2, p2, q2, rfl, rfl, rfl, h2, r2⟩ := trodAll_cons r1
  obtain ⟨rfl, rfl, rfl⟩ := trodAll_nil r2
  obtain rfl : args = #[v0, v1, v2] := by cases args; simp_all
  obtain ⟨rfl, rfl⟩ := trodVars_none hV
  obtain ⟨cs0, rfl, hsz0⟩ := okWide_struct Tryz.underlying45 (hval 0 45 v0 rfl rfl)
  have k0 := h0
  have lt0 : ∀ x ∈ p0, x.block < W.heap.size := by obtain ⟨m, hm⟩ := k0; exact DataW.trod_lt m _ _ _ hm
  obtain ⟨l0, s0, f0⟩ := openAtom h0
  obtain ⟨cs1, rfl, hsz1⟩ := okWide_struct Tryz.underlying45 (hval 1 45 v1 rfl rfl)
  have k1 := h1
  have lt1 : ∀ x ∈ p1, x.block < W.heap.size := by obtain ⟨m, hm⟩ := k1; exact DataW.trod_lt m _ _ _ hm
  obtain ⟨l1, s1, f1⟩ := openAtom h1
  obtain ⟨cs2, rfl, hsz2⟩ := okWide_struct Tryz.underlying45 (hval 2 45 v2 rfl rfl)
  have k2 := h2
  have lt2 : ∀ x ∈ p2, x.block < W.heap.size := by obtain ⟨m, hm⟩ := k2; exact DataW.trod_lt m _ _ _ hm
  obtain ⟨l2, s2, f2⟩ := openAtom h2
  clear hA0 hval0
  have hw := rulesOrder_walk W _ l0 s0 f0 _ l1 s1 f1 _ l2 s2 f2 hLD
  refine hw.mono fun e W' ⟨he, bel⟩ => ?_
  subst he
  exact ⟨_, rfl, _, _, _, [], _, [], hW', trodAll_mk1 (shut_bool Tryz.underlying4 _), (trodAll_cons_mk (Below.trod laidOut (by kernel_rfl) (of_decide_eq_true (by kernel_rfl)) k0 bel lt0) (trodAll_cons_mk (Below.trod laidOut (by kernel_rfl) (of_decide_eq_true (by kernel_rfl)) k1 bel lt1) (trodAll_cons_mk (Below.trod laidOut (by kernel_rfl) (of_decide_eq_true (by kernel_rfl)) k2 bel lt2) trodAll_mk0))), rfl, bel.frame _, fun h => by cases h⟩

theorem over : Rows.rulesOrderRow.holds Tryz.pinned (OpenSpec.ofChange Rows.rulesOrderSpec) :=
  OpenClaim.holds_of_wide 11 Tryz.f11 rfl rfl rfl rfl rfl rfl rfl ⟨rfl, rfl, rfl, rfl, rfl⟩ rfl rfl rfl rfl rfl (by kernel_rfl) Tryz.func11 (by kernel_rfl)
    (of_decide_eq_true (by kernel_rfl)) (by unfold Func.isWrapper; first | (rw [if_pos (by decide +kernel)]; kernel_rfl) | (rw [if_neg (by decide +kernel)]; exact ⟨rfl, rfl⟩))
    (fun os started H enc _ => lifted os started H enc)

theorem proved : Rows.RulesOrderCardSaid :=
  Claim7.holds_tied_plain_at .later [] [.data, .data, .data, .data, .sentinel, .sentinel, .listed, .data, .pinned] true _ _ over (fun _ h => by cases h) (by kernel_rfl) (fun _ h => by cases h) rulesOrder_row_tie rfl ⟨rfl, rfl⟩ (by kernel_rfl) rfl
    (fun f fn hf hfn => by
      obtain rfl : f = 11 := Option.some.inj ((show Tryz.prog.funcNamed "licit/licitlaw53.RulesOrder" = some 11 by kernel_rfl).symm.trans hf) |>.symm
      obtain rfl : fn = Tryz.f11 := (Option.some.inj (Tryz.func11.symm.trans hfn)).symm
      exact ⟨by kernel_rfl, fun j t ht => by
        rw [Tryz.params11] at ht
        have hm : t ∈ [45, 45, 45] := by simpa using Array.mem_of_getElem? ht
        have hall : ([45, 45, 45].all fun u => !Tryz.prog.wantsStandIn u) = true := by kernel_rfl
        exact (show Tryz.prog.wantsStandIn t = false by simpa using List.all_eq_true.1 hall t hm)⟩)
    (by kernel_rfl)
#print axioms proved
end Go.Proofs.YtjopmgoacncmgaaGreatDoor.rulesOrder
