/- RulesAtoms: the law answers true, whatever the input, and writes nothing that was there. Conditions: none beyond the given statement's (the listed package-level variables start as the program's text lays them; the card ties them, over a pruned copy of the project). -/
import Derived.Test.YtjopmgoacncmgaaGreatDoorKL4
import Derived.Test.YtjopmgoacncmgaaGreatDoorKV2
import Derived.Test.YtjopmgoacncmgaaGreatDoorKX13
import Derived.Test.YtjopmgoacncmgaaGreatDoorKQ2
import Derived.Test.YtjopmgoacncmgaaGreatDoorKR1
import Derived.Test.YtjopmgoacncmgaaGreatDoorKO
import Derived.Test.YtjopmgoacncmgaaGreatDoorKFr
import Derived.Test.YtjopmgoacncmgaaGreatDoorTie
import Derived.Test.YtjopmgoacncmgaaGreatDoorCards
import Derived.ProofKit
import Derived.OpenShut
import Derived.ShutString
import Derived.ChangeOld
import Derived.Below
import Derived.Lay
import Derived.Handy
import Derived.SevenTiedAt
set_option linter.unusedVariables false
set_option linter.unusedSimpArgs false
namespace Go.Proofs.YtjopmgoacncmgaaGreatDoor
open Go.RowKit

set_option maxRecDepth 100000 in
set_option maxHeartbeats 8000000 in
theorem rulesAtoms_walk (w : World) (s : Bs) (hs : s.length ≤ 9223372036854775807) (V : Value) (x : Atm) (v1 : VAtm w (fun _ => True) V x) (o1 : OkT x) (hL : LD w) :
    Calls Tryz.prog 10 #[.string ⟨s.toArray⟩, V] w fun e w' => e = .returned (.bool true) ∧ Below w.heap.size w w' := by
  obtain ⟨A, n, c, rfl, h1⟩ := v1
  have HL := Lib.hid (fun (w' : World) (hb : Below w.heap.size w w') => hL.below hb)
  have H1 := Lib.hid (fun (w' : World) (hb : Below w.heap.size w w') => h1.below hb)
  have HO := Lib.hid o1
  clear hL h1 o1
  have hB0 : (w.alloc (.cells #[.string ⟨x.name.toArray⟩, .slice A n c] 45)).heap[w.heap.size]? = some (.cells #[.string ⟨x.name.toArray⟩, .slice A n c] 45 (0, 0)) := blkAt w _ rfl
  have hbl : Below w.heap.size w (w.alloc (.cells #[.string ⟨x.name.toArray⟩, .slice A n c] 45)) := boxed
  by_cases h3 : 300 < s.length
  · have h3I : (300 : Int) < (s.length : Int) := by omega
    have HBL := Lib.hid hbl; clear hbl hB0
    go_enter Tryz.func10, Tryz.ntmps10
    go_wp2_with fail
    refine (awake_any _ (HL.out _ HBL.out)).mono ?_
    rintro e w1 ⟨rfl, b1⟩
    have hb1 := HBL.out.trans (b1.mono HBL.out.size)
    go_wp2_with fail
    refine (awake_any _ (HL.out _ hb1)).mono ?_
    rintro e w9 ⟨rfl, b9⟩
    go_wp2_with fail
    exact bodyPost_ret (v := .bool true) (by simp [results, Tryz.results10, go_sem]) rfl ⟨rfl, hb1.trans (b9.mono hb1.size)⟩
  have h3I : ¬ (300 : Int) < (s.length : Int) := by omega
  have HB0 := Lib.hid hB0; have HBL := Lib.hid hbl; clear hB0 hbl
  go_enter Tryz.func10, Tryz.ntmps10
  go_wp2_with fail
  have hB0 := HB0.out; have hbl := HBL.out; clear HB0 HBL
  generalize w.alloc (.cells #[.string ⟨x.name.toArray⟩, .slice A n c] 45) = W at *
  have HBL := Lib.hid hbl
  have HX := Lib.hid (fun (X : World) (hx : Below W.heap.size W X) => And.intro ((cell_blk (keptBlk hx hB0) 0).trans rfl) ((cell_blk (keptBlk hx hB0) 1).trans rfl))
  have HT := Lib.hid (fun (X : World) (hx : Below W.heap.size W X) => HBL.out.trans (hx.mono HBL.out.size))
  have HK := Lib.hid (fun (X : World) (hx : Below W.heap.size W X) => keptBlk hx hB0)
  have hlW : w.heap.size < W.heap.size := (Array.getElem?_eq_some_iff.1 hB0).1
  clear hB0 hbl
  refine (awake_any _ (HL.out _ HBL.out)).mono ?_
  rintro e w1 ⟨rfl, hS⟩
  obtain ⟨q0, q1⟩ := HX.out w1 hS
  have HS := Lib.hid hS; clear hS
  go_wp2_with fail
  refine (fewAtoms_any _ _ _ [x] 1 _ _ (slAtm1 (blkAt w1 _ rfl) ((H1.out _ (HT.out _ HS.out)).alloc _)) (fun a ha => by rw [List.mem_singleton.1 ha]; exact HO.out)).mono ?_
  rintro e w2 ⟨rfl, rfl⟩
  have hS : Below W.heap.size W (w1.alloc (.cells #[.string ⟨x.name.toArray⟩, .slice A n c] 45)) := HS.out.alloc HS.out.size _
  clear q0 q1 HS
  generalize w1.alloc (.cells #[.string ⟨x.name.toArray⟩, .slice A n c] 45) = w2 at *
  cases hf : fewAs [x] 1
  · clear hf
    go_wp2_with fail
    refine (awake_any _ (HL.out _ (HT.out _ hS))).mono ?_
    rintro e w9 ⟨rfl, b9⟩
    go_wp2_with fail
    exact bodyPost_ret (v := .bool true) (by simp [results, Tryz.results10, go_sem]) rfl ⟨rfl, HT.out _ (hS.trans (b9.mono hS.size))⟩
  clear hf
  have hp := fun w hL => ParseAtom_any s w hL (by omega)
  have hr := fun w => rParseAtom_any s w (by omega)
  rw [← parseAtom_eq] at hr
  generalize parseAtomS s = R at *
  obtain ⟨⟨bn, ba⟩, er⟩ := R
  have HP := Lib.hid hp; have HR := Lib.hid hr; clear hp hr
  have HS := Lib.hid hS; clear hS
  go_wp2_with fail
  refine (HP.out w2 (HL.out _ (HT.out _ HS.out))).mono ?_
  rintro e w3 ⟨⟨A3, n3, c3, rfl, s3⟩, b3, -⟩
  simp only at s3
  have hS := HS.out.trans (b3.mono HS.out.size)
  have hS3 := hS.size
  have HS := Lib.hid (hS.alloc hS.size (.cells #[.string ⟨bn.toArray⟩, .slice A3 n3 c3] 45))
  have HB5 := Lib.hid (blkAt w3 (.cells #[.string ⟨bn.toArray⟩, .slice A3 n3 c3] 45) rfl)
  have S5 := Lib.hid ((s3.any).alloc (.cells #[.string ⟨bn.toArray⟩, .slice A3 n3 c3] 45))
  clear b3 s3 hS
  go_wp2_with fail
  refine (HR.out (w3.alloc (.cells #[.string ⟨bn.toArray⟩, .slice A3 n3 c3] 45))).mono ?_
  rintro e w4 ⟨⟨A4, n4, c4, rfl, s4⟩, b4, -⟩
  simp only at s4
  have hS := HS.out.trans (b4.mono HS.out.size)
  have hS4 := b4.size
  have hS5 : (w3.alloc (.cells #[.string ⟨bn.toArray⟩, .slice A3 n3 c3] 45)).heap.size = w3.heap.size + 1 := by simp
  have HS := Lib.hid (hS.alloc hS.size (.cells #[.string ⟨bn.toArray⟩, .slice A4 n4 c4] 45))
  have hB5 := blkOld (keptBlk b4 HB5.out) (.cells #[.string ⟨bn.toArray⟩, .slice A4 n4 c4] 45)
  have hB7 := blkAt w4 (.cells #[.string ⟨bn.toArray⟩, .slice A4 n4 c4] 45) rfl
  have hBa := HK.out _ HS.out
  have S5' := Lib.hid (((S5.out.below b4).any).alloc (.cells #[.string ⟨bn.toArray⟩, .slice A4 n4 c4] 45))
  have S7 := Lib.hid ((s4.any).alloc (.cells #[.string ⟨bn.toArray⟩, .slice A4 n4 c4] 45))
  clear b4 s4 hS S5 HB5
  go_upto_region 5 with fail
  generalize hW7 : w4.alloc (.cells #[.string ⟨bn.toArray⟩, .slice A4 n4 c4] 45) = W7 at *
  generalize hk5 : w3.heap.size = k5 at *
  generalize hk7 : w4.heap.size = k7 at *
  have HX7 := Lib.hid (fun (X : World) (hx : Below W7.heap.size W7 X) => And.intro ((cell_blk (keptBlk hx hBa) 0).trans rfl) (And.intro ((cell_blk (keptBlk hx hBa) 1).trans rfl) (And.intro ((cell_blk (keptBlk hx hB5) 0).trans rfl) (And.intro ((cell_blk (keptBlk hx hB5) 1).trans rfl) (And.intro ((cell_blk (keptBlk hx hB7) 0).trans rfl) ((cell_blk (keptBlk hx hB7) 1).trans rfl))))))
  have HT7 := Lib.hid (fun (X : World) (hx : Below W7.heap.size W7 X) => HS.out.trans (hx.mono HS.out.size))
  clear hB5 hB7 hBa hW7 hk5 hk7 hS5
  have hpa := fun X hx hL => PrintAtom_any x A n c X _ (H1.out X hx) HO.out hL
  have hra := fun X hx => rPrintAtom_any x A n c X _ (H1.out X hx) HO.out
  have hpr : (printAtomS x).2 = 0 → (printAtomS x).1.length ≤ 4096 := by
    unfold printAtomS
    intro h
    cases ha : atomS x
    · rw [ha] at h; cases h
    · have := prAtom_len ha
      simp only [Bool.not_true, Bool.false_eq_true, if_false]
      omega
  have htr : (printAtomS x).2 = 0 → parseAtomS (printAtomS x).1 = (x, 0) := fun h => trip_atom x h (hpr h)
  have hpl : (printAtomS x).1.length ≤ 4096 := by
    by_cases h : (printAtomS x).2 = 0
    · exact hpr h
    · unfold printAtomS at h ⊢
      cases ha : atomS x
      · simp
      · rw [ha] at h; exact absurd rfl h
  clear hpr
  generalize printAtomS x = P at *
  obtain ⟨ps, pe⟩ := P
  simp only at hpa hra htr hpl
  have HPA := Lib.hid hpa; have HRA := Lib.hid hra; have HTR := Lib.hid htr
  clear hpa hra htr HP HR
  obtain ⟨q0, q1, -⟩ := HX7.out W7 (Below.refl _ _)
  go_wp2_with fail
  refine (HPA.out W7 (HT.out _ HS.out) (HL.out _ (HT.out _ HS.out))).mono ?_
  rintro e w5 ⟨rfl, b5⟩
  clear q0 q1
  obtain ⟨q0, q1, -⟩ := HX7.out w5 b5
  have HB5 := Lib.hid b5; clear b5
  go_wp2_with fail
  refine (HRA.out w5 (HT.out _ (HT7.out _ HB5.out))).mono ?_
  rintro e w6 ⟨rfl, b6⟩
  have hS := HB5.out.trans (b6.mono HB5.out.size)
  clear q0 q1 b6 HB5
  go_wp2_with fail
  have hS := hS.drew
  replace HX := HX7
  refine wpH_region (fun z => Below W7.heap.size W7 z) (by kernel_rfl) ?_
  (refine wpAnyH_takeW 0 rfl rfl (by kernel_rfl) (by kernel_rfl) (by kernel_rfl) (fun _ _ _ h => h) (v := ?_) (by kernel_rfl) hS ?_ ?_; rotate_left; (focus (intro x hx; have fx := HX.out x hx; go_simp; (try with_reducible rfl); done)); (try simp only [Act.put, List.setIfInBounds_toArray, List.set_cons_zero, List.set_cons_succ]))
  (refine wpAnyH_takeW 1 rfl rfl (by kernel_rfl) (by kernel_rfl) (by kernel_rfl) (fun _ _ _ h => h) (v := ?_) (by kernel_rfl) hS ?_ ?_; rotate_left; (focus (intro x hx; have fx := HX.out x hx; go_simp; (try with_reducible rfl); done)); (try simp only [Act.put, List.setIfInBounds_toArray, List.set_cons_zero, List.set_cons_succ]))
  (refine wpAnyH_takeW 2 rfl rfl (by kernel_rfl) (by kernel_rfl) (by kernel_rfl) (fun _ _ _ h => h) (v := ?_) (by kernel_rfl) hS ?_ ?_; rotate_left; (focus (intro x hx; have fx := HX.out x hx; go_simp; (try with_reducible rfl); done)); (try simp only [Act.put, List.setIfInBounds_toArray, List.set_cons_zero, List.set_cons_succ]))
  (refine wpAnyH_takeW 3 rfl rfl (by kernel_rfl) (by kernel_rfl) (by kernel_rfl) (fun _ _ _ h => h) (v := ?_) (by kernel_rfl) hS ?_ ?_; rotate_left; (focus (intro x hx; have fx := HX.out x hx; go_simp; (try with_reducible rfl); done)); (try simp only [Act.put, List.setIfInBounds_toArray, List.set_cons_zero, List.set_cons_succ]))
  (refine wpAnyH_takeW 4 rfl rfl (by kernel_rfl) (by kernel_rfl) (by kernel_rfl) (fun _ _ _ h => h) (v := ?_) (by kernel_rfl) hS ?_ ?_; rotate_left; (focus (intro x hx; have fx := HX.out x hx; go_simp; (try with_reducible rfl); done)); (try simp only [Act.put, List.setIfInBounds_toArray, List.set_cons_zero, List.set_cons_succ]))
  (refine wpAnyH_takeW 5 rfl rfl (by kernel_rfl) (by kernel_rfl) (by kernel_rfl) (fun _ _ _ h => h) (v := ?_) (by kernel_rfl) hS ?_ ?_; rotate_left; (focus (intro x hx; have fx := HX.out x hx; go_simp; (try with_reducible rfl); done)); (try simp only [Act.put, List.setIfInBounds_toArray, List.set_cons_zero, List.set_cons_succ]))
  (refine wpAnyH_one 6 (by kernel_rfl) rfl ?_; intro K' hK'; go_simp; refine (sameAtom_any ⟨bn, ba⟩ ⟨bn, ba⟩ A3 n3 c3 A4 n4 c4 _ _ _ (S5'.out.below hS) (S7.out.below hS)).mono ?_; rintro e u1 ⟨rfl, r1⟩; have hS := hS.trans (r1.mono hS.size); rw [decide_eq_true rfl]; refine hK'.out _ _ hS ?_; clear hK' K')
  (refine wpAnyH_takeW 7 rfl rfl (by kernel_rfl) (by kernel_rfl) (by kernel_rfl) (fun _ _ _ h => h) (v := ?_) (by kernel_rfl) hS ?_ ?_; rotate_left; (focus (intro x hx; have fx := HX.out x hx; go_simp; (try with_reducible rfl); done)); (try simp only [Act.put, List.setIfInBounds_toArray, List.set_cons_zero, List.set_cons_succ]))
  (refine wpAnyH_takeW 8 rfl rfl (by kernel_rfl) (by kernel_rfl) (by kernel_rfl) (fun _ _ _ h => h) (v := ?_) (by kernel_rfl) hS ?_ ?_; rotate_left; (focus (intro x hx; have fx := HX.out x hx; go_simp; (try with_reducible rfl); done)); (try simp only [Act.put, List.setIfInBounds_toArray, List.set_cons_zero, List.set_cons_succ]))
  (refine wpAnyH_takeW 9 rfl rfl (by kernel_rfl) (by kernel_rfl) (by kernel_rfl) (fun _ _ _ h => h) (v := ?_) (by kernel_rfl) hS ?_ ?_; rotate_left; (focus (intro x hx; have fx := HX.out x hx; go_simp; (try with_reducible rfl); done)); (try simp only [Act.put, List.setIfInBounds_toArray, List.set_cons_zero, List.set_cons_succ]))
  (refine wpAnyH_takeW 10 rfl rfl (by kernel_rfl) (by kernel_rfl) (by kernel_rfl) (fun _ _ _ h => h) (v := ?_) (by kernel_rfl) hS ?_ ?_; rotate_left; (focus (intro x hx; have fx := HX.out x hx; go_simp; (try with_reducible rfl); done)); (try simp only [Act.put, List.setIfInBounds_toArray, List.set_cons_zero, List.set_cons_succ]))
  (refine wpAnyH_takeW 11 rfl rfl (by kernel_rfl) (by kernel_rfl) (by kernel_rfl) (fun _ _ _ h => h) (v := ?_) (by kernel_rfl) hS ?_ ?_; rotate_left; (focus (intro x hx; have fx := HX.out x hx; go_simp; (try with_reducible rfl); done)); (try simp only [Act.put, List.setIfInBounds_toArray, List.set_cons_zero, List.set_cons_succ]))
  (refine wpAnyH_takeW 12 rfl rfl (by kernel_rfl) (by kernel_rfl) (by kernel_rfl) (fun _ _ _ h => h) (v := ?_) (by kernel_rfl) hS ?_ ?_; rotate_left; (focus (intro x hx; have fx := HX.out x hx; go_simp; (try with_reducible rfl); done)); (try simp only [Act.put, List.setIfInBounds_toArray, List.set_cons_zero, List.set_cons_succ]))
  (refine wpAnyH_takeW 13 rfl rfl (by kernel_rfl) (by kernel_rfl) (by kernel_rfl) (fun _ _ _ h => h) (v := ?_) (by kernel_rfl) hS ?_ ?_; rotate_left; (focus (intro x hx; have fx := HX.out x hx; go_simp; (try with_reducible rfl); done)); (try simp only [Act.put, List.setIfInBounds_toArray, List.set_cons_zero, List.set_cons_succ]))
  (refine wpAnyH_takeW 14 rfl rfl (by kernel_rfl) (by kernel_rfl) (by kernel_rfl) (fun _ _ _ h => h) (v := ?_) (by kernel_rfl) hS ?_ ?_; rotate_left; (focus (intro x hx; have fx := HX.out x hx; go_simp; (try with_reducible rfl); done)); (try simp only [Act.put, List.setIfInBounds_toArray, List.set_cons_zero, List.set_cons_succ]))
  (refine wpAnyH_takeW 15 rfl rfl (by kernel_rfl) (by kernel_rfl) (by kernel_rfl) (fun _ _ _ h => h) (v := ?_) (by kernel_rfl) hS ?_ ?_; rotate_left; (focus (intro x hx; have fx := HX.out x hx; go_simp; (try with_reducible rfl); done)); (try simp only [Act.put, List.setIfInBounds_toArray, List.set_cons_zero, List.set_cons_succ]))
  (refine wpAnyH_takeW 16 rfl rfl (by kernel_rfl) (by kernel_rfl) (by kernel_rfl) (fun _ _ _ h => h) (v := ?_) (by kernel_rfl) hS ?_ ?_; rotate_left; (focus (intro x hx; have fx := HX.out x hx; go_simp; (try with_reducible rfl); done)); (try simp only [Act.put, List.setIfInBounds_toArray, List.set_cons_zero, List.set_cons_succ]))
  (refine wpAnyH_takeW 17 rfl rfl (by kernel_rfl) (by kernel_rfl) (by kernel_rfl) (fun _ _ _ h => h) (v := ?_) (by kernel_rfl) hS ?_ ?_; rotate_left; (focus (intro x hx; have fx := HX.out x hx; go_simp; (try with_reducible rfl); done)); (try simp only [Act.put, List.setIfInBounds_toArray, List.set_cons_zero, List.set_cons_succ]))
  (refine wpAnyH_takeW 18 rfl rfl (by kernel_rfl) (by kernel_rfl) (by kernel_rfl) (fun _ _ _ h => h) (v := ?_) (by kernel_rfl) hS ?_ ?_; rotate_left; (focus (intro x hx; have fx := HX.out x hx; go_simp; (try with_reducible rfl); done)); (try simp only [Act.put, List.setIfInBounds_toArray, List.set_cons_zero, List.set_cons_succ]))
  (refine wpAnyH_takeW 19 rfl rfl (by kernel_rfl) (by kernel_rfl) (by kernel_rfl) (fun _ _ _ h => h) (v := ?_) (by kernel_rfl) hS ?_ ?_; rotate_left; (focus (intro x hx; have fx := HX.out x hx; go_simp; (try with_reducible rfl); done)); (try simp only [Act.put, List.setIfInBounds_toArray, List.set_cons_zero, List.set_cons_succ]))
  (refine wpAnyH_takeW 20 rfl rfl (by kernel_rfl) (by kernel_rfl) (by kernel_rfl) (fun _ _ _ h => h) (v := ?_) (by kernel_rfl) hS ?_ ?_; rotate_left; (focus (intro x hx; have fx := HX.out x hx; go_simp; (try with_reducible rfl); done)); (try simp only [Act.put, List.setIfInBounds_toArray, List.set_cons_zero, List.set_cons_succ]))
  (refine wpAnyH_takeW 22 rfl rfl (by kernel_rfl) (by kernel_rfl) (by kernel_rfl) (fun _ _ _ h => h) (v := ?_) (by kernel_rfl) hS ?_ ?_; rotate_left; (focus (intro x hx; have fx := HX.out x hx; go_simp; (try with_reducible rfl); done)); (try simp only [Act.put, List.setIfInBounds_toArray, List.set_cons_zero, List.set_cons_succ]))
  (refine wpAnyH_one 21 (by kernel_rfl) rfl ?_; intro K' hK'; go_simp; refine (Ground_any x A n c _ _ (H1.out _ (HT.out _ (HT7.out _ hS))) HO.out).mono ?_; rintro e u2 ⟨rfl, r2⟩; have hS := hS.trans (r2.mono hS.size); refine hK'.out _ _ hS ?_; clear hK' K')
  (refine wpAnyH_one 23 (by kernel_rfl) rfl ?_; intro K' hK'; go_simp; refine (rGround_any x A n c _ _ (H1.out _ (HT.out _ (HT7.out _ hS))) HO.out).mono ?_; rintro e u3 ⟨rfl, r3⟩; have hS := hS.trans (r3.mono hS.size); refine hK'.out _ _ hS ?_; clear hK' K')
  (refine wpAnyH_takeW 24 rfl rfl (by kernel_rfl) (by kernel_rfl) (by kernel_rfl) (fun _ _ _ h => h) (v := ?_) (by kernel_rfl) hS ?_ ?_; rotate_left; (focus (intro x hx; have fx := HX.out x hx; go_simp; (try with_reducible rfl); done)); (try simp only [Act.put, List.setIfInBounds_toArray, List.set_cons_zero, List.set_cons_succ]))
  (refine wpAnyH_takeW 25 rfl rfl (by kernel_rfl) (by kernel_rfl) (by kernel_rfl) (fun _ _ _ h => h) (v := ?_) (by kernel_rfl) hS ?_ ?_; rotate_left; (focus (intro x hx; have fx := HX.out x hx; go_simp; (try with_reducible rfl); done)); (try simp only [Act.put, List.setIfInBounds_toArray, List.set_cons_zero, List.set_cons_succ]))
  refine wpAnyH_done (by kernel_rfl) ?_ _
  clear HX
  by_cases he : pe = 0
  · subst he
    obtain ⟨q0, q1, -⟩ := HX7.out _ hS
    have hpx := fun w hL => ParseAtom_any ps w hL (by omega)
    rw [HTR.out rfl] at hpx
    have HPX := Lib.hid hpx; clear hpx
    have HS8 := Lib.hid hS; clear hS
    go_wp2_with fail
    refine (HPX.out _ (HL.out _ (HT.out _ (HT7.out _ HS8.out)))).mono ?_
    rintro e w8 ⟨⟨A8, n8, c8, rfl, s8⟩, b8, -⟩
    simp only at s8
    have hS := HS8.out.trans (b8.mono HS8.out.size)
    have hSa := hS.alloc hS.size (.cells #[.string ⟨x.name.toArray⟩, .slice A8 n8 c8] 45)
    have hB8 := blkAt w8 (.cells #[.string ⟨x.name.toArray⟩, .slice A8 n8 c8] 45) rfl
    have x0 := (cell_blk hB8 0).trans rfl; have x1 := (cell_blk hB8 1).trans rfl
    clear q0 q1 b8
    obtain ⟨q0, q1, -⟩ := HX7.out _ hSa
    have S8 := Lib.hid ((s8.any).alloc (.cells #[.string ⟨x.name.toArray⟩, .slice A8 n8 c8] 45))
    have HSA := Lib.hid hSa
    clear hS hSa hB8 s8
    go_wp2_with fail
    refine (sameAtom_any x x A8 n8 c8 A n c _ _ _ S8.out (H1.out _ (HT.out _ (HT7.out _ HSA.out)))).mono ?_
    rintro e w9 ⟨rfl, b9⟩
    rw [decide_eq_true rfl]
    go_wp2_with fail
    exact bodyPost_ret (v := .bool true) (by simp [results, Tryz.results10, go_sem]) rfl ⟨rfl, HT.out _ (HT7.out _ (HSA.out.trans (b9.mono HSA.out.size)))⟩
  · have heb : (pe == 0) = false := by simpa using he
    go_wp2_with fail
    exact bodyPost_ret (v := .bool true) (by simp [results, Tryz.results10, go_sem]) rfl ⟨rfl, HT.out _ (HT7.out _ hS)⟩
end Go.Proofs.YtjopmgoacncmgaaGreatDoor
namespace Go.Proofs.YtjopmgoacncmgaaGreatDoor.rulesAtoms
open Go.ChangeShapes Go.WideShapes Go.ChangeAt Go.RowKit
open Go.ChangeMaps (open_string shut_string)

theorem own : ownKnob Tryz.prog.godebug = none := by kernel_rfl
theorem laidOut : laidOutB Tryz.prog = true := by kernel_rfl

set_option maxRecDepth 100000 in
theorem lifted (os : Os) (started : os.Started) (H : Type) (enc : TypeId × Value → H) :
    ReturnsInHanded {} Tryz.checked os 10 .any (fun w args => (Rows.rulesAtomsSpec.pre enc Tryz.prog Tryz.f10 [] false w args ∧ laidMetH Tryz.prog laidL w) ∧ sizedMet enc Tryz.prog Tryz.f10 (OpenSpec.ofChange Rows.rulesAtomsSpec) false w args)
      (Rows.rulesAtomsSpec.post enc Tryz.prog Tryz.f10 false true false false) := by
  refine handed (C := Tryz.checked) (X := fun w _ => laidMetH Tryz.prog laidL w) (fun _ _ _ hh h => h.of_heap hh) own started (by kernel_rfl) Tryz.func10
    (ChangeSpec.witness_shaped (enc := enc) (C := Tryz.checked) (os := os) (X := fun w _ => laidMetH Tryz.prog laidL w) false (World.laidAll Tryz.prog os laidL) #[.string ByteArray.empty, .agg #[.string ByteArray.empty, .slice none 0 0]] 8 (World.laidAll_os _ _ _)
      (World.shaped_of_ZipB (by kernel_rfl) (by kernel_rfl)) (by kernel_rfl) (by kernel_rfl) (by kernel_rfl)
      (by rw [MakeChecks.laidMetH_plain _ _ _ (by kernel_rfl)]; exact laidMet_laidAll _ (by kernel_rfl) (by kernel_rfl))) ?_
  intro W base args ds gs before hval0 hW hlaid hshape
  have hLD := ld_of hlaid hshape
  have hval : ∀ (j : Nat) t v, Tryz.f10.params[j]? = some t → args[j]? = some v → Value.okWide Tryz.prog W .any base t v := hval0
  have hW' := hW
  obtain ⟨p, q, hA0, hV, rfl, hfz, hnd⟩ := hW
  have hA : DataW.TrodAll enc Tryz.prog W 0 (fun _ => true) true Tryz.f10.params.toList args.toList ds p := hA0
  rw [Tryz.params10] at hA hval
  obtain ⟨v0, vs0, d0, ds0, p0, q0, hargs, rfl, rfl, h0, r0⟩ := trodAll_cons hA
  obtain ⟨v1, vs1, d1, ds1, p1, q1, rfl, rfl, rfl, h1, r1⟩ := trodAll_cons r0
  obtain ⟨rfl, rfl, rfl⟩ := trodAll_nil r1
  obtain rfl : args = #[v0, v1] := by cases args; simp_all
  obtain ⟨rfl, rfl⟩ := trodVars_none hV
  obtain ⟨a0, rfl, rfl, rfl, w0⟩ := open_string Tryz.underlying9 (hval 0 9 v0 rfl rfl) h0
  have e0 : a0 = ⟨a0.data.toList.toArray⟩ := by cases a0; simp
  have l0 : a0.data.toList.length ≤ 9223372036854775807 := by simpa [maxLen] using w0
  obtain ⟨cs1, rfl, hsz1⟩ := okWide_struct Tryz.underlying45 (hval 1 45 v1 rfl rfl)
  have k1 := h1
  have lt1 : ∀ x ∈ p1, x.block < W.heap.size := by obtain ⟨m, hm⟩ := k1; exact DataW.trod_lt m _ _ _ hm
  obtain ⟨l1, s1, f1⟩ := openAtom h1
  clear hA0 hval0
  have hw := rulesAtoms_walk W a0.data.toList l0 _ l1 s1 f1 hLD
  rw [← e0] at hw
  refine hw.mono fun e W' ⟨he, bel⟩ => ?_
  subst he
  exact ⟨_, rfl, _, _, _, [], _, [], hW', trodAll_mk1 (shut_bool Tryz.underlying4 _), (trodAll_cons_mk (shut_string Tryz.underlying9 w0) (trodAll_cons_mk (Below.trod laidOut (by kernel_rfl) (of_decide_eq_true (by kernel_rfl)) k1 bel lt1) trodAll_mk0)), rfl, bel.frame _, fun h => by cases h⟩

theorem over : Rows.rulesAtomsRow.holds Tryz.pinned (OpenSpec.ofChange Rows.rulesAtomsSpec) :=
  OpenClaim.holds_of_wide 10 Tryz.f10 rfl rfl rfl rfl rfl rfl rfl ⟨rfl, rfl, rfl, rfl, rfl⟩ rfl rfl rfl rfl rfl (by kernel_rfl) Tryz.func10 (by kernel_rfl)
    (of_decide_eq_true (by kernel_rfl)) (by unfold Func.isWrapper; first | (rw [if_pos (by decide +kernel)]; kernel_rfl) | (rw [if_neg (by decide +kernel)]; exact ⟨rfl, rfl⟩))
    (fun os started H enc _ => lifted os started H enc)

theorem proved : Rows.RulesAtomsCardSaid :=
  Claim7.holds_tied_plain_at .later [] [.data, .data, .data, .data, .sentinel, .sentinel, .listed, .data, .pinned] true _ _ over (fun _ h => by cases h) (by kernel_rfl) (fun _ h => by cases h) rulesAtoms_row_tie rfl ⟨rfl, rfl⟩ (by kernel_rfl) rfl
    (fun f fn hf hfn => by
      obtain rfl : f = 10 := Option.some.inj ((show Tryz.prog.funcNamed "licit/licitlaw53.RulesAtoms" = some 10 by kernel_rfl).symm.trans hf) |>.symm
      obtain rfl : fn = Tryz.f10 := (Option.some.inj (Tryz.func10.symm.trans hfn)).symm
      exact ⟨by kernel_rfl, fun j t ht => by
        rw [Tryz.params10] at ht
        have hm : t ∈ [9, 45] := by simpa using Array.mem_of_getElem? ht
        have hall : ([9, 45].all fun u => !Tryz.prog.wantsStandIn u) = true := by kernel_rfl
        exact (show Tryz.prog.wantsStandIn t = false by simpa using List.all_eq_true.1 hall t hm)⟩)
    (by kernel_rfl)
#print axioms proved
end Go.Proofs.YtjopmgoacncmgaaGreatDoor.rulesAtoms
