/- RulesVariables: the law answers true, whatever the input, and writes nothing that was there. Conditions: none beyond the given statement's (the listed package-level variables start as the program's text lays them; the card ties them, over a pruned copy of the project). -/
import Derived.Test.YtjopmgoacncmgaaGreatDoorKA1
import Derived.Test.YtjopmgoacncmgaaGreatDoorKF2
import Derived.Test.YtjopmgoacncmgaaGreatDoorK7
import Derived.Test.YtjopmgoacncmgaaGreatDoorKO
import Derived.Test.YtjopmgoacncmgaaGreatDoorKFr
import Derived.Test.YtjopmgoacncmgaaGreatDoorTie
import Derived.Test.YtjopmgoacncmgaaGreatDoorCards
import Derived.ProofKit
import Derived.OpenShut
import Derived.ShutString
import Derived.ChangeOld
import Derived.Below
import Derived.Lay
import Derived.Handy
import Derived.SevenTiedAt
set_option linter.unusedVariables false
set_option linter.unusedSimpArgs false
namespace Go.Proofs.YtjopmgoacncmgaaGreatDoor
open Go.RowKit

theorem slRul1 {w : World} {S : Nat → Prop} {b : Nat} {t : TypeId} {fz : Nat × Nat} {x : Rul} {A A' : Option Addr} {n c n' c' : Nat} (hb : w.heap[b]? = some (.cells #[.string ⟨x.head.name.toArray⟩, .slice A n c, .slice A' n' c'] t fz)) (hs : Sl w S A n c x.head.args) (hs' : Sl w S A' n' c' x.body) : Sl w (fun _ => True) (some ⟨b, 0, none⟩) 1 1 [x] := by
  refine ⟨rfl, by simp, by decide, fun i hi => ?_⟩
  have hi : i < 1 := hi
  obtain rfl : i = 0 := by omega
  refine ⟨_, rfl, trivial, fun j => (#[.string ⟨x.head.name.toArray⟩, .slice A n c, .slice A' n' c'] : Array Value).getD j undef, fun j hj => ?_, rfl, ⟨A, n, c, rfl, hs.any⟩, A', n', c', rfl, hs'.any⟩
  have hj : j < 3 := hj
  rw [add_plain, cell_blk hb]
  match j, hj with
  | 0, _ => rfl
  | 1, _ => rfl
  | 2, _ => rfl
theorem cntB_le (l : List Ltl) (h : l.all fewL = true) : cntB l ≤ 10 * l.length := by
  induction l with
  | nil => exact Nat.le_refl _
  | cons x r ih =>
    simp only [List.all_cons, Bool.and_eq_true] at h
    have := ih h.2
    have h1 := h.1
    simp only [fewL, fewA, Bool.and_eq_true, decide_eq_true_eq] at h1
    simp only [cntB, List.length_cons]
    omega
theorem few1 {r : Rul} {m : Int} (h : fewS [r] m = true) : r.head.args.length + cntB r.body ≤ 1000000 := by
  simp only [fewS, fewR, fewA, List.all_cons, List.all_nil, Bool.and_true, Bool.and_eq_true, decide_eq_true_eq] at h
  have := cntB_le _ h.2.2
  omega
set_option maxRecDepth 100000 in
set_option maxHeartbeats 4000000 in
theorem rulesVariables_walk (w : World) (V : Value) (r : Rul) (hv : VRul w (fun _ => True) V r) (ho : OkR r) (hL : LD w) :
    Calls Tryz.prog 8 #[V] w fun e w' => e = .returned (.bool true) ∧ Below w.heap.size w w' := by
  obtain ⟨A1, n1, c1, A2, n2, c2, rfl, h1, h2⟩ := hv
  have HL := Lib.hid hL; have H1 := Lib.hid h1; have H2 := Lib.hid h2; have HO := Lib.hid ho
  clear hL h1 h2 ho
  go_enter Tryz.func8, Tryz.ntmps8
  go_wp2_with fail
  refine (awake_any _ (HL.out.alloc _)).mono ?_
  rintro e w1 ⟨rfl, b1⟩
  have hB : w1.heap[w.heap.size]? = some (.cells #[.string ⟨r.head.name.toArray⟩, .slice A1 n1 c1, .slice A2 n2 c2] 48 (0, 0)) := keptBlk b1 (blkAt w _ rfl)
  have hb1 : Below w.heap.size w w1 := (belowA (Below.refl w.heap.size w) _).trans (b1.mono (by simp))
  clear b1
  have k0 := (cell_blk hB 0).trans rfl; have k1 := (cell_blk hB 1).trans rfl; have k2 := (cell_blk hB 2).trans rfl
  go_wp2_with fail
  have L1 := HL.out.below hb1
  have s1 : Sl (w1.alloc (.cells #[.string ⟨r.head.name.toArray⟩, .slice A1 n1 c1, .slice A2 n2 c2] 48)) (fun _ => True) (some ⟨w1.heap.size, 0, none⟩) 1 1 [r] :=
    slRul1 (blkAt w1 _ rfl) ((H1.out.below hb1).alloc _) ((H2.out.below hb1).alloc _)
  refine (few_any _ _ _ [r] 1 _ _ s1 (fun x hx => (List.mem_singleton.1 hx) ▸ HO.out)).mono ?_
  rintro e w2 ⟨rfl, b2⟩
  have hb2 : Below w.heap.size w w2 := hb1.trans (((belowA (Below.refl w1.heap.size w1) _).trans (b2.mono (by simp))).mono hb1.size)
  have hB2 := keptBlk b2 (blkOld hB _)
  clear b2 s1 k0 k1 k2 hB
  cases hf : fewS [r] 1 with
  | false =>
    go_wp2_with fail
    refine (awake_any _ (HL.out.below hb2)).mono ?_
    rintro e w3 ⟨rfl, b3⟩
    go_wp2_with fail
    exact bodyPost_ret (v := .bool true) (by simp [results, Tryz.results8, go_sem]) rfl ⟨rfl, hb2.trans (b3.mono hb2.size)⟩
  | true =>
    have hc := few1 hf
    have HC := Lib.hid hc; clear hf hc
    go_wp2_with fail
    refine wpH_region (fun x => Below w2.heap.size w2 x) (by kernel_rfl) ?_
    have hS : Below w2.heap.size w2 w2.drew := (Below.refl _ _).drew
    have HX := Lib.hid (fun (x : World) (hx : Below w2.heap.size w2 x) => And.intro ((cell_blk (keptBlk hx hB2) 0).trans rfl) (And.intro ((cell_blk (keptBlk hx hB2) 1).trans rfl) ((cell_blk (keptBlk hx hB2) 2).trans rfl)))
    have HBL := Lib.hid hb2
    clear hB2 hb2 hb1 L1
    (refine wpAnyH_takeW 0 rfl rfl (by kernel_rfl) (by kernel_rfl) (by kernel_rfl) (fun _ _ _ h => h) (v := ?_) (by kernel_rfl) hS ?_ ?_; rotate_left; (focus (intro x hx; have fx := HX.out x hx; go_simp; (try with_reducible rfl); done)); (try simp only [Act.put, List.setIfInBounds_toArray, List.set_cons_zero, List.set_cons_succ]))
    (refine wpAnyH_takeW 2 rfl rfl (by kernel_rfl) (by kernel_rfl) (by kernel_rfl) (fun _ _ _ h => h) (v := ?_) (by kernel_rfl) hS ?_ ?_; rotate_left; (focus (intro x hx; have fx := HX.out x hx; go_simp; (try with_reducible rfl); done)); (try simp only [Act.put, List.setIfInBounds_toArray, List.set_cons_zero, List.set_cons_succ]))
    (refine wpAnyH_one 1 (by kernel_rfl) rfl ?_; intro K' hK'; go_simp; refine (variables_any r A1 n1 c1 A2 n2 c2 _ _ (H1.out.below (HBL.out.trans (hS.mono HBL.out.size))) (H2.out.below (HBL.out.trans (hS.mono HBL.out.size))) HC.out).mono ?_; rintro e w3 ⟨A3, c3, rfl, s3, hb3⟩; have hS3 := hS.size; have hS := hS.trans (hb3.mono hS.size); refine hK'.out _ _ hS ?_; clear hK' K')
    (refine wpAnyH_one 3 (by kernel_rfl) rfl ?_; intro K' hK'; go_simp; refine (rvariables_any r A1 n1 c1 A2 n2 c2 _ _ (H1.out.below (HBL.out.trans (hS.mono HBL.out.size))) (H2.out.below (HBL.out.trans (hS.mono HBL.out.size))) HC.out).mono ?_; rintro e w4 ⟨A4, c4, rfl, s4, hb4⟩; have s3 := s3.below hb4; have hS := hS.trans (hb4.mono hS.size); refine hK'.out _ _ hS ?_; clear hK' K')
    (refine wpAnyH_one 4 (by kernel_rfl) rfl ?_; intro K' hK'; go_simp; refine (equalS_any _ _ _ _ _ _ _ _ _ _ _ s3 s4).mono ?_; rintro e w5 ⟨rfl, hb5⟩; have hS := hS.trans (hb5.mono hS.size); refine hK'.out _ _ hS ?_; clear hK' K')
    (refine wpAnyH_takeW 5 rfl rfl (by kernel_rfl) (by kernel_rfl) (by kernel_rfl) (fun _ _ _ h => h) (v := ?_) (by kernel_rfl) hS ?_ ?_; rotate_left; (focus (intro x hx; have fx := HX.out x hx; go_simp; (try with_reducible rfl); done)); (try simp only [Act.put, List.setIfInBounds_toArray, List.set_cons_zero, List.set_cons_succ]))
    refine wpAnyH_done (by kernel_rfl) ?_ _
    go_wp2_with fail
    exact bodyPost_ret (v := .bool true) (by simp [results, Tryz.results8, go_sem]) rfl ⟨rfl, HBL.out.trans (hS.mono HBL.out.size)⟩
end Go.Proofs.YtjopmgoacncmgaaGreatDoor
namespace Go.Proofs.YtjopmgoacncmgaaGreatDoor.rulesVariables
open Go.ChangeShapes Go.WideShapes Go.ChangeAt Go.RowKit
open Go.ChangeMaps (open_string shut_string)

theorem own : ownKnob Tryz.prog.godebug = none := by kernel_rfl
theorem laidOut : laidOutB Tryz.prog = true := by kernel_rfl

set_option maxRecDepth 100000 in
theorem lifted (os : Os) (started : os.Started) (H : Type) (enc : TypeId × Value → H) :
    ReturnsInHanded {} Tryz.checked os 8 .any (fun w args => (Rows.rulesVariablesSpec.pre enc Tryz.prog Tryz.f8 [] false w args ∧ laidMetH Tryz.prog laidL w) ∧ sizedMet enc Tryz.prog Tryz.f8 (OpenSpec.ofChange Rows.rulesVariablesSpec) false w args)
      (Rows.rulesVariablesSpec.post enc Tryz.prog Tryz.f8 false true false false) := by
  refine handed (C := Tryz.checked) (X := fun w _ => laidMetH Tryz.prog laidL w) (fun _ _ _ hh h => h.of_heap hh) own started (by kernel_rfl) Tryz.func8
    (ChangeSpec.witness_shaped (enc := enc) (C := Tryz.checked) (os := os) (X := fun w _ => laidMetH Tryz.prog laidL w) false (World.laidAll Tryz.prog os laidL) #[.agg #[.string ByteArray.empty, .slice none 0 0, .slice none 0 0]] 8 (World.laidAll_os _ _ _)
      (World.shaped_of_ZipB (by kernel_rfl) (by kernel_rfl)) (by kernel_rfl) (by kernel_rfl) (by kernel_rfl)
      (by rw [MakeChecks.laidMetH_plain _ _ _ (by kernel_rfl)]; exact laidMet_laidAll _ (by kernel_rfl) (by kernel_rfl))) ?_
  intro W base args ds gs before hval0 hW hlaid hshape
  have hLD := ld_of hlaid hshape
  have hval : ∀ (j : Nat) t v, Tryz.f8.params[j]? = some t → args[j]? = some v → Value.okWide Tryz.prog W .any base t v := hval0
  have hW' := hW
  obtain ⟨p, q, hA0, hV, rfl, hfz, hnd⟩ := hW
  have hA : DataW.TrodAll enc Tryz.prog W 0 (fun _ => true) true Tryz.f8.params.toList args.toList ds p := hA0
  rw [Tryz.params8] at hA hval
  obtain ⟨v0, vs0, d0, ds0, p0, q0, hargs, rfl, rfl, h0, r0⟩ := trodAll_cons hA
  obtain ⟨rfl, rfl, rfl⟩ := trodAll_nil r0
  obtain rfl : args = #[v0] := by cases args; simp_all
  obtain ⟨rfl, rfl⟩ := trodVars_none hV
  obtain ⟨cs0, rfl, hsz0⟩ := okWide_struct Tryz.underlying48 (hval 0 48 v0 rfl rfl)
  have k0 := h0
  have lt0 : ∀ x ∈ p0, x.block < W.heap.size := by obtain ⟨m, hm⟩ := k0; exact DataW.trod_lt m _ _ _ hm
  obtain ⟨l0, s0, f0⟩ := openRule h0
  clear hA0 hval0
  have hw := rulesVariables_walk W _ l0 s0 f0 hLD
  refine hw.mono fun e W' ⟨he, bel⟩ => ?_
  subst he
  exact ⟨_, rfl, _, _, _, [], _, [], hW', trodAll_mk1 (shut_bool Tryz.underlying4 _), (trodAll_cons_mk (Below.trod laidOut (by kernel_rfl) (of_decide_eq_true (by kernel_rfl)) k0 bel lt0) trodAll_mk0), rfl, bel.frame _, fun h => by cases h⟩

theorem over : Rows.rulesVariablesRow.holds Tryz.pinned (OpenSpec.ofChange Rows.rulesVariablesSpec) :=
  OpenClaim.holds_of_wide 8 Tryz.f8 rfl rfl rfl rfl rfl rfl rfl ⟨rfl, rfl, rfl, rfl, rfl⟩ rfl rfl rfl rfl rfl (by kernel_rfl) Tryz.func8 (by kernel_rfl)
    (of_decide_eq_true (by kernel_rfl)) (by unfold Func.isWrapper; first | (rw [if_pos (by decide +kernel)]; kernel_rfl) | (rw [if_neg (by decide +kernel)]; exact ⟨rfl, rfl⟩))
    (fun os started H enc _ => lifted os started H enc)

theorem proved : Rows.RulesVariablesCardSaid :=
  Claim7.holds_tied_plain_at .later [] [.data, .data, .data, .data, .sentinel, .sentinel, .listed, .data, .pinned] true _ _ over (fun _ h => by cases h) (by kernel_rfl) (fun _ h => by cases h) rulesVariables_row_tie rfl ⟨rfl, rfl⟩ (by kernel_rfl) rfl
    (fun f fn hf hfn => by
      obtain rfl : f = 8 := Option.some.inj ((show Tryz.prog.funcNamed "licit/licitlaw53.RulesVariables" = some 8 by kernel_rfl).symm.trans hf) |>.symm
      obtain rfl : fn = Tryz.f8 := (Option.some.inj (Tryz.func8.symm.trans hfn)).symm
      exact ⟨by kernel_rfl, fun j t ht => by
        rw [Tryz.params8] at ht
        have hm : t ∈ [48] := by simpa using Array.mem_of_getElem? ht
        have hall : ([48].all fun u => !Tryz.prog.wantsStandIn u) = true := by kernel_rfl
        exact (show Tryz.prog.wantsStandIn t = false by simpa using List.all_eq_true.1 hall t hm)⟩)
    (by kernel_rfl)
#print axioms proved
end Go.Proofs.YtjopmgoacncmgaaGreatDoor.rulesVariables
