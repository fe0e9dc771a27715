/- RulesStrata: the law answers true, whatever the input, and writes nothing that was there. Conditions: none beyond the given statement's (the listed package-level variables start as the program's text lays them; the card ties them, over a pruned copy of the project). -/
import Derived.Test.YtjopmgoacncmgaaGreatDoorKL4
import Derived.Test.YtjopmgoacncmgaaGreatDoorKW10
import Derived.Test.YtjopmgoacncmgaaGreatDoorKO
import Derived.Test.YtjopmgoacncmgaaGreatDoorKFr
import Derived.Test.YtjopmgoacncmgaaGreatDoorTie
import Derived.Test.YtjopmgoacncmgaaGreatDoorCards
import Derived.ProofKit
import Derived.OpenShut
import Derived.ShutString
import Derived.ChangeOld
import Derived.Below
import Derived.Lay
import Derived.Handy
import Derived.SevenTiedAt
set_option linter.unusedVariables false
set_option linter.unusedSimpArgs false
namespace Go.Proofs.YtjopmgoacncmgaaGreatDoor
open Go.RowKit

set_option maxRecDepth 100000 in
set_option maxHeartbeats 4000000 in
theorem rulesStrata_walk (w : World) (A : Option Addr) (n c : Nat) (l : List Rul) (hl : Sl w (fun _ => True) A n c l) (ho : ∀ r ∈ l, OkR r) (hL : LD w) :
    Calls Tryz.prog 7 #[.slice A n c] w fun e w' => e = .returned (.bool true) ∧ Below w.heap.size w w' := by
  have hn := hl.len
  subst hn
  have hle := hl.le
  have HL := Lib.hid hL; have HS := Lib.hid (hl.wide (S' := fun b => b < w.heap.size) (fun k hk _ => hk) (by decide)); have HO := Lib.hid ho
  clear hL hl ho
  go_enter Tryz.func7, Tryz.ntmps7
  go_wp2_with fail
  refine (awake_any _ HL.out).mono ?_
  rintro e w1 ⟨rfl, b1⟩
  go_wp2_with fail
  refine (few_any A l.length c l 10 w1 _ (HS.out.below b1) HO.out).mono ?_
  rintro e w2 ⟨rfl, b2⟩
  have hb2 : Below w.heap.size w w2 := b1.trans (b2.mono b1.size)
  clear b1 b2
  cases hf : fewS l 10 with
  | false =>
    go_wp2_with fail
    refine (awake_any _ (HL.out.below hb2)).mono ?_
    rintro e w3 ⟨rfl, b3⟩
    go_wp2_with fail
    exact bodyPost_ret (v := .bool true) (by simp [results, Tryz.results7, go_sem]) rfl ⟨rfl, hb2.trans (b3.mono hb2.size)⟩
  | true =>
    have hlen : l.length ≤ 10 := by
      simp only [fewS, Bool.and_eq_true, decide_eq_true_eq] at hf
      omega
    have hst := fun A c w S hs ho hL => Strata_any A l.length c l w S hs ho hL
    have hrs := fun A c w S hs => rStrata_any A l.length c l w S hs HO.out
    rw [← strata_eq] at hrs
    generalize strataS l = R at *
    obtain ⟨R, i, er⟩ := R
    have HST := Lib.hid hst; have HRS := Lib.hid hrs
    clear hf hst hrs
    go_wp2_with fail
    refine (cp_any A l.length c l w2 _ (HS.out.below hb2) (by omega)).mono ?_
    rintro e w3 ⟨A3, c3, rfl, s3, b3⟩
    have hb3 : Below w.heap.size w w3 := hb2.trans (b3.mono hb2.size)
    clear hb2 b3
    go_wp2_with fail
    refine (HST.out A3 c3 w3 _ s3 HO.out (HL.out.below hb3)).mono ?_
    rintro e w4 ⟨A4, c4, rfl, s4, b4⟩
    have hb4 : Below w.heap.size w w4 := hb3.trans (b4.mono hb3.size)
    simp only at s4
    clear hb3 b4 s3
    go_wp2_with fail
    refine (HRS.out A c w4 _ (HS.out.below hb4)).mono ?_
    rintro e w5 ⟨A5, c5, rfl, s5, b5⟩
    simp only at s5
    have hb5 : Below w.heap.size w w5 := hb4.trans (b5.mono hb4.size)
    have S4 := Lib.hid (s4.below b5)
    have S5 := Lib.hid s5
    have hleR := s5.le
    have HB5 := Lib.hid hb5
    have hw5 := hb5.size
    clear s4 s5 hb4 b5 hb5
    go_wp2_with fail
    go_loopw [48] (fun i wr => ∃ k : Nat, k ≤ R.length ∧ i = .int .i64 k ∧ Below w5.heap.size w5 wr) (fun i _ => R.length - (intOf i).toNat)
    case atStart => exact ⟨0, by omega, rfl, Below.refl _ _⟩
    case round =>
      obtain ⟨k, hk, rfl, hb⟩ := hrel
      by_cases hlt : k < R.length
      · obtain ⟨b1, o1, rfl, -, hbs1, A6, m6, d6, h1, r1⟩ := (S4.out.below hb).row hlt
        obtain ⟨b2, o2, rfl, -, hbs2, A7, m7, d7, h2, r2⟩ := (S5.out.below hb).row hlt
        generalize R[k] = row at *
        have hm := r1.len; have hm2 := r2.len
        subst hm hm2
        have HX := Lib.hid (fun (x : World) (hx : Below wr.heap.size wr x) => And.intro (cell_later hx h1) (cell_later hx h2))
        have R1 := Lib.hid r1; have R2 := Lib.hid r2; have HB := Lib.hid hb
        have k0 : (0 : Int) ≤ (k : Int) := by omega
        have k1 : (k : Int) < (R.length : Int) := by omega
        clear r1 r2 hb h1 h2
        go_wp2_with fail
        refine wpH_region (fun x => Below wr.heap.size wr x) (by kernel_rfl) ?_
        have hS : Below wr.heap.size wr wr.drew := (Below.refl _ _).drew
        (refine wpAnyH_takeW 0 rfl rfl (by kernel_rfl) (by kernel_rfl) (by kernel_rfl) (fun _ _ _ h => h) (v := ?_) (by kernel_rfl) hS ?_ ?_; rotate_left; (focus (intro x hx; have fx := HX.out x hx; go_simp; (try with_reducible rfl); done)); (try simp only [Act.put, List.setIfInBounds_toArray, List.set_cons_zero, List.set_cons_succ]))
        (refine wpAnyH_takeW 1 rfl rfl (by kernel_rfl) (by kernel_rfl) (by kernel_rfl) (fun _ _ _ h => h) (v := ?_) (by kernel_rfl) hS ?_ ?_; rotate_left; (focus (intro x hx; have fx := HX.out x hx; go_simp; (try with_reducible rfl); done)); (try simp only [Act.put, List.setIfInBounds_toArray, List.set_cons_zero, List.set_cons_succ]))
        (refine wpAnyH_takeW 2 rfl rfl (by kernel_rfl) (by kernel_rfl) (by kernel_rfl) (fun _ _ _ h => h) (v := ?_) (by kernel_rfl) hS ?_ ?_; rotate_left; (focus (intro x hx; have fx := HX.out x hx; go_simp; (try with_reducible rfl); done)); (try simp only [Act.put, List.setIfInBounds_toArray, List.set_cons_zero, List.set_cons_succ]))
        (refine wpAnyH_takeW 3 rfl rfl (by kernel_rfl) (by kernel_rfl) (by kernel_rfl) (fun _ _ _ h => h) (v := ?_) (by kernel_rfl) hS ?_ ?_; rotate_left; (focus (intro x hx; have fx := HX.out x hx; go_simp; (try with_reducible rfl); done)); (try simp only [Act.put, List.setIfInBounds_toArray, List.set_cons_zero, List.set_cons_succ]))
        (refine wpAnyH_takeW 4 rfl rfl (by kernel_rfl) (by kernel_rfl) (by kernel_rfl) (fun _ _ _ h => h) (v := ?_) (by kernel_rfl) hS ?_ ?_; rotate_left; (focus (intro x hx; have fx := HX.out x hx; go_simp; (try with_reducible rfl); done)); (try simp only [Act.put, List.setIfInBounds_toArray, List.set_cons_zero, List.set_cons_succ]))
        (refine wpAnyH_takeW 5 rfl rfl (by kernel_rfl) (by kernel_rfl) (by kernel_rfl) (fun _ _ _ h => h) (v := ?_) (by kernel_rfl) hS ?_ ?_; rotate_left; (focus (intro x hx; have fx := HX.out x hx; go_simp; (try with_reducible rfl); done)); (try simp only [Act.put, List.setIfInBounds_toArray, List.set_cons_zero, List.set_cons_succ]))
        (refine wpAnyH_takeW 6 rfl rfl (by kernel_rfl) (by kernel_rfl) (by kernel_rfl) (fun _ _ _ h => h) (v := ?_) (by kernel_rfl) hS ?_ ?_; rotate_left; (focus (intro x hx; have fx := HX.out x hx; go_simp; (try with_reducible rfl); done)); (try simp only [Act.put, List.setIfInBounds_toArray, List.set_cons_zero, List.set_cons_succ]))
        (refine wpAnyH_takeW 7 rfl rfl (by kernel_rfl) (by kernel_rfl) (by kernel_rfl) (fun _ _ _ h => h) (v := ?_) (by kernel_rfl) hS ?_ ?_; rotate_left; (focus (intro x hx; have fx := HX.out x hx; go_simp; (try with_reducible rfl); done)); (try simp only [Act.put, List.setIfInBounds_toArray, List.set_cons_zero, List.set_cons_succ]))
        (refine wpAnyH_one 8 (by kernel_rfl) rfl ?_; intro K' hK'; go_simp; refine (equalS_any _ _ _ _ _ _ _ _ _ _ _ (R1.out.below hS) (R2.out.below hS)).mono ?_; rintro e w7 ⟨rfl, hb7⟩; rw [show (row == row) = true by simp]; have hS := hS.trans (hb7.mono hS.size); refine hK'.out _ _ hS ?_; clear hK' K')
        (refine wpAnyH_takeW 9 rfl rfl (by kernel_rfl) (by kernel_rfl) (by kernel_rfl) (fun _ _ _ h => h) (v := ?_) (by kernel_rfl) hS ?_ ?_; rotate_left; (focus (intro x hx; have fx := HX.out x hx; go_simp; (try with_reducible rfl); done)); (try simp only [Act.put, List.setIfInBounds_toArray, List.set_cons_zero, List.set_cons_succ]))
        refine wpAnyH_done (by kernel_rfl) ?_ _
        go_wp2_with fail
        go_roundw
        case rel => exact ⟨k + 1, by omega, by go_num, HB.out.trans (hS.mono HB.out.size)⟩
        case measure => simp [intOf]; omega
      · go_wp2_with fail
        exact bodyPost_ret (v := .bool true) (by simp [results, Tryz.results7, go_sem]) rfl ⟨rfl, HB5.out.trans (hb.mono hw5)⟩
end Go.Proofs.YtjopmgoacncmgaaGreatDoor
namespace Go.Proofs.YtjopmgoacncmgaaGreatDoor.rulesStrata
open Go.ChangeShapes Go.WideShapes Go.ChangeAt Go.RowKit
open Go.ChangeMaps (open_string shut_string)

theorem own : ownKnob Tryz.prog.godebug = none := by kernel_rfl
theorem laidOut : laidOutB Tryz.prog = true := by kernel_rfl

set_option maxRecDepth 100000 in
theorem lifted (os : Os) (started : os.Started) (H : Type) (enc : TypeId × Value → H) :
    ReturnsInHanded {} Tryz.checked os 7 .any (fun w args => (Rows.rulesStrataSpec.pre enc Tryz.prog Tryz.f7 [] false w args ∧ laidMetH Tryz.prog laidL w) ∧ sizedMet enc Tryz.prog Tryz.f7 (OpenSpec.ofChange Rows.rulesStrataSpec) false w args)
      (Rows.rulesStrataSpec.post enc Tryz.prog Tryz.f7 false true false false) := by
  refine handed (C := Tryz.checked) (X := fun w _ => laidMetH Tryz.prog laidL w) (fun _ _ _ hh h => h.of_heap hh) own started (by kernel_rfl) Tryz.func7
    (ChangeSpec.witness_shaped (enc := enc) (C := Tryz.checked) (os := os) (X := fun w _ => laidMetH Tryz.prog laidL w) false (World.laidAll Tryz.prog os laidL) #[.slice none 0 0] 8 (World.laidAll_os _ _ _)
      (World.shaped_of_ZipB (by kernel_rfl) (by kernel_rfl)) (by kernel_rfl) (by kernel_rfl) (by kernel_rfl)
      (by rw [MakeChecks.laidMetH_plain _ _ _ (by kernel_rfl)]; exact laidMet_laidAll _ (by kernel_rfl) (by kernel_rfl))) ?_
  intro W base args ds gs before hval0 hW hlaid hshape
  have hLD := ld_of hlaid hshape
  have hval : ∀ (j : Nat) t v, Tryz.f7.params[j]? = some t → args[j]? = some v → Value.okWide Tryz.prog W .any base t v := hval0
  have hW' := hW
  obtain ⟨p, q, hA0, hV, rfl, hfz, hnd⟩ := hW
  have hA : DataW.TrodAll enc Tryz.prog W 0 (fun _ => true) true Tryz.f7.params.toList args.toList ds p := hA0
  rw [Tryz.params7] at hA hval
  obtain ⟨v0, vs0, d0, ds0, p0, q0, hargs, rfl, rfl, h0, r0⟩ := trodAll_cons hA
  obtain ⟨rfl, rfl, rfl⟩ := trodAll_nil r0
  obtain rfl : args = #[v0] := by cases args; simp_all
  obtain ⟨rfl, rfl⟩ := trodVars_none hV
  obtain ⟨a0, n0, c0, rfl⟩ := okWide_slice Tryz.underlying23 (hval 0 23 v0 rfl rfl)
  have k0 := h0
  have lt0 : ∀ x ∈ p0, x.block < W.heap.size := by obtain ⟨m, hm⟩ := k0; exact DataW.trod_lt m _ _ _ hm
  obtain ⟨l0, s0, f0⟩ := openRules h0
  clear hA0 hval0
  have hw := rulesStrata_walk W a0 n0 c0 l0 s0 f0 hLD
  refine hw.mono fun e W' ⟨he, bel⟩ => ?_
  subst he
  exact ⟨_, rfl, _, _, _, [], _, [], hW', trodAll_mk1 (shut_bool Tryz.underlying4 _), (trodAll_cons_mk (Below.trod laidOut (by kernel_rfl) (of_decide_eq_true (by kernel_rfl)) k0 bel lt0) trodAll_mk0), rfl, bel.frame _, fun h => by cases h⟩

theorem over : Rows.rulesStrataRow.holds Tryz.pinned (OpenSpec.ofChange Rows.rulesStrataSpec) :=
  OpenClaim.holds_of_wide 7 Tryz.f7 rfl rfl rfl rfl rfl rfl rfl ⟨rfl, rfl, rfl, rfl, rfl⟩ rfl rfl rfl rfl rfl (by kernel_rfl) Tryz.func7 (by kernel_rfl)
    (of_decide_eq_true (by kernel_rfl)) (by unfold Func.isWrapper; first | (rw [if_pos (by decide +kernel)]; kernel_rfl) | (rw [if_neg (by decide +kernel)]; exact ⟨rfl, rfl⟩))
    (fun os started H enc _ => lifted os started H enc)

theorem proved : Rows.RulesStrataCardSaid :=
  Claim7.holds_tied_plain_at .later [] [.data, .data, .data, .data, .sentinel, .sentinel, .listed, .data, .pinned] true _ _ over (fun _ h => by cases h) (by kernel_rfl) (fun _ h => by cases h) rulesStrata_row_tie rfl ⟨rfl, rfl⟩ (by kernel_rfl) rfl
    (fun f fn hf hfn => by
      obtain rfl : f = 7 := Option.some.inj ((show Tryz.prog.funcNamed "licit/licitlaw53.RulesStrata" = some 7 by kernel_rfl).symm.trans hf) |>.symm
      obtain rfl : fn = Tryz.f7 := (Option.some.inj (Tryz.func7.symm.trans hfn)).symm
      exact ⟨by kernel_rfl, fun j t ht => by
        rw [Tryz.params7] at ht
        have hm : t ∈ [23] := by simpa using Array.mem_of_getElem? ht
        have hall : ([23].all fun u => !Tryz.prog.wantsStandIn u) = true := by kernel_rfl
        exact (show Tryz.prog.wantsStandIn t = false by simpa using List.all_eq_true.1 hall t hm)⟩)
    (by kernel_rfl)
#print axioms proved
end Go.Proofs.YtjopmgoacncmgaaGreatDoor.rulesStrata
