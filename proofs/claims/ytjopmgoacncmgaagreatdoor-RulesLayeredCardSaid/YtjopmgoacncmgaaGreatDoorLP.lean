/- RulesLayered: the law answers true, whatever the input, and writes nothing that was there. Conditions: none beyond the given statement's (the listed package-level variables start as the program's text lays them; the card ties them, over a pruned copy of the project). -/
import Derived.Test.YtjopmgoacncmgaaGreatDoorKL4
import Derived.Test.YtjopmgoacncmgaaGreatDoorKW3
import Derived.Test.YtjopmgoacncmgaaGreatDoorKO
import Derived.Test.YtjopmgoacncmgaaGreatDoorKFr
import Derived.Test.YtjopmgoacncmgaaGreatDoorTie
import Derived.Test.YtjopmgoacncmgaaGreatDoorCards
import Derived.ProofKit
import Derived.OpenShut
import Derived.ShutString
import Derived.ChangeOld
import Derived.Below
import Derived.Lay
import Derived.Handy
import Derived.SevenTiedAt
set_option linter.unusedVariables false
set_option linter.unusedSimpArgs false
namespace Go.Proofs.YtjopmgoacncmgaaGreatDoor
open Go.RowKit

set_option maxRecDepth 100000 in
set_option maxHeartbeats 4000000 in
theorem rulesLayered_walk (w : World) (A : Option Addr) (n c : Nat) (l : List Rul) (hl : Sl w (fun _ => True) A n c l) (ho : ∀ r ∈ l, OkR r) (hL : LD w) :
    Calls Tryz.prog 9 #[.slice A n c] w fun e w' => e = .returned (.bool true) ∧ Below w.heap.size w w' := by
  have hn := hl.len
  subst hn
  have hle := hl.le
  have HL := Lib.hid hL; have HS := Lib.hid (hl.wide (S' := fun b => b < w.heap.size) (fun k hk _ => hk) (by decide)); have HO := Lib.hid ho
  clear hL hl ho
  go_enter Tryz.func9, Tryz.ntmps9
  go_wp2_with fail
  refine (awake_any _ HL.out).mono ?_
  rintro e w1 ⟨rfl, b1⟩
  go_wp2_with fail
  refine (few_any A l.length c l 10 w1 _ (HS.out.below b1) HO.out).mono ?_
  rintro e w2 ⟨rfl, b2⟩
  have hb2 : Below w.heap.size w w2 := b1.trans (b2.mono b1.size)
  clear b1 b2
  cases hf : fewS l 10 with
  | false =>
    go_wp2_with fail
    refine (awake_any _ (HL.out.below hb2)).mono ?_
    rintro e w3 ⟨rfl, b3⟩
    go_wp2_with fail
    exact bodyPost_ret (v := .bool true) (by simp [results, Tryz.results9, go_sem]) rfl ⟨rfl, hb2.trans (b3.mono hb2.size)⟩
  | true =>
    have hlen : l.length ≤ 10 := by
      simp only [fewS, Bool.and_eq_true, decide_eq_true_eq] at hf
      omega
    have hsm := strata_small l hf
    have hlay := layered l
    have hnone := strata_none l
    have hst := fun A c w S hs ho hL => Strata_any A l.length c l w S hs ho hL
    generalize strataS l = R at *
    obtain ⟨R, i, er⟩ := R
    simp only at hsm hlay hnone
    have HSM := Lib.hid hsm; have HLAY := Lib.hid hlay; have HNO := Lib.hid hnone; have HST := Lib.hid hst
    clear hf hsm hlay hnone hst
    go_wp2_with fail
    refine (cp_any A l.length c l w2 _ (HS.out.below hb2) (by omega)).mono ?_
    rintro e w3 ⟨A3, c3, rfl, s3, b3⟩
    have hb3 : Below w.heap.size w w3 := hb2.trans (b3.mono hb2.size)
    clear hb2 b3
    go_wp2_with fail
    refine (HST.out A3 c3 w3 _ s3 HO.out (HL.out.below hb3)).mono ?_
    rintro e w4 ⟨A4, c4, rfl, s4, b4⟩
    have hb4 : Below w.heap.size w w4 := hb3.trans (b4.mono hb3.size)
    have S4 := Lib.hid (s4.wide (S' := fun b => b < w4.heap.size) (fun k hk _ => hk) (by decide))
    clear hb3 b4 s3 s4
    by_cases he : er = 0
    · subst he
      have hla := HLAY.out rfl
      have hF : ∀ (k : Nat) (h : k < R.length), R[k].isEmpty = false ∧ SortB R[k] := fun k h => hla.1 _ (List.getElem_mem h)
      have HF := Lib.hid hF; have HB := Lib.hid hla.2
      clear hla hF HLAY HNO HST
      have hb4s := hb4.size
      have hleR := S4.out.le
      have HB4 := Lib.hid hb4
      clear hb4
      go_wp2_with fail
      go_loopw [36] (fun i wr => ∃ k : Nat, k ≤ R.length ∧ i = .int .i64 k ∧ Below w4.heap.size w4 wr) (fun i _ => R.length - (intOf i).toNat)
      case atStart => exact ⟨0, by omega, rfl, Below.refl _ _⟩
      case round =>
        obtain ⟨k, hk, rfl, hb⟩ := hrel
        by_cases hlt : k < R.length
        · obtain ⟨b1, o1, rfl, -, hbs1, A1, m1, d1, h1, r1⟩ := (S4.out.below hb).row hlt
          obtain ⟨f1, f2⟩ := HF.out k hlt
          generalize R[k] = row at *
          have hm := r1.len
          subst hm
          have hle1 := r1.le
          have hne : row.length ≠ 0 := by cases row with
            | nil => exact absurd f1 (by simp)
            | cons a t => simp
          have hneb : ((row.length : Int) == 0) = false := by simp; intro e; subst e; simp at hne
          have R1 := Lib.hid r1; have F2 := Lib.hid f2; have HBB := Lib.hid hb
          clear r1 f1 f2 hb
          go_wp2_with fail
          refine (isSorted_any A1 _ d1 row _ _ R1.out F2.out).mono ?_
          rintro e w5 ⟨rfl, b5⟩
          go_wp2_with fail
          go_roundw
          case rel => exact ⟨k + 1, by omega, by go_num, HBB.out.trans (b5.mono HBB.out.size)⟩
          case measure => simp [intOf]; omega
        · clear HF
          go_wp2_with fail
          go_loopw [51] (fun i wx => ∃ k : Nat, k ≤ l.length ∧ i = .int .i64 k ∧ Below w4.heap.size w4 wx) (fun i _ => l.length - (intOf i).toNat)
          case atStart => exact ⟨0, by omega, rfl, hb⟩
          case round =>
            obtain ⟨q, hq, rfl, hbx⟩ := hrel
            have hwx := hbx.size
            by_cases hltq : q < l.length
            · obtain ⟨b2, o2, rfl, -, hbs2, A1, n1, c1, A2, n2, c2, h1, h2, h3, hs1, hs2⟩ := (HS.out.below (HB4.out.trans (hbx.mono hb4s))).rul hltq
              have hlr := List.all_eq_true.1 HB.out _ (List.getElem_mem hltq)
              generalize l[q] = x at *
              obtain ⟨⟨nm, args⟩, body⟩ := x
              simp only [layR] at hlr h1 h2 h3 hs1 hs2
              have hlv := fun s w S (h : Sl w S A4 R.length c4 R) => level_any A4 R.length c4 R s w S h HSM.out
              have hn2 := hs2.len
              subst hn2
              have hle2 := hs2.le
              have hl0 := hlv nm
              generalize hh0 : levelOf R nm = h at *
              split at hlr
              · cases hlr
              · rename_i hneg
                have HALL := Lib.hid (fun (j : Nat) (hj : j < body.length) => List.all_eq_true.1 hlr _ (List.getElem_mem hj))
                have HLV := Lib.hid hlv; have HL0 := Lib.hid hl0; have HS2 := Lib.hid (hs2.wide (S' := fun b => b < wr.heap.size) (fun k hk _ => hk) (by decide)); have HBX := Lib.hid hbx
                clear hlr hlv hl0 hs1 hs2 hh0 hbx
                go_wp2_with fail
                refine (HL0.out _ _ ((S4.out.below HBX.out).alloc _)).mono ?_
                rintro e w6 ⟨rfl, rfl⟩
                have C0 := (cell_blk (blkAt wr (.cells #[.string ⟨nm.toArray⟩, .slice A1 n1 c1, .slice A2 body.length c2] 48) rfl) 2).trans rfl
                go_wp2_with fail
                obtain ⟨wo, rfl⟩ : ∃ wo, wo = wr := ⟨_, rfl⟩
                go_loopw [65] (fun i wy => ∃ j : Nat, j ≤ body.length ∧ i = .int .i64 j ∧ Below wo.heap.size wo wy) (fun i _ => body.length - (intOf i).toNat)
                case atStart => exact ⟨0, by omega, rfl, boxed⟩
                case round =>
                  obtain ⟨j, hj, rfl, hbj⟩ := hrel
                  have hwj := hbj.size
                  by_cases hltj : j < body.length
                  · obtain ⟨b3, o3, rfl, -, hbs3, A5, n5, c5, k0, k1, k2, k3, -⟩ := (HS2.out.below hbj).ltl hltj
                    have hax := HALL.out j hltj
                    generalize body[j] = x at *
                    obtain ⟨neg, op, ⟨ynm, yargs⟩⟩ := x
                    simp only [layX, compsS] at hax k0 k1 k2 k3
                    have hlw := HLV.out ynm
                    generalize levelOf R ynm = lv at *
                    have HLW := Lib.hid hlw; have HBJ := Lib.hid hbj
                    clear hlw hbj C0
                    cases op with
                    | cons c r =>
                      have hob : ((c :: r : Bs) == []) = false := rfl
                      clear hax
                      go_wp2_with fail
                      go_roundw
                      case rel => exact ⟨j + 1, by omega, by go_num, HBJ.out.alloc hwj _⟩
                      case measure => simp [intOf]; omega
                    | nil =>
                      simp only [List.isEmpty_nil, Bool.not_true, Bool.false_eq_true, if_false, Bool.not_eq_true', Bool.or_eq_false_iff, decide_eq_false_iff_not, Bool.and_eq_false_iff] at hax
                      obtain ⟨⟨g1, g2⟩, g3⟩ := hax
                      have G3 := Lib.hid g3; clear g3
                      go_wp2_with fail
                      refine (HLW.out _ _ (((S4.out.below HBX.out).below HBJ.out).alloc _)).mono ?_
                      rintro e w7 ⟨rfl, rfl⟩
                      have y0 := (cell_blk (blkAt wr (.cells #[.bool neg, .string ⟨#[]⟩, .string ⟨ynm.toArray⟩, .slice A5 n5 c5] 54) rfl) 0).trans rfl
                      rcases G3.out with g3 | g3
                      · subst g3
                        go_wp2_with fail
                        go_roundw
                        case rel => exact ⟨j + 1, by omega, by go_num, HBJ.out.alloc hwj _⟩
                        case measure => simp [intOf]; omega
                      · cases neg
                        all_goals go_wp2_with fail
                        all_goals go_roundw
                        case rel => exact ⟨j + 1, by omega, by go_num, HBJ.out.alloc hwj _⟩
                        case measure => simp [intOf]; omega
                        case rel => exact ⟨j + 1, by omega, by go_num, HBJ.out.alloc hwj _⟩
                        case measure => simp [intOf]; omega
                  · go_wp2_with fail
                    go_roundw
                    case rel => exact ⟨q + 1, by omega, by go_num, HBX.out.trans (hbj.mono HBX.out.size)⟩
                    case measure => simp [intOf]; omega
            · go_wp2_with fail
              exact bodyPost_ret (v := .bool true) (by simp [results, Tryz.results9, go_sem]) rfl ⟨rfl, HB4.out.trans (hbx.mono HB4.out.size)⟩
    · have hR := HNO.out he
      subst hR
      have heb : (er == 0) = false := by simpa using he
      go_wp2_with fail
      exact bodyPost_ret (v := .bool true) (by simp [results, Tryz.results9, go_sem]) rfl ⟨rfl, hb4⟩
end Go.Proofs.YtjopmgoacncmgaaGreatDoor
namespace Go.Proofs.YtjopmgoacncmgaaGreatDoor.rulesLayered
open Go.ChangeShapes Go.WideShapes Go.ChangeAt Go.RowKit
open Go.ChangeMaps (open_string shut_string)

theorem own : ownKnob Tryz.prog.godebug = none := by kernel_rfl
theorem laidOut : laidOutB Tryz.prog = true := by kernel_rfl

set_option maxRecDepth 100000 in
theorem lifted (os : Os) (started : os.Started) (H : Type) (enc : TypeId × Value → H) :
    ReturnsInHanded {} Tryz.checked os 9 .any (fun w args => (Rows.rulesLayeredSpec.pre enc Tryz.prog Tryz.f9 [] false w args ∧ laidMetH Tryz.prog laidL w) ∧ sizedMet enc Tryz.prog Tryz.f9 (OpenSpec.ofChange Rows.rulesLayeredSpec) false w args)
      (Rows.rulesLayeredSpec.post enc Tryz.prog Tryz.f9 false true false false) := by
  refine handed (C := Tryz.checked) (X := fun w _ => laidMetH Tryz.prog laidL w) (fun _ _ _ hh h => h.of_heap hh) own started (by kernel_rfl) Tryz.func9
    (ChangeSpec.witness_shaped (enc := enc) (C := Tryz.checked) (os := os) (X := fun w _ => laidMetH Tryz.prog laidL w) false (World.laidAll Tryz.prog os laidL) #[.slice none 0 0] 8 (World.laidAll_os _ _ _)
      (World.shaped_of_ZipB (by kernel_rfl) (by kernel_rfl)) (by kernel_rfl) (by kernel_rfl) (by kernel_rfl)
      (by rw [MakeChecks.laidMetH_plain _ _ _ (by kernel_rfl)]; exact laidMet_laidAll _ (by kernel_rfl) (by kernel_rfl))) ?_
  intro W base args ds gs before hval0 hW hlaid hshape
  have hLD := ld_of hlaid hshape
  have hval : ∀ (j : Nat) t v, Tryz.f9.params[j]? = some t → args[j]? = some v → Value.okWide Tryz.prog W .any base t v := hval0
  have hW' := hW
  obtain ⟨p, q, hA0, hV, rfl, hfz, hnd⟩ := hW
  have hA : DataW.TrodAll enc Tryz.prog W 0 (fun _ => true) true Tryz.f9.params.toList args.toList ds p := hA0
  rw [Tryz.params9] at hA hval
  obtain ⟨v0, vs0, d0, ds0, p0, q0, hargs, rfl, rfl, h0, r0⟩ := trodAll_cons hA
  obtain ⟨rfl, rfl, rfl⟩ := trodAll_nil r0
  obtain rfl : args = #[v0] := by cases args; simp_all
  obtain ⟨rfl, rfl⟩ := trodVars_none hV
  obtain ⟨a0, n0, c0, rfl⟩ := okWide_slice Tryz.underlying23 (hval 0 23 v0 rfl rfl)
  have k0 := h0
  have lt0 : ∀ x ∈ p0, x.block < W.heap.size := by obtain ⟨m, hm⟩ := k0; exact DataW.trod_lt m _ _ _ hm
  obtain ⟨l0, s0, f0⟩ := openRules h0
  clear hA0 hval0
  have hw := rulesLayered_walk W a0 n0 c0 l0 s0 f0 hLD
  refine hw.mono fun e W' ⟨he, bel⟩ => ?_
  subst he
  exact ⟨_, rfl, _, _, _, [], _, [], hW', trodAll_mk1 (shut_bool Tryz.underlying4 _), (trodAll_cons_mk (Below.trod laidOut (by kernel_rfl) (of_decide_eq_true (by kernel_rfl)) k0 bel lt0) trodAll_mk0), rfl, bel.frame _, fun h => by cases h⟩

theorem over : Rows.rulesLayeredRow.holds Tryz.pinned (OpenSpec.ofChange Rows.rulesLayeredSpec) :=
  OpenClaim.holds_of_wide 9 Tryz.f9 rfl rfl rfl rfl rfl rfl rfl ⟨rfl, rfl, rfl, rfl, rfl⟩ rfl rfl rfl rfl rfl (by kernel_rfl) Tryz.func9 (by kernel_rfl)
    (of_decide_eq_true (by kernel_rfl)) (by unfold Func.isWrapper; first | (rw [if_pos (by decide +kernel)]; kernel_rfl) | (rw [if_neg (by decide +kernel)]; exact ⟨rfl, rfl⟩))
    (fun os started H enc _ => lifted os started H enc)

theorem proved : Rows.RulesLayeredCardSaid :=
  Claim7.holds_tied_plain_at .later [] [.data, .data, .data, .data, .sentinel, .sentinel, .listed, .data, .pinned] true _ _ over (fun _ h => by cases h) (by kernel_rfl) (fun _ h => by cases h) rulesLayered_row_tie rfl ⟨rfl, rfl⟩ (by kernel_rfl) rfl
    (fun f fn hf hfn => by
      obtain rfl : f = 9 := Option.some.inj ((show Tryz.prog.funcNamed "licit/licitlaw53.RulesLayered" = some 9 by kernel_rfl).symm.trans hf) |>.symm
      obtain rfl : fn = Tryz.f9 := (Option.some.inj (Tryz.func9.symm.trans hfn)).symm
      exact ⟨by kernel_rfl, fun j t ht => by
        rw [Tryz.params9] at ht
        have hm : t ∈ [23] := by simpa using Array.mem_of_getElem? ht
        have hall : ([23].all fun u => !Tryz.prog.wantsStandIn u) = true := by kernel_rfl
        exact (show Tryz.prog.wantsStandIn t = false by simpa using List.all_eq_true.1 hall t hm)⟩)
    (by kernel_rfl)
#print axioms proved
end Go.Proofs.YtjopmgoacncmgaaGreatDoor.rulesLayered
