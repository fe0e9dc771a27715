/- RulesPrint: the law answers true, whatever the input, and writes nothing that was there. Conditions: none beyond the given statement's (the listed package-level variables start as the program's text lays them; the card ties them, over a pruned copy of the project). -/
import Derived.Test.YtjopmgoacncmgaaGreatDoorKL4
import Derived.Test.YtjopmgoacncmgaaGreatDoorKV2
import Derived.Test.YtjopmgoacncmgaaGreatDoorKV3
import Derived.Test.YtjopmgoacncmgaaGreatDoorKR2
import Derived.Test.YtjopmgoacncmgaaGreatDoorKQ1
import Derived.Test.YtjopmgoacncmgaaGreatDoorKO
import Derived.Test.YtjopmgoacncmgaaGreatDoorKFr
import Derived.Test.YtjopmgoacncmgaaGreatDoorTie
import Derived.Test.YtjopmgoacncmgaaGreatDoorCards
import Derived.ProofKit
import Derived.OpenShut
import Derived.ShutString
import Derived.ChangeOld
import Derived.Below
import Derived.Lay
import Derived.Handy
import Derived.SevenTiedAt
set_option linter.unusedVariables false
set_option linter.unusedSimpArgs false
namespace Go.Proofs.YtjopmgoacncmgaaGreatDoor
open Go.RowKit

set_option maxRecDepth 100000 in
set_option maxHeartbeats 4000000 in
theorem rulesPrint_walk (w : World) (A : Option Addr) (n c : Nat) (l : List Rul) (hl : Sl w (fun _ => True) A n c l) (ho : ∀ r ∈ l, OkR r) (hL : LD w) :
    Calls Tryz.prog 5 #[.slice A n c] w fun e w' => e = .returned (.bool true) ∧ Below w.heap.size w w' := by
  have hn := hl.len
  subst hn
  have hle := hl.le
  have HL := Lib.hid hL; have HS := Lib.hid (hl.wide (S' := fun b => b < w.heap.size) (fun k hk _ => hk) (by decide)); have HO := Lib.hid ho
  clear hL hl ho
  go_enter Tryz.func5, Tryz.ntmps5
  go_wp2_with fail
  refine (awake_any _ HL.out).mono ?_
  rintro e w1 ⟨rfl, b1⟩
  go_wp2_with fail
  refine (few_any A l.length c l 70 w1 _ (HS.out.below b1) HO.out).mono ?_
  rintro e w2 ⟨rfl, b2⟩
  have hb2 : Below w.heap.size w w2 := b1.trans (b2.mono b1.size)
  clear b1 b2
  cases hf : fewS l 70 with
  | false =>
    go_wp2_with fail
    refine (awake_any _ (HL.out.below hb2)).mono ?_
    rintro e w3 ⟨rfl, b3⟩
    go_wp2_with fail
    exact bodyPost_ret (v := .bool true) (by simp [results, Tryz.results5, go_sem]) rfl ⟨rfl, hb2.trans (b3.mono hb2.size)⟩
  | true =>
    have hlen : l.length ≤ 70 := by
      simp only [fewS, Bool.and_eq_true, decide_eq_true_eq] at hf
      omega
    have hpr := fun A c w S hs hL => Print_any A l.length c l w S hs HO.out hL
    have hrp := fun w S hs => rPrint_any A l.length c l w S hs HO.out
    have htr := trip l
    generalize printS l = R at *
    obtain ⟨s, er⟩ := R
    simp only at hpr hrp htr
    have HPR := Lib.hid hpr; have HRP := Lib.hid hrp; have HTR := Lib.hid htr
    clear hf hpr hrp htr
    go_wp2_with fail
    refine (cp_any A l.length c l w2 _ (HS.out.below hb2) (by omega)).mono ?_
    rintro e w3 ⟨A3, c3, rfl, s3, b3⟩
    have hb3 : Below w.heap.size w w3 := hb2.trans (b3.mono hb2.size)
    clear hb2 b3
    go_wp2_with fail
    refine (HPR.out A3 c3 w3 _ s3 (HL.out.below hb3)).mono ?_
    rintro e w4 ⟨rfl, b4⟩
    have hb4 : Below w.heap.size w w4 := hb3.trans (b4.mono hb3.size)
    clear hb3 b4 s3
    go_wp2_with fail
    refine (HRP.out w4 _ (HS.out.below hb4)).mono ?_
    rintro e w5 ⟨rfl, b5⟩
    have hb5 : Below w.heap.size w w5 := hb4.trans (b5.mono hb4.size)
    have HB5 := Lib.hid hb5
    have hw5 := hb5.size
    clear hb4 b5 hb5
    by_cases he : er = 0
    · subst he
      by_cases hsl : s.length ≤ 65536
      · have hsI : ¬ (65536 : Int) < (s.length : Int) := by omega
        have hpa := Parse_any s w5 (HL.out.below HB5.out) (by omega)
        rw [HTR.out rfl hsl] at hpa
        have HPA := Lib.hid hpa; clear hpa
        go_wp2_with fail
        refine (show Calls Tryz.prog 13 _ w5 (PaPost w5 (l, 0, 0)) from HPA.out).mono ?_
        rintro e w6 ⟨A6, k6, rfl, s6, b6, -⟩
        have hb6 := HB5.out.trans (b6.mono hw5)
        simp only at s6
        have S6 := Lib.hid s6; have HB6 := Lib.hid hb6
        clear s6 b6 hb6
        go_wp2_with fail
        refine (same_any A6 l.length k6 l A l.length c l w6 _ _ S6.out (HS.out.below HB6.out)).mono ?_
        rintro e w7 ⟨rfl, b7⟩
        rw [decide_eq_true rfl]
        go_wp2_with fail
        exact bodyPost_ret (v := .bool true) (by simp [results, Tryz.results5, go_sem]) rfl ⟨rfl, HB6.out.trans (b7.mono HB6.out.size)⟩
      · have hsI : (65536 : Int) < (s.length : Int) := by omega
        go_wp2_with fail
        exact bodyPost_ret (v := .bool true) (by simp [results, Tryz.results5, go_sem]) rfl ⟨rfl, HB5.out⟩
    · have heb : (er == 0) = false := by simpa using he
      go_wp2_with fail
      exact bodyPost_ret (v := .bool true) (by simp [results, Tryz.results5, go_sem]) rfl ⟨rfl, HB5.out⟩
end Go.Proofs.YtjopmgoacncmgaaGreatDoor
namespace Go.Proofs.YtjopmgoacncmgaaGreatDoor.rulesPrint
open Go.ChangeShapes Go.WideShapes Go.ChangeAt Go.RowKit
open Go.ChangeMaps (open_string shut_string)

theorem own : ownKnob Tryz.prog.godebug = none := by kernel_rfl
theorem laidOut : laidOutB Tryz.prog = true := by kernel_rfl

set_option maxRecDepth 100000 in
theorem lifted (os : Os) (started : os.Started) (H : Type) (enc : TypeId × Value → H) :
    ReturnsInHanded {} Tryz.checked os 5 .any (fun w args => (Rows.rulesPrintSpec.pre enc Tryz.prog Tryz.f5 [] false w args ∧ laidMetH Tryz.prog laidL w) ∧ sizedMet enc Tryz.prog Tryz.f5 (OpenSpec.ofChange Rows.rulesPrintSpec) false w args)
      (Rows.rulesPrintSpec.post enc Tryz.prog Tryz.f5 false true false false) := by
  refine handed (C := Tryz.checked) (X := fun w _ => laidMetH Tryz.prog laidL w) (fun _ _ _ hh h => h.of_heap hh) own started (by kernel_rfl) Tryz.func5
    (ChangeSpec.witness_shaped (enc := enc) (C := Tryz.checked) (os := os) (X := fun w _ => laidMetH Tryz.prog laidL w) false (World.laidAll Tryz.prog os laidL) #[.slice none 0 0] 8 (World.laidAll_os _ _ _)
      (World.shaped_of_ZipB (by kernel_rfl) (by kernel_rfl)) (by kernel_rfl) (by kernel_rfl) (by kernel_rfl)
      (by rw [MakeChecks.laidMetH_plain _ _ _ (by kernel_rfl)]; exact laidMet_laidAll _ (by kernel_rfl) (by kernel_rfl))) ?_
  intro W base args ds gs before hval0 hW hlaid hshape
  have hLD := ld_of hlaid hshape
  have hval : ∀ (j : Nat) t v, Tryz.f5.params[j]? = some t → args[j]? = some v → Value.okWide Tryz.prog W .any base t v := hval0
  have hW' := hW
  obtain ⟨p, q, hA0, hV, rfl, hfz, hnd⟩ := hW
  have hA : DataW.TrodAll enc Tryz.prog W 0 (fun _ => true) true Tryz.f5.params.toList args.toList ds p := hA0
  rw [Tryz.params5] at hA hval
  obtain ⟨v0, vs0, d0, ds0, p0, q0, hargs, rfl, rfl, h0, r0⟩ := trodAll_cons hA
  obtain ⟨rfl, rfl, rfl⟩ := trodAll_nil r0
  obtain rfl : args = #[v0] := by cases args; simp_all
  obtain ⟨rfl, rfl⟩ := trodVars_none hV
  obtain ⟨a0, n0, c0, rfl⟩ := okWide_slice Tryz.underlying23 (hval 0 23 v0 rfl rfl)
  have k0 := h0
  have lt0 : ∀ x ∈ p0, x.block < W.heap.size := by obtain ⟨m, hm⟩ := k0; exact DataW.trod_lt m _ _ _ hm
  obtain ⟨l0, s0, f0⟩ := openRules h0
  clear hA0 hval0
  have hw := rulesPrint_walk W a0 n0 c0 l0 s0 f0 hLD
  refine hw.mono fun e W' ⟨he, bel⟩ => ?_
  subst he
  exact ⟨_, rfl, _, _, _, [], _, [], hW', trodAll_mk1 (shut_bool Tryz.underlying4 _), (trodAll_cons_mk (Below.trod laidOut (by kernel_rfl) (of_decide_eq_true (by kernel_rfl)) k0 bel lt0) trodAll_mk0), rfl, bel.frame _, fun h => by cases h⟩

theorem over : Rows.rulesPrintRow.holds Tryz.pinned (OpenSpec.ofChange Rows.rulesPrintSpec) :=
  OpenClaim.holds_of_wide 5 Tryz.f5 rfl rfl rfl rfl rfl rfl rfl ⟨rfl, rfl, rfl, rfl, rfl⟩ rfl rfl rfl rfl rfl (by kernel_rfl) Tryz.func5 (by kernel_rfl)
    (of_decide_eq_true (by kernel_rfl)) (by unfold Func.isWrapper; first | (rw [if_pos (by decide +kernel)]; kernel_rfl) | (rw [if_neg (by decide +kernel)]; exact ⟨rfl, rfl⟩))
    (fun os started H enc _ => lifted os started H enc)

theorem proved : Rows.RulesPrintCardSaid :=
  Claim7.holds_tied_plain_at .later [] [.data, .data, .data, .data, .sentinel, .sentinel, .listed, .data, .pinned] true _ _ over (fun _ h => by cases h) (by kernel_rfl) (fun _ h => by cases h) rulesPrint_row_tie rfl ⟨rfl, rfl⟩ (by kernel_rfl) rfl
    (fun f fn hf hfn => by
      obtain rfl : f = 5 := Option.some.inj ((show Tryz.prog.funcNamed "licit/licitlaw53.RulesPrint" = some 5 by kernel_rfl).symm.trans hf) |>.symm
      obtain rfl : fn = Tryz.f5 := (Option.some.inj (Tryz.func5.symm.trans hfn)).symm
      exact ⟨by kernel_rfl, fun j t ht => by
        rw [Tryz.params5] at ht
        have hm : t ∈ [23] := by simpa using Array.mem_of_getElem? ht
        have hall : ([23].all fun u => !Tryz.prog.wantsStandIn u) = true := by kernel_rfl
        exact (show Tryz.prog.wantsStandIn t = false by simpa using List.all_eq_true.1 hall t hm)⟩)
    (by kernel_rfl)
#print axioms proved
end Go.Proofs.YtjopmgoacncmgaaGreatDoor.rulesPrint
