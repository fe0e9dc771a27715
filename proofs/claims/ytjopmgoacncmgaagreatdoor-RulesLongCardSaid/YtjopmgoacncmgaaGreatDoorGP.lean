/- RulesLong: the law answers true, whatever the input, and writes nothing that was there. Conditions: none beyond the given statement's (the listed package-level variables start as the program's text lays them; the card ties them, over a pruned copy of the project). -/
import Derived.Test.YtjopmgoacncmgaaGreatDoorKL4
import Derived.Test.YtjopmgoacncmgaaGreatDoorKV2
import Derived.Test.YtjopmgoacncmgaaGreatDoorKX13
import Derived.Test.YtjopmgoacncmgaaGreatDoorKQ1
import Derived.Test.YtjopmgoacncmgaaGreatDoorKO
import Derived.Test.YtjopmgoacncmgaaGreatDoorKFr
import Derived.Test.YtjopmgoacncmgaaGreatDoorTie
import Derived.Test.YtjopmgoacncmgaaGreatDoorCards
import Derived.ProofKit
import Derived.OpenShut
import Derived.ShutString
import Derived.ChangeOld
import Derived.Below
import Derived.Lay
import Derived.Handy
import Derived.SevenTiedAt
set_option linter.unusedVariables false
set_option linter.unusedSimpArgs false
namespace Go.Proofs.YtjopmgoacncmgaaGreatDoor
open Go.RowKit

set_option maxRecDepth 100000 in
set_option maxHeartbeats 4000000 in
theorem rulesLong_walk (w : World) (s : Bs) (hs : s.length ≤ 9223372036854775807) (x : Int) (hx0 : 0 ≤ x) (hx1 : x ≤ 255) (t : Bs) (ht : t.length ≤ 9223372036854775807) (hL : LD w) :
    Calls Tryz.prog 4 #[.string ⟨s.toArray⟩, .int .u8 x, .string ⟨t.toArray⟩] w fun e w' => e = .returned (.bool true) ∧ Below w.heap.size w w' := by
  have HL := Lib.hid hL
  clear hL
  obtain ⟨m, rfl⟩ := Int.eq_ofNat_of_zero_le hx0
  by_cases hg : s.length ≤ 900 ∧ m ≤ 80 ∧ t.length ≤ 100
  · obtain ⟨g1, g2, g3⟩ := hg
    have i1 : ¬ (900 : Int) < (s.length : Int) := by omega
    have i2 : ¬ (80 : Int) < (m : Int) := by omega
    have i3 : ¬ (100 : Int) < (t.length : Int) := by omega
    go_enter Tryz.func4, Tryz.ntmps4
    go_wp2_with fail
    refine (awake_any _ HL.out).mono ?_
    rintro e w1 ⟨rfl, b1⟩
    have HL1 := Lib.hid (HL.out.below b1)
    go_wp2_with fail
    go_loop [7, 32] (fun tv i => ∃ k : Nat, k ≤ m ∧ i = .int .u8 k ∧ ∃ u : Bs, tv = .string ⟨u.toArray⟩ ∧ u.length ≤ 900 * k) (fun _ i => m - (intOf i).toNat)
    case atStart => exact ⟨0, by omega, rfl, [], rfl, by simp⟩
    case round =>
      obtain ⟨k, hk, rfl, u, rfl, hu⟩ := hrel
      by_cases hlt : k < m
      · have hq3 : IntKind.u8.wrap ((k : Int) + 1) = (k : Int) + 1 := by simp [IntKind.wrap, IntKind.signed, IntKind.bits]; omega
        have q1 : ¬ (9223372036854775807 < u.length + s.length) := by omega
        go_wp2_with fail
        go_round
        case rel => exact ⟨k + 1, by omega, by go_num, u ++ s, by simp, by simp; omega⟩
        case measure => simp [intOf]; omega
      · have q1 : ¬ (9223372036854775807 < u.length + t.length) := by omega
        have hlen : (u ++ t).length ≤ 9223372036854775807 := by rw [List.length_append]; omega
        have hp := fun w hL => Parse_any (u ++ t) w hL hlen
        have hr := fun w => rParse_any (u ++ t) w hlen
        rw [← parse_eq] at hr
        generalize parseS (u ++ t) = R at *
        obtain ⟨l, n, er⟩ := R
        have HP := Lib.hid hp; have HR := Lib.hid hr; clear hp hr
        go_wp2_with fail
        refine (HP.out _ HL1.out).mono ?_
        rintro e w2 ⟨A2, k2, rfl, s2, b2, -⟩
        have hb2 : Below w.heap.size w w2 := b1.trans (b2.mono b1.size)
        simp only at s2
        have S2 := Lib.hid (s2.wide (S' := fun b => b < w2.heap.size) (fun k hk _ => hk) (by decide))
        clear b1 b2 s2
        go_wp2_with fail
        refine (HR.out w2).mono ?_
        rintro e w3 ⟨A3, k3, rfl, s3, b3, -⟩
        simp only at s3
        have S2' := Lib.hid (S2.out.below b3)
        have S3 := Lib.hid s3
        have HB3 := Lib.hid (hb2.trans (b3.mono hb2.size))
        clear b3 s3 hb2
        go_wp2_with fail
        refine (same_any A2 l.length k2 l A3 l.length k3 l w3 _ _ S2'.out S3.out).mono ?_
        rintro e w7 ⟨rfl, b7⟩
        rw [decide_eq_true rfl]
        go_wp2_with fail
        exact bodyPost_ret (v := .bool true) (by simp [results, Tryz.results4, go_sem]) rfl ⟨rfl, HB3.out.trans (b7.mono HB3.out.size)⟩
  · have hc : (900 : Int) < (s.length : Int) ∨ ((¬ (900 : Int) < (s.length : Int)) ∧ (80 : Int) < (m : Int)) ∨ ((¬ (900 : Int) < (s.length : Int)) ∧ (¬ (80 : Int) < (m : Int)) ∧ (100 : Int) < (t.length : Int)) := by omega
    rcases hc with i1 | ⟨i1, i2⟩ | ⟨i1, i2, i3⟩
    all_goals
      go_enter Tryz.func4, Tryz.ntmps4
      go_wp2_with fail
      refine (awake_any _ HL.out).mono ?_
      rintro e w1 ⟨rfl, b1⟩
      go_wp2_with fail
      refine (awake_any _ (HL.out.below b1)).mono ?_
      rintro e w3 ⟨rfl, b3⟩
      go_wp2_with fail
      exact bodyPost_ret (v := .bool true) (by simp [results, Tryz.results4, go_sem]) rfl ⟨rfl, b1.trans (b3.mono b1.size)⟩
end Go.Proofs.YtjopmgoacncmgaaGreatDoor
namespace Go.Proofs.YtjopmgoacncmgaaGreatDoor.rulesLong
open Go.ChangeShapes Go.WideShapes Go.ChangeAt Go.RowKit
open Go.ChangeMaps (open_string shut_string)

theorem own : ownKnob Tryz.prog.godebug = none := by kernel_rfl
theorem laidOut : laidOutB Tryz.prog = true := by kernel_rfl

set_option maxRecDepth 100000 in
theorem lifted (os : Os) (started : os.Started) (H : Type) (enc : TypeId × Value → H) :
    ReturnsInHanded {} Tryz.checked os 4 .any (fun w args => (Rows.rulesLongSpec.pre enc Tryz.prog Tryz.f4 [] false w args ∧ laidMetH Tryz.prog laidL w) ∧ sizedMet enc Tryz.prog Tryz.f4 (OpenSpec.ofChange Rows.rulesLongSpec) false w args)
      (Rows.rulesLongSpec.post enc Tryz.prog Tryz.f4 false true false false) := by
  refine handed (C := Tryz.checked) (X := fun w _ => laidMetH Tryz.prog laidL w) (fun _ _ _ hh h => h.of_heap hh) own started (by kernel_rfl) Tryz.func4
    (ChangeSpec.witness_shaped (enc := enc) (C := Tryz.checked) (os := os) (X := fun w _ => laidMetH Tryz.prog laidL w) false (World.laidAll Tryz.prog os laidL) #[.string ByteArray.empty, .int .u8 0, .string ByteArray.empty] 8 (World.laidAll_os _ _ _)
      (World.shaped_of_ZipB (by kernel_rfl) (by kernel_rfl)) (by kernel_rfl) (by kernel_rfl) (by kernel_rfl)
      (by rw [MakeChecks.laidMetH_plain _ _ _ (by kernel_rfl)]; exact laidMet_laidAll _ (by kernel_rfl) (by kernel_rfl))) ?_
  intro W base args ds gs before hval0 hW hlaid hshape
  have hLD := ld_of hlaid hshape
  have hval : ∀ (j : Nat) t v, Tryz.f4.params[j]? = some t → args[j]? = some v → Value.okWide Tryz.prog W .any base t v := hval0
  have hW' := hW
  obtain ⟨p, q, hA0, hV, rfl, hfz, hnd⟩ := hW
  have hA : DataW.TrodAll enc Tryz.prog W 0 (fun _ => true) true Tryz.f4.params.toList args.toList ds p := hA0
  rw [Tryz.params4] at hA hval
  obtain ⟨v0, vs0, d0, ds0, p0, q0, hargs, rfl, rfl, h0, r0⟩ := trodAll_cons hA
  obtain ⟨v1, vs1, d1, ds1, p1, q1, rfl, rfl, rfl, h1, r1⟩ := trodAll_cons r0
  obtain ⟨v2, vs2, d2, ds2, p2, q2, rfl, rfl, rfl, h2, r2⟩ := trodAll_cons r1
  obtain ⟨rfl, rfl, rfl⟩ := trodAll_nil r2
  obtain rfl : args = #[v0, v1, v2] := by cases args; simp_all
  obtain ⟨rfl, rfl⟩ := trodVars_none hV
  obtain ⟨a0, rfl, rfl, rfl, w0⟩ := open_string Tryz.underlying9 (hval 0 9 v0 rfl rfl) h0
  have e0 : a0 = ⟨a0.data.toList.toArray⟩ := by cases a0; simp
  have l0 : a0.data.toList.length ≤ 9223372036854775807 := by simpa [maxLen] using w0
  obtain ⟨a1, rfl, rfl, rfl, w1⟩ := open_int Tryz.underlying5 (hval 1 5 v1 rfl rfl) h1
  have l1 : 0 ≤ a1 ∧ a1 ≤ 255 := by simpa [Lit.wf, IntKind.min, IntKind.max, IntKind.signed, IntKind.bits] using w1
  obtain ⟨a2, rfl, rfl, rfl, w2⟩ := open_string Tryz.underlying9 (hval 2 9 v2 rfl rfl) h2
  have e2 : a2 = ⟨a2.data.toList.toArray⟩ := by cases a2; simp
  have l2 : a2.data.toList.length ≤ 9223372036854775807 := by simpa [maxLen] using w2
  clear hA0 hval0
  have hw := rulesLong_walk W a0.data.toList l0 a1 l1.1 l1.2 a2.data.toList l2 hLD
  rw [← e0] at hw
  rw [← e2] at hw
  refine hw.mono fun e W' ⟨he, bel⟩ => ?_
  subst he
  exact ⟨_, rfl, _, _, _, [], _, [], hW', trodAll_mk1 (shut_bool Tryz.underlying4 _), (trodAll_cons_mk (shut_string Tryz.underlying9 w0) (trodAll_cons_mk (shut_int Tryz.underlying5 w1) (trodAll_cons_mk (shut_string Tryz.underlying9 w2) trodAll_mk0))), rfl, bel.frame _, fun h => by cases h⟩

theorem over : Rows.rulesLongRow.holds Tryz.pinned (OpenSpec.ofChange Rows.rulesLongSpec) :=
  OpenClaim.holds_of_wide 4 Tryz.f4 rfl rfl rfl rfl rfl rfl rfl ⟨rfl, rfl, rfl, rfl, rfl⟩ rfl rfl rfl rfl rfl (by kernel_rfl) Tryz.func4 (by kernel_rfl)
    (of_decide_eq_true (by kernel_rfl)) (by unfold Func.isWrapper; first | (rw [if_pos (by decide +kernel)]; kernel_rfl) | (rw [if_neg (by decide +kernel)]; exact ⟨rfl, rfl⟩))
    (fun os started H enc _ => lifted os started H enc)

theorem proved : Rows.RulesLongCardSaid :=
  Claim7.holds_tied_plain_at .later [] [.data, .data, .data, .data, .sentinel, .sentinel, .listed, .data, .pinned] true _ _ over (fun _ h => by cases h) (by kernel_rfl) (fun _ h => by cases h) rulesLong_row_tie rfl ⟨rfl, rfl⟩ (by kernel_rfl) rfl
    (fun f fn hf hfn => by
      obtain rfl : f = 4 := Option.some.inj ((show Tryz.prog.funcNamed "licit/licitlaw53.RulesLong" = some 4 by kernel_rfl).symm.trans hf) |>.symm
      obtain rfl : fn = Tryz.f4 := (Option.some.inj (Tryz.func4.symm.trans hfn)).symm
      exact ⟨by kernel_rfl, fun j t ht => by
        rw [Tryz.params4] at ht
        have hm : t ∈ [9, 5, 9] := by simpa using Array.mem_of_getElem? ht
        have hall : ([9, 5, 9].all fun u => !Tryz.prog.wantsStandIn u) = true := by kernel_rfl
        exact (show Tryz.prog.wantsStandIn t = false by simpa using List.all_eq_true.1 hall t hm)⟩)
    (by kernel_rfl)
#print axioms proved
end Go.Proofs.YtjopmgoacncmgaaGreatDoor.rulesLong
