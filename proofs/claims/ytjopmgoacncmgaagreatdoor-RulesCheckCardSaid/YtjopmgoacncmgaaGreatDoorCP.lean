/- RulesCheck: the law answers true, whatever the input, and writes nothing that was there. Conditions: none beyond the given statement's (the listed package-level variables start as the program's text lays them; the card ties them, over a pruned copy of the project). -/
import Derived.Test.YtjopmgoacncmgaaGreatDoorKL4
import Derived.Test.YtjopmgoacncmgaaGreatDoorKW10
import Derived.Test.YtjopmgoacncmgaaGreatDoorKO
import Derived.Test.YtjopmgoacncmgaaGreatDoorKFr
import Derived.Test.YtjopmgoacncmgaaGreatDoorTie
import Derived.Test.YtjopmgoacncmgaaGreatDoorCards
import Derived.ProofKit
import Derived.OpenShut
import Derived.ShutString
import Derived.ChangeOld
import Derived.Below
import Derived.Lay
import Derived.Handy
import Derived.SevenTiedAt
set_option linter.unusedVariables false
set_option linter.unusedSimpArgs false
namespace Go.Proofs.YtjopmgoacncmgaaGreatDoor
open Go.RowKit

set_option maxHeartbeats 1000000 in
theorem cpO_any (A : Option Addr) (n c : Nat) (l : List Rul) (w : World) (S : Nat → Prop) (hl : Sl w S A n c l) (hlen : l.length ≤ 1000) :
    Calls Tryz.prog 18 #[.slice A n c] w fun e w' => ∃ A' c', e = .returned (.slice A' l.length c') ∧ Own w' (fun _ => True) w.heap.size 48 A' c' l ∧ Below w.heap.size w w' := by
  have hn := hl.len
  subst hn
  have hle := hl.le
  have HL := Lib.hid hl; clear hl
  go_enter Tryz.func18, Tryz.ntmps18
  go_wp2_with (at_builtin; refine wpList_appN (e := 48) (T := fun _ => True) (base := w.heap.size) (xs := ([] : List Rul)) rfl (.tmp 3) (.tmp 4) eltRul rfl (by decide) rfl rfl rfl (Own.emp (blkAt _ _ rfl) (Nat.le_refl _)) rfl ((HL.out.wide (fun k hk1 hk => ⟨trivial, fun e => by injection e with e; exact absurd e (by have := hk1; simp only; omega)⟩) (by decide)).alloc _) (by simp; omega) (by simp; omega) (by simp) ?_; intro A' c' w2 hown' hg hat)
  go_ret
  refine ⟨A', c', by simp, by simpa using hown', boxed.grown hg (by simp) (fun k hk => by have hk : some w.heap.size = some k := hk; injection hk with hk; omega)⟩

set_option maxRecDepth 100000 in
set_option maxHeartbeats 4000000 in
theorem rulesCheck_walk (w : World) (A : Option Addr) (n c : Nat) (l : List Rul) (hl : Sl w (fun _ => True) A n c l) (ho : ∀ r ∈ l, OkR r) (x : Int) (hx0 : 0 ≤ x) (hx1 : x ≤ 255) (hL : LD w) :
    Calls Tryz.prog 6 #[.slice A n c, .int .u8 x] w fun e w' => e = .returned (.bool true) ∧ Below w.heap.size w w' := by
  have hn := hl.len
  subst hn
  have hle := hl.le
  have HL := Lib.hid hL; have HS := Lib.hid (hl.wide (S' := fun b => b < w.heap.size) (fun k hk _ => hk) (by decide)); have HO := Lib.hid ho
  clear hL hl ho
  go_enter Tryz.func6, Tryz.ntmps6
  go_wp2_with fail
  refine (awake_any _ HL.out).mono ?_
  rintro e w1 ⟨rfl, b1⟩
  go_wp2_with fail
  refine (few_any A l.length c l 8 w1 _ (HS.out.below b1) HO.out).mono ?_
  rintro e w2 ⟨rfl, b2⟩
  have hb2 : Below w.heap.size w w2 := b1.trans (b2.mono b1.size)
  clear b1 b2
  cases hf : fewS l 8 with
  | false =>
    go_wp2_with fail
    refine (awake_any _ (HL.out.below hb2)).mono ?_
    rintro e w3 ⟨rfl, b3⟩
    go_wp2_with fail
    exact bodyPost_ret (v := .bool true) (by simp [results, Tryz.results6, go_sem]) rfl ⟨rfl, hb2.trans (b3.mono hb2.size)⟩
  | true =>
    have hlen : l.length ≤ 8 := by
      simp only [fewS, Bool.and_eq_true, decide_eq_true_eq] at hf
      omega
    clear hf
    go_wp2_with fail
    refine (cpO_any A l.length c l w2 _ (HS.out.below hb2) (by omega)).mono ?_
    rintro e w3 ⟨A3, c3, rfl, s3, b3⟩
    have hb3 : Below w.heap.size w w3 := hb2.trans (b3.mono hb2.size)
    have b3s := b3.size
    have S3 := Lib.hid s3; have HB3 := Lib.hid hb3
    have hw2 := hb2.size
    have hq1 : x.tmod 10 = x % 10 := Int.tmod_eq_emod_of_nonneg hx0
    obtain ⟨m, hm⟩ : ∃ m : Nat, (m : Int) = x % 10 := ⟨(x % 10).toNat, by omega⟩
    rw [← hm] at hq1
    have hm9 : m ≤ 9 := by omega
    have hq2 : IntKind.u8.wrap (m : Int) = (m : Int) := by simp [IntKind.wrap, IntKind.signed, IntKind.bits]; omega
    clear hb2 b3 s3 hb3
    go_wp2_with fail
    go_loopw [5, 22] (fun mv i wx => ∃ k : Nat, k ≤ m ∧ i = .int .u8 k ∧ ∃ (ms : List Rul) (B : Option Addr) (d : Nat), mv = .slice B ms.length d ∧ Own wx (fun _ => True) w2.heap.size 48 B d ms ∧ ms.length ≤ 8 * (k + 1) ∧ Below w.heap.size w wx ∧ w2.heap.size ≤ wx.heap.size ∧ Hid (∀ r ∈ ms, OkR r)) (fun _ i _ => m - (intOf i).toNat)
    case atStart => exact ⟨0, by omega, rfl, l, A3, c3, rfl, S3.out, by omega, HB3.out, b3s, HO⟩
    case round =>
      obtain ⟨k, hk, rfl, ms, B, d, rfl, hown, hml, hb, hsz, hok⟩ := hrel
      have hwr := hb.size
      have HOW := Lib.hid hown; have HB := Lib.hid hb
      clear hown hb
      by_cases hlt : k < m
      · have hkI : (k : Int) < (m : Int) := by omega
        have hq3 : IntKind.u8.wrap ((k : Int) + 1) = (k : Int) + 1 := by simp [IntKind.wrap, IntKind.signed, IntKind.bits]; omega
        go_wp2_with (at_builtin; refine wpList_appN (T := fun _ => True) (base := w2.heap.size) (xs := ms) (ys := l) rfl _ _ eltRul rfl (by decide) rfl rfl rfl HOW.out rfl ((HS.out.below HB.out).wide (fun z _ hz => ⟨trivial, fun e => by have := (HOW.out.lt z e).1; omega⟩) (by decide)) (by omega) (by omega) (by omega) ?_; intro A' c' w6 hown' hg6 hat6)
        have hs6 := hg6.size
        go_roundw
        case rel => exact ⟨k + 1, by omega, by go_num, ms ++ l, A', c', by simp, hown', by simp; omega, HB.out.grown hg6 (by omega) (fun z hz => by have := (HOW.out.lt z hz).1; omega), by omega, Lib.hid (fun r hr => (List.mem_append.1 hr).elim (hok.out r) (HO.out r))⟩
        case measure => simp [intOf]; omega
      · have hkI : ¬ (k : Int) < (m : Int) := by omega
        have hck := fun A c w S hs hL => Check_any A ms.length c ms w S hs hok.out hL
        have hrc := fun A c w S hs => rcheck_any A ms.length c ms w S hs hok.out
        rw [← check_eq] at hrc
        generalize checkS53 ms = ck at *
        obtain ⟨i, er⟩ := ck
        have HCK := Lib.hid hck; have HRC := Lib.hid hrc
        have SM := Lib.hid (HOW.out.sl (by decide))
        clear hck hrc
        go_wp2_with fail
        refine (cp_any B ms.length d ms wr _ SM.out (by omega)).mono ?_
        rintro e w6 ⟨A6, c6, rfl, s6, b6⟩
        have hb6 : Below w.heap.size w w6 := HB.out.trans (b6.mono hwr)
        go_wp2_with fail
        refine (HCK.out A6 c6 w6 _ s6 (HL.out.below hb6)).mono ?_
        rintro e w7 ⟨rfl, b7⟩
        have b67 := b6.trans (b7.mono b6.size)
        clear s6
        go_wp2_with fail
        refine (HRC.out B d w7 _ (SM.out.below b67)).mono ?_
        rintro e w8 ⟨rfl, b8⟩
        go_wp2_with fail
        exact bodyPost_ret (v := .bool true) (by simp [results, Tryz.results6, go_sem]) rfl ⟨rfl, HB.out.trans ((b67.trans (b8.mono b67.size)).mono hwr)⟩
end Go.Proofs.YtjopmgoacncmgaaGreatDoor
namespace Go.Proofs.YtjopmgoacncmgaaGreatDoor.rulesCheck
open Go.ChangeShapes Go.WideShapes Go.ChangeAt Go.RowKit
open Go.ChangeMaps (open_string shut_string)

theorem own : ownKnob Tryz.prog.godebug = none := by kernel_rfl
theorem laidOut : laidOutB Tryz.prog = true := by kernel_rfl

set_option maxRecDepth 100000 in
theorem lifted (os : Os) (started : os.Started) (H : Type) (enc : TypeId × Value → H) :
    ReturnsInHanded {} Tryz.checked os 6 .any (fun w args => (Rows.rulesCheckSpec.pre enc Tryz.prog Tryz.f6 [] false w args ∧ laidMetH Tryz.prog laidL w) ∧ sizedMet enc Tryz.prog Tryz.f6 (OpenSpec.ofChange Rows.rulesCheckSpec) false w args)
      (Rows.rulesCheckSpec.post enc Tryz.prog Tryz.f6 false true false false) := by
  refine handed (C := Tryz.checked) (X := fun w _ => laidMetH Tryz.prog laidL w) (fun _ _ _ hh h => h.of_heap hh) own started (by kernel_rfl) Tryz.func6
    (ChangeSpec.witness_shaped (enc := enc) (C := Tryz.checked) (os := os) (X := fun w _ => laidMetH Tryz.prog laidL w) false (World.laidAll Tryz.prog os laidL) #[.slice none 0 0, .int .u8 0] 8 (World.laidAll_os _ _ _)
      (World.shaped_of_ZipB (by kernel_rfl) (by kernel_rfl)) (by kernel_rfl) (by kernel_rfl) (by kernel_rfl)
      (by rw [MakeChecks.laidMetH_plain _ _ _ (by kernel_rfl)]; exact laidMet_laidAll _ (by kernel_rfl) (by kernel_rfl))) ?_
  intro W base args ds gs before hval0 hW hlaid hshape
  have hLD := ld_of hlaid hshape
  have hval : ∀ (j : Nat) t v, Tryz.f6.params[j]? = some t → args[j]? = some v → Value.okWide Tryz.prog W .any base t v := hval0
  have hW' := hW
  obtain ⟨p, q, hA0, hV, rfl, hfz, hnd⟩ := hW
  have hA : DataW.TrodAll enc Tryz.prog W 0 (fun _ => true) true Tryz.f6.params.toList args.toList ds p := hA0
  rw [Tryz.params6] at hA hval
  obtain ⟨v0, vs0, d0, ds0, p0, q0, hargs, rfl, rfl, h0, r0⟩ := trodAll_cons hA
  obtain ⟨v1, vs1, d1, ds1, p1, q1, rfl, rfl, rfl, h1, r1⟩ := trodAll_cons r0
  obtain ⟨rfl, rfl, rfl⟩ := trodAll_nil r1
  obtain rfl : args = #[v0, v1] := by cases args; simp_all
  obtain ⟨rfl, rfl⟩ := trodVars_none hV
  obtain ⟨a0, n0, c0, rfl⟩ := okWide_slice Tryz.underlying23 (hval 0 23 v0 rfl rfl)
  have k0 := h0
  have lt0 : ∀ x ∈ p0, x.block < W.heap.size := by obtain ⟨m, hm⟩ := k0; exact DataW.trod_lt m _ _ _ hm
  obtain ⟨l0, s0, f0⟩ := openRules h0
  obtain ⟨a1, rfl, rfl, rfl, w1⟩ := open_int Tryz.underlying5 (hval 1 5 v1 rfl rfl) h1
  have l1 : 0 ≤ a1 ∧ a1 ≤ 255 := by simpa [Lit.wf, IntKind.min, IntKind.max, IntKind.signed, IntKind.bits] using w1
  clear hA0 hval0
  have hw := rulesCheck_walk W a0 n0 c0 l0 s0 f0 a1 l1.1 l1.2 hLD
  refine hw.mono fun e W' ⟨he, bel⟩ => ?_
  subst he
  exact ⟨_, rfl, _, _, _, [], _, [], hW', trodAll_mk1 (shut_bool Tryz.underlying4 _), (trodAll_cons_mk (Below.trod laidOut (by kernel_rfl) (of_decide_eq_true (by kernel_rfl)) k0 bel lt0) (trodAll_cons_mk (shut_int Tryz.underlying5 w1) trodAll_mk0)), rfl, bel.frame _, fun h => by cases h⟩

theorem over : Rows.rulesCheckRow.holds Tryz.pinned (OpenSpec.ofChange Rows.rulesCheckSpec) :=
  OpenClaim.holds_of_wide 6 Tryz.f6 rfl rfl rfl rfl rfl rfl rfl ⟨rfl, rfl, rfl, rfl, rfl⟩ rfl rfl rfl rfl rfl (by kernel_rfl) Tryz.func6 (by kernel_rfl)
    (of_decide_eq_true (by kernel_rfl)) (by unfold Func.isWrapper; first | (rw [if_pos (by decide +kernel)]; kernel_rfl) | (rw [if_neg (by decide +kernel)]; exact ⟨rfl, rfl⟩))
    (fun os started H enc _ => lifted os started H enc)

theorem proved : Rows.RulesCheckCardSaid :=
  Claim7.holds_tied_plain_at .later [] [.data, .data, .data, .data, .sentinel, .sentinel, .listed, .data, .pinned] true _ _ over (fun _ h => by cases h) (by kernel_rfl) (fun _ h => by cases h) rulesCheck_row_tie rfl ⟨rfl, rfl⟩ (by kernel_rfl) rfl
    (fun f fn hf hfn => by
      obtain rfl : f = 6 := Option.some.inj ((show Tryz.prog.funcNamed "licit/licitlaw53.RulesCheck" = some 6 by kernel_rfl).symm.trans hf) |>.symm
      obtain rfl : fn = Tryz.f6 := (Option.some.inj (Tryz.func6.symm.trans hfn)).symm
      exact ⟨by kernel_rfl, fun j t ht => by
        rw [Tryz.params6] at ht
        have hm : t ∈ [23, 5] := by simpa using Array.mem_of_getElem? ht
        have hall : ([23, 5].all fun u => !Tryz.prog.wantsStandIn u) = true := by kernel_rfl
        exact (show Tryz.prog.wantsStandIn t = false by simpa using List.all_eq_true.1 hall t hm)⟩)
    (by kernel_rfl)
#print axioms proved
end Go.Proofs.YtjopmgoacncmgaaGreatDoor.rulesCheck
