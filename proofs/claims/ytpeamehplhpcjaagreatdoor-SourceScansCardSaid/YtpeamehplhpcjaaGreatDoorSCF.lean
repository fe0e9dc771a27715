/- SourceScans: the law answers true, whatever the input, and writes nothing that was there. Conditions: none beyond the given statement's (the listed package-level variables start as the program's text lays them; the card ties them, over a pruned copy of the project). -/
import Derived.Test.YtpeamehplhpcjaaGreatDoorZ25
import Derived.Test.YtpeamehplhpcjaaGreatDoorZ26
import Derived.Test.YtpeamehplhpcjaaGreatDoorZ39
import Derived.Test.YtpeamehplhpcjaaGreatDoorZ40
import Derived.Test.YtpeamehplhpcjaaGreatDoorTie
import Derived.Test.YtpeamehplhpcjaaGreatDoorCards
import Derived.ProofKit
import Derived.OpenShut
import Derived.ShutString
import Derived.ChangeOld
import Derived.Below
import Derived.Lay
import Derived.Handy
import Derived.SevenTiedAt
set_option linter.unusedVariables false
set_option linter.unusedSimpArgs false
namespace Go.Proofs.YtpeamehplhpcjaaGreatDoor
open Go.RowKit

/-- A unit's block reads. -/
theorem untF {z : World} {b : Nat} {s : ByteArray} {A1 A2 A3 A4 A5 : Option Addr} {n1 n2 n3 n4 n5 c1 c2 c3 c4 c5 : Nat} (h : z.heap[b]? = some (.cells #[.string s, .slice A1 n1 c1, .slice A2 n2 c2, .slice A3 n3 c3, .slice A4 n4 c4, .slice A5 n5 c5] 36 (0, 0))) :
    z.cell? ⟨b, 0, none⟩ = some (.string s) ∧ z.cell? ⟨b, 1, none⟩ = some (.slice A1 n1 c1) ∧ z.cell? ⟨b, 2, none⟩ = some (.slice A2 n2 c2) ∧ z.cell? ⟨b, 3, none⟩ = some (.slice A3 n3 c3) ∧ z.cell? ⟨b, 4, none⟩ = some (.slice A4 n4 c4) ∧ z.cell? ⟨b, 5, none⟩ = some (.slice A5 n5 c5) :=
  ⟨(cell_blk h 0).trans rfl, (cell_blk h 1).trans rfl, (cell_blk h 2).trans rfl, (cell_blk h 3).trans rfl, (cell_blk h 4).trans rfl, (cell_blk h 5).trans rfl⟩
theorem fltF {z : World} {b : Nat} {e k s n : Int} {p : ByteArray} (h : z.heap[b]? = some (.cells #[.int .i64 e, .int .i64 k, .int .i64 s, .string p, .int .i64 n] 40 (0, 0))) :
    z.cell? ⟨b, 0, none⟩ = some (.int .i64 e) ∧ z.cell? ⟨b, 1, none⟩ = some (.int .i64 k) ∧ z.cell? ⟨b, 2, none⟩ = some (.int .i64 s) ∧ z.cell? ⟨b, 3, none⟩ = some (.string p) ∧ z.cell? ⟨b, 4, none⟩ = some (.int .i64 n) :=
  ⟨(cell_blk h 0).trans rfl, (cell_blk h 1).trans rfl, (cell_blk h 2).trans rfl, (cell_blk h 3).trans rfl, (cell_blk h 4).trans rfl⟩
set_option maxRecDepth 100000 in
set_option maxHeartbeats 8000000 in
theorem sourceScans_walk (w : World) (A : Option Addr) (n c : Nat) (t : List Fil) (hl : Sl w (fun _ => True) A n c t) (_ : ∀ r ∈ t, OkF r) (p : Bs) (_ : p.length ≤ 9223372036854775807) (A2 : Option Addr) (n2 c2 : Nat) (fl : List Bs) (hl2 : Sl w (fun _ => True) A2 n2 c2 fl) (_ : ∀ r ∈ fl, OkB r) (hL : LS w) :
    Calls Tryz.prog 4 #[.slice A n c, .string ⟨p.toArray⟩, .slice A2 n2 c2] w fun e w' => e = .returned (.bool true) ∧ Below w.heap.size w w' := by
  have HA := Lib.hid (awake_any w hL)
  have hfw := fun w' h1 h2 => few6_any A A2 n c n2 c2 w' (fun _ => True) (fun _ => True) t fl h1 h2
  have hok := @few6_ok t fl
  generalize few6S t fl = b at *
  have HT := Lib.hid hl; have HT2 := Lib.hid hl2; have HL := Lib.hid hL; have HFW := Lib.hid hfw; have HOK := Lib.hid hok
  clear hl hl2 hL hfw hok
  go_enter Tryz.func4, Tryz.ntmps4
  go_wp2_with fail
  refine HA.out.mono ?_
  rintro e w1 ⟨rfl, hb1⟩
  have HB1 := Lib.hid hb1
  clear hb1 HA
  go_wp2_with fail
  refine (HFW.out w1 (HT.out.below HB1.out) (HT2.out.below HB1.out)).mono ?_
  rintro e w2 ⟨rfl, hb2⟩
  have HB2 := Lib.hid (HB1.out.trans (hb2.mono HB1.out.size))
  clear hb2 HB1 HFW
  cases b with
  | false =>
    go_wp2_with fail
    go_ret
    exact ⟨rfl, HB2.out⟩
  | true =>
    obtain ⟨hfp, hft, hff, hfl⟩ := HOK.out rfl
    by_cases h3 : (300 : Int) < (p.length : Int)
    · go_wp2_with fail
      go_ret
      exact ⟨rfl, HB2.out⟩
    · have hsc := fun w' h1 h2 h3 => scan_any A n c A2 n2 c2 w' (fun _ => True) (fun _ => True) t p fl h1 h2 h3 (fun f hf => by have := hfp f hf; omega) (fun ht f hf => by have := (tree_ok ht f hf).2; omega) (by omega) (fun s hs => by have := hff s hs; omega)
      have hrc := fun w' h1 h2 => rscan_any A n c A2 n2 c2 w' (fun _ => True) (fun _ => True) t p fl h1 h2 (fun f hf => by have := hfp f hf; omega) (by omega) (fun s hs => by have := hff s hs; omega) (by omega)
      simp only [scan_eq] at hrc
      generalize scanS t p fl = R at *
      obtain ⟨u, ⟨fe, fk, fs, ⟨fp, fz⟩⟩⟩ := R
      have HSC := Lib.hid hsc; have HRC := Lib.hid hrc
      clear hsc hrc hfp hft hff hfl HOK
      go_wp2_with fail
      refine (HSC.out w2 (HT.out.below HB2.out) (HT2.out.below HB2.out) (HL.out.below HB2.out)).mono ?_
      rintro e w3 ⟨V, rfl, hV, hb3⟩
      simp only at hV
      obtain ⟨B1, m1, d1, B2, m2, d2, B3, m3, d3, B4, m4, d4, B5, m5, d5, rfl, hV⟩ := hV
      unfold vFlt
      have HB3 := Lib.hid (HB2.out.trans (hb3.mono HB2.out.size))
      clear hb3 HB2 HSC HL
      go_upto_region 6 with fail
      have hbW : Below w3.heap.size w3 ((w3.alloc (.cells #[.string ⟨u.path.toArray⟩, .slice B1 m1 d1, .slice B2 m2 d2, .slice B3 m3 d3, .slice B4 m4 d4, .slice B5 m5 d5] 36)).alloc (.cells #[.int .i64 fe, .int .i64 fk, .int .i64 fs, .string ⟨fp.toArray⟩, .int .i64 fz] 40)) := by ((repeat (first | (with_reducible exact Below.refl _ _) | (with_reducible refine belowA ?_ _) | (with_reducible refine belowD ?_) | (with_reducible refine belowS ?_ (Nat.le_refl _) _ _) | (with_reducible refine next ?_ (by assumption) (Nat.le_refl _)))); done)
      have hg1 : ((w3.alloc (.cells #[.string ⟨u.path.toArray⟩, .slice B1 m1 d1, .slice B2 m2 d2, .slice B3 m3 d3, .slice B4 m4 d4, .slice B5 m5 d5] 36)).alloc (.cells #[.int .i64 fe, .int .i64 fk, .int .i64 fs, .string ⟨fp.toArray⟩, .int .i64 fz] 40)).heap[w3.heap.size]? = some (.cells #[.string ⟨u.path.toArray⟩, .slice B1 m1 d1, .slice B2 m2 d2, .slice B3 m3 d3, .slice B4 m4 d4, .slice B5 m5 d5] 36 (0, 0)) := blkOld (blkAt _ _ rfl) _
      have hg2 : ((w3.alloc (.cells #[.string ⟨u.path.toArray⟩, .slice B1 m1 d1, .slice B2 m2 d2, .slice B3 m3 d3, .slice B4 m4 d4, .slice B5 m5 d5] 36)).alloc (.cells #[.int .i64 fe, .int .i64 fk, .int .i64 fs, .string ⟨fp.toArray⟩, .int .i64 fz] 40)).heap[w3.heap.size + 1]? = some (.cells #[.int .i64 fe, .int .i64 fk, .int .i64 fs, .string ⟨fp.toArray⟩, .int .i64 fz] 40 (0, 0)) := blkAt _ _ (by simp)
      have HV4 := Lib.hid (VUnt.below (u := u) ⟨B1, m1, d1, B2, m2, d2, B3, m3, d3, B4, m4, d4, B5, m5, d5, rfl, hV⟩ hbW)
      generalize ((w3.alloc (.cells #[.string ⟨u.path.toArray⟩, .slice B1 m1 d1, .slice B2 m2 d2, .slice B3 m3 d3, .slice B4 m4 d4, .slice B5 m5 d5] 36)).alloc (.cells #[.int .i64 fe, .int .i64 fk, .int .i64 fs, .string ⟨fp.toArray⟩, .int .i64 fz] 40)) = w4 at *
      have HB4 := Lib.hid (HB3.out.trans (hbW.mono HB3.out.size)); have HG1 := Lib.hid hg1; have HG2 := Lib.hid hg2
      clear hV hbW hg1 hg2 HB3
      go_wp2_with fail
      refine (HRC.out w4 (HT.out.below HB4.out) (HT2.out.below HB4.out)).mono ?_
      rintro e w5 ⟨V, rfl, hV, hb5⟩
      simp only at hV
      obtain ⟨C1, k1, l1, C2, k2, l2, C3, k3, l3, C4, k4, l4, C5, k5, l5, rfl, hV⟩ := hV
      unfold vFlt
      have HB5 := Lib.hid (HB4.out.trans (hb5.mono HB4.out.size)); have HV5 := Lib.hid (HV4.out.below hb5)
      have HG3 := Lib.hid (keptBlk hb5 HG1.out); have HG4 := Lib.hid (keptBlk hb5 HG2.out)
      clear hb5 HB4 HRC HV4 HG1 HG2 HT HT2
      go_upto_region 7 with fail
      have hbW : Below w5.heap.size w5 ((w5.alloc (.cells #[.string ⟨u.path.toArray⟩, .slice C1 k1 l1, .slice C2 k2 l2, .slice C3 k3 l3, .slice C4 k4 l4, .slice C5 k5 l5] 36)).alloc (.cells #[.int .i64 fe, .int .i64 fk, .int .i64 fs, .string ⟨fp.toArray⟩, .int .i64 fz] 40)) := by ((repeat (first | (with_reducible exact Below.refl _ _) | (with_reducible refine belowA ?_ _) | (with_reducible refine belowD ?_) | (with_reducible refine belowS ?_ (Nat.le_refl _) _ _) | (with_reducible refine next ?_ (by assumption) (Nat.le_refl _)))); done)
      have hg1 : ((w5.alloc (.cells #[.string ⟨u.path.toArray⟩, .slice C1 k1 l1, .slice C2 k2 l2, .slice C3 k3 l3, .slice C4 k4 l4, .slice C5 k5 l5] 36)).alloc (.cells #[.int .i64 fe, .int .i64 fk, .int .i64 fs, .string ⟨fp.toArray⟩, .int .i64 fz] 40)).heap[w5.heap.size]? = some (.cells #[.string ⟨u.path.toArray⟩, .slice C1 k1 l1, .slice C2 k2 l2, .slice C3 k3 l3, .slice C4 k4 l4, .slice C5 k5 l5] 36 (0, 0)) := blkOld (blkAt _ _ rfl) _
      have hg2 : ((w5.alloc (.cells #[.string ⟨u.path.toArray⟩, .slice C1 k1 l1, .slice C2 k2 l2, .slice C3 k3 l3, .slice C4 k4 l4, .slice C5 k5 l5] 36)).alloc (.cells #[.int .i64 fe, .int .i64 fk, .int .i64 fs, .string ⟨fp.toArray⟩, .int .i64 fz] 40)).heap[w5.heap.size + 1]? = some (.cells #[.int .i64 fe, .int .i64 fk, .int .i64 fs, .string ⟨fp.toArray⟩, .int .i64 fz] 40 (0, 0)) := blkAt _ _ (by simp)
      have HV6 := Lib.hid (VUnt.below (u := u) ⟨C1, k1, l1, C2, k2, l2, C3, k3, l3, C4, k4, l4, C5, k5, l5, rfl, hV⟩ hbW)
      have HV7 := Lib.hid (HV5.out.below hbW)
      have HG5 := Lib.hid (keptBlk hbW HG3.out); have HG6 := Lib.hid (keptBlk hbW HG4.out)
      generalize ((w5.alloc (.cells #[.string ⟨u.path.toArray⟩, .slice C1 k1 l1, .slice C2 k2 l2, .slice C3 k3 l3, .slice C4 k4 l4, .slice C5 k5 l5] 36)).alloc (.cells #[.int .i64 fe, .int .i64 fk, .int .i64 fs, .string ⟨fp.toArray⟩, .int .i64 fz] 40)) = w6 at *
      have HB6 := Lib.hid (HB5.out.trans (hbW.mono HB5.out.size)); have HG7 := Lib.hid hg1; have HG8 := Lib.hid hg2
      clear hV hbW hg1 hg2 HB5 HG3 HG4 HV5
      have y1 := untF HG5.out
      have y2 := untF HG7.out
      go_wp2_with fail
      refine (sameU_any w6 _ _ u HV7.out HV6.out).mono ?_
      rintro e w7 ⟨rfl, hb7⟩
      have HB7 := Lib.hid (HB6.out.trans (hb7.mono HB6.out.size))
      have z1 := fltF (keptBlk hb7 HG6.out)
      have z2 := fltF (keptBlk hb7 HG8.out)
      clear hb7 y1 y2 HG5 HG6 HG7 HG8 HV6 HV7 HB6
      go_wp2_with fail
      go_ret
      exact ⟨ret_bool (by simp), HB7.out⟩
end Go.Proofs.YtpeamehplhpcjaaGreatDoor
namespace Go.Proofs.YtpeamehplhpcjaaGreatDoor.sourceScans
open Go.ChangeShapes Go.WideShapes Go.ChangeAt Go.RowKit
open Go.ChangeMaps (open_string shut_string)

theorem own : ownKnob Tryz.prog.godebug = none := by kernel_rfl
theorem laidOut : laidOutB Tryz.prog = true := by kernel_rfl

set_option maxRecDepth 100000 in
theorem lifted (os : Os) (started : os.Started) (H : Type) (enc : TypeId × Value → H) :
    ReturnsInHanded {} Tryz.checked os 4 .any (fun w args => (Rows.sourceScansSpec.pre enc Tryz.prog Tryz.f4 [] false w args ∧ laidMetH Tryz.prog laidL w) ∧ sizedMet enc Tryz.prog Tryz.f4 (OpenSpec.ofChange Rows.sourceScansSpec) false w args)
      (Rows.sourceScansSpec.post enc Tryz.prog Tryz.f4 false true false false) := by
  refine handed (C := Tryz.checked) (X := fun w _ => laidMetH Tryz.prog laidL w) (fun _ _ _ hh h => h.of_heap hh) own started (by kernel_rfl) Tryz.func4
    (ChangeSpec.witness_shaped (enc := enc) (C := Tryz.checked) (os := os) (X := fun w _ => laidMetH Tryz.prog laidL w) false (World.laidAll Tryz.prog os laidL) #[.slice none 0 0, .string ByteArray.empty, .slice none 0 0] 8 (World.laidAll_os _ _ _)
      (World.shaped_of_ZipB (by kernel_rfl) (by kernel_rfl)) (by kernel_rfl) (by kernel_rfl) (by kernel_rfl)
      (by rw [MakeChecks.laidMetH_plain _ _ _ (by kernel_rfl)]; exact laidMet_laidAll _ (by kernel_rfl) (by kernel_rfl))) ?_
  intro W base args ds gs before hval0 hW hlaid hshape
  have hLD := ld_of hlaid hshape
  have hval : ∀ (j : Nat) t v, Tryz.f4.params[j]? = some t → args[j]? = some v → Value.okWide Tryz.prog W .any base t v := hval0
  have hW' := hW
  obtain ⟨p, q, hA0, hV, rfl, hfz, hnd⟩ := hW
  have hA : DataW.TrodAll enc Tryz.prog W 0 (fun _ => true) true Tryz.f4.params.toList args.toList ds p := hA0
  rw [Tryz.params4] at hA hval
  obtain ⟨v0, vs0, d0, ds0, p0, q0, hargs, rfl, rfl, h0, r0⟩ := trodAll_cons hA
  obtain ⟨v1, vs1, d1, ds1, p1, q1, rfl, rfl, rfl, h1, r1⟩ := trodAll_cons r0
  obtain ⟨v2, vs2, d2, ds2, p2, q2, rfl, rfl, rfl, h2, r2⟩ := trodAll_cons r1
  obtain ⟨rfl, rfl, rfl⟩ := trodAll_nil r2
  obtain rfl : args = #[v0, v1, v2] := by cases args; simp_all
  obtain ⟨rfl, rfl⟩ := trodVars_none hV
  obtain ⟨a0, n0, c0, rfl⟩ := okWide_slice Tryz.underlying28 (hval 0 28 v0 rfl rfl)
  have k0 := h0
  have lt0 : ∀ x ∈ p0, x.block < W.heap.size := by obtain ⟨m, hm⟩ := k0; exact DataW.trod_lt m _ _ _ hm
  obtain ⟨l0, s0, f0⟩ := openTree h0
  obtain ⟨a1, rfl, rfl, rfl, w1⟩ := open_string Tryz.underlying9 (hval 1 9 v1 rfl rfl) h1
  have e1 : a1 = ⟨a1.data.toList.toArray⟩ := by cases a1; simp
  have l1 : a1.data.toList.length ≤ 9223372036854775807 := by simpa [maxLen] using w1
  obtain ⟨a2, n2, c2, rfl⟩ := okWide_slice Tryz.underlying29 (hval 2 29 v2 rfl rfl)
  have k2 := h2
  have lt2 : ∀ x ∈ p2, x.block < W.heap.size := by obtain ⟨m, hm⟩ := k2; exact DataW.trod_lt m _ _ _ hm
  obtain ⟨l2, s2, f2⟩ := openStrs h2
  clear hA0 hval0
  have hw := sourceScans_walk W a0 n0 c0 l0 s0 f0 a1.data.toList l1 a2 n2 c2 l2 s2 f2 hLD
  rw [← e1] at hw
  refine hw.mono fun e W' ⟨he, bel⟩ => ?_
  subst he
  exact ⟨_, rfl, _, _, _, [], _, [], hW', trodAll_mk1 (shut_bool Tryz.underlying4 _), (trodAll_cons_mk (Below.trod laidOut (by kernel_rfl) (of_decide_eq_true (by kernel_rfl)) k0 bel lt0) (trodAll_cons_mk (shut_string Tryz.underlying9 w1) (trodAll_cons_mk (Below.trod laidOut (by kernel_rfl) (of_decide_eq_true (by kernel_rfl)) k2 bel lt2) trodAll_mk0))), rfl, bel.frame _, fun h => by cases h⟩

theorem over : Rows.sourceScansRow.holds Tryz.pinned (OpenSpec.ofChange Rows.sourceScansSpec) :=
  OpenClaim.holds_of_wide 4 Tryz.f4 rfl rfl rfl rfl rfl rfl rfl ⟨rfl, rfl, rfl, rfl, rfl⟩ rfl rfl rfl rfl rfl (by kernel_rfl) Tryz.func4 (by kernel_rfl)
    (of_decide_eq_true (by kernel_rfl)) (by unfold Func.isWrapper; first | (rw [if_pos (by decide +kernel)]; kernel_rfl) | (rw [if_neg (by decide +kernel)]; exact ⟨rfl, rfl⟩))
    (fun os started H enc _ => lifted os started H enc)

theorem proved : Rows.SourceScansCardSaid :=
  Claim7.holds_tied_plain_at .later [] _ _ _ _ over (fun _ h => by cases h) (by kernel_rfl) (fun _ h => by cases h) sourceScans_row_tie rfl ⟨rfl, rfl⟩ (by kernel_rfl) rfl
    (fun f fn hf hfn => by
      obtain rfl : f = 4 := Option.some.inj ((show Tryz.prog.funcNamed "licit/licitlaw06.SourceScans" = some 4 by kernel_rfl).symm.trans hf) |>.symm
      obtain rfl : fn = Tryz.f4 := (Option.some.inj (Tryz.func4.symm.trans hfn)).symm
      exact ⟨by kernel_rfl, fun j t ht => by
        rw [Tryz.params4] at ht
        have hm : t ∈ [28, 9, 29] := by simpa using Array.mem_of_getElem? ht
        have hall : ([28, 9, 29].all fun u => !Tryz.prog.wantsStandIn u) = true := by kernel_rfl
        exact (show Tryz.prog.wantsStandIn t = false by simpa using List.all_eq_true.1 hall t hm)⟩)
    (by kernel_rfl)
#print axioms proved
end Go.Proofs.YtpeamehplhpcjaaGreatDoor.sourceScans
