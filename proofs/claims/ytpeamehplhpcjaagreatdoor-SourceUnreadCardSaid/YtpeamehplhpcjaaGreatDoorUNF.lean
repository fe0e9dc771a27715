/- SourceUnread: the law answers true, whatever the input, and writes nothing that was there. Conditions: none beyond the given statement's (the listed package-level variables start as the program's text lays them; the card ties them, over a pruned copy of the project). -/
import Derived.Test.YtpeamehplhpcjaaGreatDoorWB21
import Derived.Test.YtpeamehplhpcjaaGreatDoorWB28
import Derived.Test.YtpeamehplhpcjaaGreatDoorWB32
import Derived.Test.YtpeamehplhpcjaaGreatDoorWB37
import Derived.Test.YtpeamehplhpcjaaGreatDoorWB39
import Derived.Test.YtpeamehplhpcjaaGreatDoorWB40
import Derived.Test.YtpeamehplhpcjaaGreatDoorTie
import Derived.Test.YtpeamehplhpcjaaGreatDoorCards
import Derived.ProofKit
import Derived.OpenShut
import Derived.ShutString
import Derived.ChangeOld
import Derived.Below
import Derived.Lay
import Derived.Handy
import Derived.SevenTiedAt
set_option linter.unusedVariables false
set_option linter.unusedSimpArgs false
namespace Go.Proofs.YtpeamehplhpcjaaGreatDoor
open Go.RowKit

set_option maxRecDepth 100000 in
set_option maxHeartbeats 8000000 in
theorem sourceUnread_walk (w : World) (v : Value) (x : Scn) (hv : VScn w v x) (hk : OkScn x) (hL : LS w) :
    Calls Tryz.prog 6 #[v] w fun e w' => e = .returned (.bool true) ∧ Below w.heap.size w w' := by
  obtain ⟨A, n, c, A2, n2, c2, rfl, hl, hl2⟩ := hv
  have hls := @lscan_ok x
  have hsc := fun w' h1 h2 => lscan_any w' _ x ⟨A, n, c, A2, n2, c2, rfl, h1, h2⟩
  obtain ⟨t, p, fl, ⟨lp, lz⟩, tx⟩ := x
  simp only at hl hl2 hls hsc
  generalize lscanS ⟨t, p, fl, ⟨lp, lz⟩, tx⟩ = R at *
  obtain ⟨u, ok⟩ := R
  simp only at hls hsc
  have HA := Lib.hid (awake_any (w.alloc (.cells #[.slice A n c, .string ⟨p.toArray⟩, .slice A2 n2 c2, .string ⟨lp.toArray⟩, .int .i64 lz, .string ⟨tx.toArray⟩] 55)) (hL.alloc _))
  have HT := Lib.hid hl; have HT2 := Lib.hid hl2; have HLS := Lib.hid hls; have HSC := Lib.hid hsc; have HL := Lib.hid hL
  clear hl hl2 hls hsc hL hk
  go_enter Tryz.func6, Tryz.ntmps6
  go_wp2_with fail
  refine HA.out.mono ?_
  rintro e w1 ⟨rfl, hb1⟩
  have hB1 : Below w.heap.size w w1 := (belowA (Below.refl w.heap.size w) _).trans (hb1.mono (by simp))
  have hx1 : w1.heap[w.heap.size]? = some (.cells #[.slice A n c, .string ⟨p.toArray⟩, .slice A2 n2 c2, .string ⟨lp.toArray⟩, .int .i64 lz, .string ⟨tx.toArray⟩] 55 (0, 0)) := keptBlk hb1 (blkAt w _ rfl)
  have p0 := (cell_blk hx1 0).trans rfl; have p1 := (cell_blk hx1 1).trans rfl; have p2 := (cell_blk hx1 2).trans rfl; have p3 := (cell_blk hx1 3).trans rfl; have p4 := (cell_blk hx1 4).trans rfl; have p5 := (cell_blk hx1 5).trans rfl
  have HB1 := Lib.hid hB1; have HX1 := Lib.hid hx1
  clear hb1 hB1 hx1 HA
  go_wp2_with fail
  refine (HSC.out w1 (HT.out.below HB1.out) (HT2.out.below HB1.out) (HL.out.below HB1.out)).mono ?_
  rintro e w2 ⟨V, rfl, hV, hb2⟩
  obtain ⟨B1, m1, d1, B2, m2, d2, B3, m3, d3, B4, m4, d4, B5, m5, d5, rfl, hV⟩ := hV
  have hB2 := HB1.out.trans (hb2.mono HB1.out.size)
  have hx2 := keptBlk hb2 HX1.out
  clear p0 p1 p2 p3 p4 p5 hb2 HB1 HX1
  go_upto_region 4 with fail
  have hbW : Below w2.heap.size w2 (w2.alloc (.cells #[.string ⟨u.path.toArray⟩, .slice B1 m1 d1, .slice B2 m2 d2, .slice B3 m3 d3, .slice B4 m4 d4, .slice B5 m5 d5] 36)) := by ((repeat (first | (with_reducible exact Below.refl _ _) | (with_reducible refine belowA ?_ _) | (with_reducible refine belowD ?_) | (with_reducible refine belowS ?_ (Nat.le_refl _) _ _) | (with_reducible refine next ?_ (by assumption) (Nat.le_refl _)))); done)
  have hW3 : LaW w (w2.alloc (.cells #[.string ⟨u.path.toArray⟩, .slice B1 m1 d1, .slice B2 m2 d2, .slice B3 m3 d3, .slice B4 m4 d4, .slice B5 m5 d5] 36)) #[.slice A n c, .string ⟨p.toArray⟩, .slice A2 n2 c2, .string ⟨lp.toArray⟩, .int .i64 lz, .string ⟨tx.toArray⟩] w2.heap.size #[.string ⟨u.path.toArray⟩, .slice B1 m1 d1, .slice B2 m2 d2, .slice B3 m3 d3, .slice B4 m4 d4, .slice B5 m5 d5] := ⟨hB2.trans (hbW.mono hB2.size), keptBlk hbW hx2, blkAt _ _ rfl⟩
  have hV3 : VUnt (w2.alloc (.cells #[.string ⟨u.path.toArray⟩, .slice B1 m1 d1, .slice B2 m2 d2, .slice B3 m3 d3, .slice B4 m4 d4, .slice B5 m5 d5] 36)) (.agg #[.string ⟨u.path.toArray⟩, .slice B1 m1 d1, .slice B2 m2 d2, .slice B3 m3 d3, .slice B4 m4 d4, .slice B5 m5 d5]) u := VUnt.below ⟨B1, m1, d1, B2, m2, d2, B3, m3, d3, B4, m4, d4, B5, m5, d5, rfl, hV⟩ hbW
  generalize (w2.alloc (.cells #[.string ⟨u.path.toArray⟩, .slice B1 m1 d1, .slice B2 m2 d2, .slice B3 m3 d3, .slice B4 m4 d4, .slice B5 m5 d5] 36)) = w3 at *
  generalize w2.heap.size = g at *
  have HW3 := Lib.hid hW3; have HV3 := Lib.hid hV3
  clear hV hB2 hx2 hbW hW3 hV3
  cases ok with
  | false =>
    go_wp2_with fail
    go_ret
    exact ⟨rfl, HW3.out.bl⟩
  | true =>
    obtain ⟨hfew, hp3, ht3, hu, hf0⟩ := HLS.out rfl
    subst hu
    obtain ⟨hfp, hft, hff, hfl⟩ := few6_ok hfew
    have hag := fun (t' : List Fil) => @repl_agr t t' ⟨lp, lz⟩ tx
    have hhl := hasLn_any B4 m4 d4 w3 (fun _ => True) (scanS t p fl).1.heads (by obtain ⟨_, _, _, _, _, _, _, _, _, _, _, _, _, _, _, he, h1, h2, h3, h4, h5⟩ := HV3.out; injection he with he; simp only [Array.mk.injEq, List.cons.injEq, Value.slice.injEq] at he; obtain ⟨-, -, -, -, ⟨rfl, rfl, rfl⟩, -⟩ := he; exact h4) lp lz
    have hsag := fun (t' : List Fil) ht hc hx => @scan_ag ⟨lp, lz⟩ t t' ht hc p fl (scanS t p fl).1 (scanS t p fl).2 rfl hf0 hx
    have htr : treeS t = 0 := by
      unfold scanS startS at hf0
      simp only at hf0
      by_cases h : treeS t = 0
      · exact h
      · rw [if_pos h] at hf0
        simp at hf0
    have hrp := fun w' h1 => rrepl_any A n c w' (fun _ => True) t h1 (fun f hf => by have := hfp f hf; omega) lp lz tx ht3
    have hih := hasLn_iff (scanS t p fl).1.heads ⟨lp, lz⟩
    generalize hasLn (scanS t p fl).1.heads ⟨lp, lz⟩ = hb at *
    have p3 := (cell_blk HW3.out.bx 3).trans rfl; have p4 := (cell_blk HW3.out.bx 4).trans rfl
    have q4 := (cell_blk HW3.out.bu 4).trans rfl
    have HHL := Lib.hid hhl; have HAG := Lib.hid hag; have HSAG := Lib.hid hsag; have HRP := Lib.hid hrp; have HIH := Lib.hid hih; have HF0 := Lib.hid hf0; have HFF := Lib.hid hff; have HTR := Lib.hid htr
    clear hhl hag hsag hrp hih hf0 hff htr hfew hfp HLS HSC
    go_wp2_with fail
    refine HHL.out.mono ?_
    rintro e w4 ⟨rfl, hb4⟩
    have HW4 := Lib.hid (HW3.out.below hb4); have HV4 := Lib.hid (HV3.out.below hb4)
    clear hb4 p3 p4 q4 HW3 HV3 HHL
    cases hb with
    | true =>
      go_wp2_with fail
      go_ret
      exact ⟨rfl, HW4.out.bl⟩
    | false =>
      have HSAG2 := Lib.hid (fun t' ht hc => HSAG.out t' ht hc (fun hi => by have := HIH.out.2 hi; cases this))
      have p0 := (cell_blk HW4.out.bx 0).trans rfl; have p3 := (cell_blk HW4.out.bx 3).trans rfl; have p4 := (cell_blk HW4.out.bx 4).trans rfl; have p5 := (cell_blk HW4.out.bx 5).trans rfl
      clear HSAG HIH
      go_wp2_with fail
      refine (HRP.out w4 (HT.out.below HW4.out.bl)).mono ?_
      rintro e w5 ⟨A5, n5, c5, rfl, hs5, hb5⟩
      generalize rreplS t ⟨lp, lz⟩ tx = RR at *
      obtain ⟨t', ec⟩ := RR
      try simp only at hs5
      have HW5 := Lib.hid (HW4.out.below hb5); have HV5 := Lib.hid (HV4.out.below hb5); have HS5 := Lib.hid hs5
      clear p0 p3 p4 p5 hb5 hs5 HW4 HV4 HRP
      by_cases hec : ec = 0
      · subst hec
        obtain ⟨ha1, ha2⟩ := HAG.out t' rfl
        have htr' : treeS t' = 0 := ha1.trans HTR.out
        have hsame := HSAG2.out t' ha2 ha1
        have hsc2 := fun h1 h2 h3 => scan_any A5 n5 c5 A2 n2 c2 w5 (fun _ => True) (fun _ => True) t' p fl h1 h2 h3 (fun f hf => by have := (tree_ok htr' f hf).1; omega) (fun ht f hf => by have := (tree_ok htr' f hf).2; omega) (by omega) (fun s hs => by have := HFF.out s hs; omega)
        rw [hsame] at hsc2
        have hf0 := HF0.out
        generalize scanS t p fl = X at *
        obtain ⟨xu, ⟨xe, xk, xs, ⟨xlp, xln⟩⟩⟩ := X
        simp only at hf0 hsc2
        subst hf0
        have HSC2 := Lib.hid hsc2
        have p1 := (cell_blk HW5.out.bx 1).trans rfl; have p2 := (cell_blk HW5.out.bx 2).trans rfl
        clear hsc2 hsame ha1 ha2 htr' HAG HSAG2 HF0 HFF HTR
        go_wp2_with fail
        refine (HSC2.out HS5.out.any (HT2.out.below HW5.out.bl) (HL.out.below HW5.out.bl)).mono ?_
        rintro e w6 ⟨V6, rfl, hV6, hb6⟩
        try simp only at hV6
        obtain ⟨C1, k1, l1, C2, k2, l2, C3, k3, l3, C4, k4, l4, C5, k5, l5, rfl, hV6⟩ := hV6
        have hW6 := HW5.out.below hb6; have hV5 := HV5.out.below hb6
        try simp only at hV5
        unfold vFlt
        clear p1 p2 hb6 HW5 HV5 HS5 HSC2
        go_upto_region 10 with fail
        have hbW : Below w6.heap.size w6 ((w6.alloc (.cells #[.string ⟨xu.path.toArray⟩, .slice C1 k1 l1, .slice C2 k2 l2, .slice C3 k3 l3, .slice C4 k4 l4, .slice C5 k5 l5] 36)).alloc (.cells #[.int .i64 0, .int .i64 xk, .int .i64 xs, .string ⟨xlp.toArray⟩, .int .i64 xln] 40)) := by ((repeat (first | (with_reducible exact Below.refl _ _) | (with_reducible refine belowA ?_ _) | (with_reducible refine belowD ?_) | (with_reducible refine belowS ?_ (Nat.le_refl _) _ _) | (with_reducible refine next ?_ (by assumption) (Nat.le_refl _)))); done)
        have hg1 : ((w6.alloc (.cells #[.string ⟨xu.path.toArray⟩, .slice C1 k1 l1, .slice C2 k2 l2, .slice C3 k3 l3, .slice C4 k4 l4, .slice C5 k5 l5] 36)).alloc (.cells #[.int .i64 0, .int .i64 xk, .int .i64 xs, .string ⟨xlp.toArray⟩, .int .i64 xln] 40)).heap[w6.heap.size]? = some (.cells #[.string ⟨xu.path.toArray⟩, .slice C1 k1 l1, .slice C2 k2 l2, .slice C3 k3 l3, .slice C4 k4 l4, .slice C5 k5 l5] 36 (0, 0)) := blkOld (blkAt _ _ rfl) _
        have hg2 : ((w6.alloc (.cells #[.string ⟨xu.path.toArray⟩, .slice C1 k1 l1, .slice C2 k2 l2, .slice C3 k3 l3, .slice C4 k4 l4, .slice C5 k5 l5] 36)).alloc (.cells #[.int .i64 0, .int .i64 xk, .int .i64 xs, .string ⟨xlp.toArray⟩, .int .i64 xln] 40)).heap[w6.heap.size + 1]? = some (.cells #[.int .i64 0, .int .i64 xk, .int .i64 xs, .string ⟨xlp.toArray⟩, .int .i64 xln] 40 (0, 0)) := blkAt _ _ (by simp)
        have HV7 := Lib.hid (VUnt.below (u := xu) ⟨C1, k1, l1, C2, k2, l2, C3, k3, l3, C4, k4, l4, C5, k5, l5, rfl, hV6⟩ hbW)
        have HW7 := Lib.hid (hW6.below hbW); have HV5 := Lib.hid (hV5.below hbW)
        generalize ((w6.alloc (.cells #[.string ⟨xu.path.toArray⟩, .slice C1 k1 l1, .slice C2 k2 l2, .slice C3 k3 l3, .slice C4 k4 l4, .slice C5 k5 l5] 36)).alloc (.cells #[.int .i64 0, .int .i64 xk, .int .i64 xs, .string ⟨xlp.toArray⟩, .int .i64 xln] 40)) = w7 at *
        have q0 := (cell_blk HW7.out.bu 0).trans rfl; have q1 := (cell_blk HW7.out.bu 1).trans rfl; have q2 := (cell_blk HW7.out.bu 2).trans rfl; have q3 := (cell_blk HW7.out.bu 3).trans rfl; have q4 := (cell_blk HW7.out.bu 4).trans rfl; have q5 := (cell_blk HW7.out.bu 5).trans rfl
        have y0 := (cell_blk hg1 0).trans rfl; have y1 := (cell_blk hg1 1).trans rfl; have y2 := (cell_blk hg1 2).trans rfl; have y3 := (cell_blk hg1 3).trans rfl; have y4 := (cell_blk hg1 4).trans rfl; have y5 := (cell_blk hg1 5).trans rfl
        have y6 := (cell_blk hg2 0).trans rfl
        clear hbW hg1 hg2 hV6 hW6 hV5
        go_wp2_with fail
        refine (sameU_any w7 _ _ xu HV5.out HV7.out).mono ?_
        rintro e w8 ⟨rfl, hb8⟩
        have HB8 := Lib.hid (HW7.out.bl.trans (hb8.mono HW7.out.bl.size))
        clear hb8 q0 q1 q2 q3 q4 q5 y0 y1 y2 y3 y4 y5 y6
        go_wp2_with fail
        go_ret
        exact ⟨rfl, HB8.out⟩
      · have hecb : (ec != 0) = true := by rw [bne_iff_ne]; exact hec
        clear hec
        go_wp2_with fail
        go_ret
        exact ⟨rfl, HW5.out.bl⟩
end Go.Proofs.YtpeamehplhpcjaaGreatDoor
namespace Go.Proofs.YtpeamehplhpcjaaGreatDoor.sourceUnread
open Go.ChangeShapes Go.WideShapes Go.ChangeAt Go.RowKit
open Go.ChangeMaps (open_string shut_string)

theorem own : ownKnob Tryz.prog.godebug = none := by kernel_rfl
theorem laidOut : laidOutB Tryz.prog = true := by kernel_rfl

set_option maxRecDepth 100000 in
theorem lifted (os : Os) (started : os.Started) (H : Type) (enc : TypeId × Value → H) :
    ReturnsInHanded {} Tryz.checked os 6 .any (fun w args => (Rows.sourceUnreadSpec.pre enc Tryz.prog Tryz.f6 [] false w args ∧ laidMetH Tryz.prog laidL w) ∧ sizedMet enc Tryz.prog Tryz.f6 (OpenSpec.ofChange Rows.sourceUnreadSpec) false w args)
      (Rows.sourceUnreadSpec.post enc Tryz.prog Tryz.f6 false true false false) := by
  refine handed (C := Tryz.checked) (X := fun w _ => laidMetH Tryz.prog laidL w) (fun _ _ _ hh h => h.of_heap hh) own started (by kernel_rfl) Tryz.func6
    (ChangeSpec.witness_shaped (enc := enc) (C := Tryz.checked) (os := os) (X := fun w _ => laidMetH Tryz.prog laidL w) false (World.laidAll Tryz.prog os laidL) #[.agg #[.slice none 0 0, .string ByteArray.empty, .slice none 0 0, .string ByteArray.empty, .int .i64 0, .string ByteArray.empty]] 8 (World.laidAll_os _ _ _)
      (World.shaped_of_ZipB (by kernel_rfl) (by kernel_rfl)) (by kernel_rfl) (by kernel_rfl) (by kernel_rfl)
      (by rw [MakeChecks.laidMetH_plain _ _ _ (by kernel_rfl)]; exact laidMet_laidAll _ (by kernel_rfl) (by kernel_rfl))) ?_
  intro W base args ds gs before hval0 hW hlaid hshape
  have hLD := ld_of hlaid hshape
  have hval : ∀ (j : Nat) t v, Tryz.f6.params[j]? = some t → args[j]? = some v → Value.okWide Tryz.prog W .any base t v := hval0
  have hW' := hW
  obtain ⟨p, q, hA0, hV, rfl, hfz, hnd⟩ := hW
  have hA : DataW.TrodAll enc Tryz.prog W 0 (fun _ => true) true Tryz.f6.params.toList args.toList ds p := hA0
  rw [Tryz.params6] at hA hval
  obtain ⟨v0, vs0, d0, ds0, p0, q0, hargs, rfl, rfl, h0, r0⟩ := trodAll_cons hA
  obtain ⟨rfl, rfl, rfl⟩ := trodAll_nil r0
  obtain rfl : args = #[v0] := by cases args; simp_all
  obtain ⟨rfl, rfl⟩ := trodVars_none hV
  obtain ⟨cs0, rfl, hsz0⟩ := okWide_struct Tryz.underlying55 (hval 0 55 v0 rfl rfl)
  have k0 := h0
  have lt0 : ∀ x ∈ p0, x.block < W.heap.size := by obtain ⟨m, hm⟩ := k0; exact DataW.trod_lt m _ _ _ hm
  obtain ⟨l0, s0, f0⟩ := openScn h0
  clear hA0 hval0
  have hw := sourceUnread_walk W _ l0 s0 f0 hLD
  refine hw.mono fun e W' ⟨he, bel⟩ => ?_
  subst he
  exact ⟨_, rfl, _, _, _, [], _, [], hW', trodAll_mk1 (shut_bool Tryz.underlying4 _), (trodAll_cons_mk (Below.trod laidOut (by kernel_rfl) (of_decide_eq_true (by kernel_rfl)) k0 bel lt0) trodAll_mk0), rfl, bel.frame _, fun h => by cases h⟩

theorem over : Rows.sourceUnreadRow.holds Tryz.pinned (OpenSpec.ofChange Rows.sourceUnreadSpec) :=
  OpenClaim.holds_of_wide 6 Tryz.f6 rfl rfl rfl rfl rfl rfl rfl ⟨rfl, rfl, rfl, rfl, rfl⟩ rfl rfl rfl rfl rfl (by kernel_rfl) Tryz.func6 (by kernel_rfl)
    (of_decide_eq_true (by kernel_rfl)) (by unfold Func.isWrapper; first | (rw [if_pos (by decide +kernel)]; kernel_rfl) | (rw [if_neg (by decide +kernel)]; exact ⟨rfl, rfl⟩))
    (fun os started H enc _ => lifted os started H enc)

theorem proved : Rows.SourceUnreadCardSaid :=
  Claim7.holds_tied_plain_at .later [] _ _ _ _ over (fun _ h => by cases h) (by kernel_rfl) (fun _ h => by cases h) sourceUnread_row_tie rfl ⟨rfl, rfl⟩ (by kernel_rfl) rfl
    (fun f fn hf hfn => by
      obtain rfl : f = 6 := Option.some.inj ((show Tryz.prog.funcNamed "licit/licitlaw06.SourceUnread" = some 6 by kernel_rfl).symm.trans hf) |>.symm
      obtain rfl : fn = Tryz.f6 := (Option.some.inj (Tryz.func6.symm.trans hfn)).symm
      exact ⟨by kernel_rfl, fun j t ht => by
        rw [Tryz.params6] at ht
        have hm : t ∈ [55] := by simpa using Array.mem_of_getElem? ht
        have hall : ([55].all fun u => !Tryz.prog.wantsStandIn u) = true := by kernel_rfl
        exact (show Tryz.prog.wantsStandIn t = false by simpa using List.all_eq_true.1 hall t hm)⟩)
    (by kernel_rfl)
#print axioms proved
end Go.Proofs.YtpeamehplhpcjaaGreatDoor.sourceUnread
