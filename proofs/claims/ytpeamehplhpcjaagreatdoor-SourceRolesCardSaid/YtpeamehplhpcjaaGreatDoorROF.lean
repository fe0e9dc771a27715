/- SourceRoles: the law answers true, whatever the input, and writes nothing that was there. Conditions: none beyond the given statement's (the listed package-level variables start as the program's text lays them; the card ties them, over a pruned copy of the project). -/
import Derived.Test.YtpeamehplhpcjaaGreatDoorWB22
import Derived.Test.YtpeamehplhpcjaaGreatDoorWB32
import Derived.Test.YtpeamehplhpcjaaGreatDoorWB39
import Derived.Test.YtpeamehplhpcjaaGreatDoorWB41
import Derived.Test.YtpeamehplhpcjaaGreatDoorTie
import Derived.Test.YtpeamehplhpcjaaGreatDoorCards
import Derived.ProofKit
import Derived.OpenShut
import Derived.ShutString
import Derived.ChangeOld
import Derived.Below
import Derived.Lay
import Derived.Handy
import Derived.SevenTiedAt
set_option linter.unusedVariables false
set_option linter.unusedSimpArgs false
namespace Go.Proofs.YtpeamehplhpcjaaGreatDoor
open Go.RowKit

set_option maxHeartbeats 400000 in
theorem roles1_any (w : World) (S : Nat → Prop) (v : Value) (x : Itm) (hv : VItm w S v x) (g : Nat) (nm : Bs) (hg : w.cell? ⟨g, 0, none⟩ = some (.string ⟨nm.toArray⟩)) :
    Calls Tryz.prog 26 #[v, .pointer (some ⟨g, 0, none⟩)] w fun e w' => e = .returned (.bool (x.name == nm)) ∧ Below w.heap.size w w' := by
  obtain ⟨A, n, c, rfl, -⟩ := hv
  have h1 := cell_alloc' hg (.cells #[.string ⟨x.name.toArray⟩, .int .i64 x.kind, .int .i64 x.mode, .slice A n c, .string ⟨x.body.path.toArray⟩, .int .i64 x.body.fr, .int .i64 x.body.tu] 48 (0, 0))
  clear hg
  go_enter Tryz.func26, Tryz.ntmps26
  go_wp2_with fail
  go_ret
  exact ⟨rfl, by ((repeat (first | (with_reducible exact Below.refl _ _) | (with_reducible refine belowA ?_ _) | (with_reducible refine belowD ?_) | (with_reducible refine belowS ?_ (Nat.le_refl _) _ _) | (with_reducible refine next ?_ (by assumption) (Nat.le_refl _)))); done)⟩
set_option maxRecDepth 100000 in
set_option maxHeartbeats 16000000 in
theorem sourceRoles_walk (w : World) (v : Value) (x : Scn) (hv : VScn w v x) (hk : OkScn x) (hL : LS w) :
    Calls Tryz.prog 7 #[v] w fun e w' => e = .returned (.bool true) ∧ Below w.heap.size w w' := by
  obtain ⟨A, n, c, A2, n2, c2, rfl, hl, hl2⟩ := hv
  have hls := @lscan_ok x
  have hsc := fun w' h1 h2 => lscan_any w' _ x ⟨A, n, c, A2, n2, c2, rfl, h1, h2⟩
  obtain ⟨t, p, fl, ⟨lp, lz⟩, tx⟩ := x
  simp only at hl hl2 hls hsc
  generalize lscanS ⟨t, p, fl, ⟨lp, lz⟩, tx⟩ = R at *
  obtain ⟨u, ok⟩ := R
  simp only at hls hsc
  have HA := Lib.hid (awake_any (w.alloc (.cells #[.slice A n c, .string ⟨p.toArray⟩, .slice A2 n2 c2, .string ⟨lp.toArray⟩, .int .i64 lz, .string ⟨tx.toArray⟩] 55)) (hL.alloc _))
  have HT := Lib.hid hl; have HT2 := Lib.hid hl2; have HLS := Lib.hid hls; have HSC := Lib.hid hsc; have HL := Lib.hid hL
  clear hl hl2 hls hsc hL hk
  go_enter Tryz.func7, Tryz.ntmps7
  go_wp2_with fail
  refine HA.out.mono ?_
  rintro e w1 ⟨rfl, hb1⟩
  have hB1 : Below w.heap.size w w1 := (belowA (Below.refl w.heap.size w) _).trans (hb1.mono (by simp))
  have hx1 : w1.heap[w.heap.size]? = some (.cells #[.slice A n c, .string ⟨p.toArray⟩, .slice A2 n2 c2, .string ⟨lp.toArray⟩, .int .i64 lz, .string ⟨tx.toArray⟩] 55 (0, 0)) := keptBlk hb1 (blkAt w _ rfl)
  have p0 := (cell_blk hx1 0).trans rfl; have p1 := (cell_blk hx1 1).trans rfl; have p2 := (cell_blk hx1 2).trans rfl; have p3 := (cell_blk hx1 3).trans rfl; have p4 := (cell_blk hx1 4).trans rfl; have p5 := (cell_blk hx1 5).trans rfl
  have HB1 := Lib.hid hB1; have HX1 := Lib.hid hx1
  clear hb1 hB1 hx1 HA
  go_wp2_with fail
  refine (HSC.out w1 (HT.out.below HB1.out) (HT2.out.below HB1.out) (HL.out.below HB1.out)).mono ?_
  rintro e w2 ⟨V, rfl, hV, hb2⟩
  obtain ⟨B1, m1, d1, B2, m2, d2, B3, m3, d3, B4, m4, d4, B5, m5, d5, rfl, hV⟩ := hV
  have hB2 := HB1.out.trans (hb2.mono HB1.out.size)
  have hx2 := keptBlk hb2 HX1.out
  clear p0 p1 p2 p3 p4 p5 hb2 HB1 HX1
  go_upto_region 4 with fail
  have hbW : Below w2.heap.size w2 (w2.alloc (.cells #[.string ⟨u.path.toArray⟩, .slice B1 m1 d1, .slice B2 m2 d2, .slice B3 m3 d3, .slice B4 m4 d4, .slice B5 m5 d5] 36)) := by ((repeat (first | (with_reducible exact Below.refl _ _) | (with_reducible refine belowA ?_ _) | (with_reducible refine belowD ?_) | (with_reducible refine belowS ?_ (Nat.le_refl _) _ _) | (with_reducible refine next ?_ (by assumption) (Nat.le_refl _)))); done)
  have hW3 : LaW w (w2.alloc (.cells #[.string ⟨u.path.toArray⟩, .slice B1 m1 d1, .slice B2 m2 d2, .slice B3 m3 d3, .slice B4 m4 d4, .slice B5 m5 d5] 36)) #[.slice A n c, .string ⟨p.toArray⟩, .slice A2 n2 c2, .string ⟨lp.toArray⟩, .int .i64 lz, .string ⟨tx.toArray⟩] w2.heap.size #[.string ⟨u.path.toArray⟩, .slice B1 m1 d1, .slice B2 m2 d2, .slice B3 m3 d3, .slice B4 m4 d4, .slice B5 m5 d5] := ⟨hB2.trans (hbW.mono hB2.size), keptBlk hbW hx2, blkAt _ _ rfl⟩
  have hV3 : VUnt (w2.alloc (.cells #[.string ⟨u.path.toArray⟩, .slice B1 m1 d1, .slice B2 m2 d2, .slice B3 m3 d3, .slice B4 m4 d4, .slice B5 m5 d5] 36)) (.agg #[.string ⟨u.path.toArray⟩, .slice B1 m1 d1, .slice B2 m2 d2, .slice B3 m3 d3, .slice B4 m4 d4, .slice B5 m5 d5]) u := VUnt.below ⟨B1, m1, d1, B2, m2, d2, B3, m3, d3, B4, m4, d4, B5, m5, d5, rfl, hV⟩ hbW
  generalize (w2.alloc (.cells #[.string ⟨u.path.toArray⟩, .slice B1 m1 d1, .slice B2 m2 d2, .slice B3 m3 d3, .slice B4 m4 d4, .slice B5 m5 d5] 36)) = w3 at *
  generalize w2.heap.size = g at *
  have HW3 := Lib.hid hW3; have HV3 := Lib.hid hV3
  clear hV hB2 hx2 hbW hW3 hV3
  cases ok with
  | false =>
    go_wp2_with fail
    go_ret
    exact ⟨rfl, HW3.out.bl⟩
  | true =>
    obtain ⟨hfew, hp3, ht3, hu, hf0⟩ := HLS.out rfl
    have hro := @roles_law t p fl u (scanS t p fl).2 (by rw [hu]) hf0
    have hto := tree_ok (scan_tree hf0)
    obtain ⟨r1, r2, r3, r4, r5, r6, r7, r8⟩ := hro
    obtain ⟨v1, v2, v3, v4, v5⟩ := HV3.out.heads
    have e2 := v2.len; have e3 := v3.len; have e5 := v5.len
    have l2 := v2.le; have l3 := v3.le; have l5 := v5.le; have l3c := v3.2.1
    subst e2 e3 e5
    have hda : ∀ f ∈ t, f.data.length ≤ 65536 := fun f hf => (hto f hf).2
    have R1 := Lib.hid r1; have R2 := Lib.hid r2; have R3 := Lib.hid r3; have R4 := Lib.hid r4; have R5 := Lib.hid r5; have R6 := Lib.hid r6; have R7 := Lib.hid r7; have R8 := Lib.hid r8
    have V1 := Lib.hid v1; have V2 := Lib.hid v2; have V3 := Lib.hid v3; have V4 := Lib.hid v4; have V5 := Lib.hid v5; have HDA := Lib.hid hda
    clear r1 r2 r3 r4 r5 r6 r7 r8 v1 v2 v3 v4 v5 hda hto hf0 hu hfew hp3 ht3 HLS HSC HV3
    have q2 := (cell_blk HW3.out.bu 2).trans rfl
    go_wp2_with fail
    go_loopw [23] (fun i wr => ∃ k : Nat, k ≤ u.macros.length ∧ i = .int .i64 k ∧ Below w3.heap.size w3 wr) (fun i _ => u.macros.length - (intOf i).toNat)
    case atStart => exact ⟨0, by omega, rfl, Below.refl _ _⟩
    case round =>
      obtain ⟨k, hk, rfl, hb⟩ := hrel
      have HBr := Lib.hid hb; have HWr := Lib.hid (HW3.out.below hb)
      clear hb q2
      by_cases hlt : k < u.macros.length
      · obtain ⟨b, o, rfl, -, hbs, E1, k1, e1, a0, a1, a2, a3, a4, -⟩ := (V2.out.below HBr.out).mac hlt
        have hin := R1.out u.macros[k] (List.getElem_mem hlt)
        have hki : (k : Int) < (u.macros.length : Int) := by omega
        obtain ⟨pn, hpn⟩ : ∃ pn : Bs, ∀ j (hj : j + 1 = k), pn = u.macros[j].name := by
          cases k with
          | zero => exact ⟨[], fun j hj => by omega⟩
          | succ j => exact ⟨u.macros[j].name, fun i hi => by obtain rfl : i = j := by omega
                                                              rfl⟩
        have hord : ∀ j (hj : j + 1 = k), ltS u.macros[j].name u.macros[k].name = true := fun j hj => by
          subst hj
          exact List.pairwise_iff_getElem.1 R2.out j (j + 1) (by omega) hlt (by omega)
        have HORD := Lib.hid hord
        clear hord
        generalize u.macros[k] = m at *
        go_upto_region 9 with fail
        have hbW : Below wr.heap.size wr (wr.alloc (.cells #[.string ⟨m.name.toArray⟩, .slice E1 k1 e1, .string ⟨m.body.path.toArray⟩, .int .i64 m.body.fr, .int .i64 m.body.tu] 63)) := by ((repeat (first | (with_reducible exact Below.refl _ _) | (with_reducible refine belowA ?_ _) | (with_reducible refine belowD ?_) | (with_reducible refine belowS ?_ (Nat.le_refl _) _ _) | (with_reducible refine next ?_ (by assumption) (Nat.le_refl _)))); done)
        have hg1 : (wr.alloc (.cells #[.string ⟨m.name.toArray⟩, .slice E1 k1 e1, .string ⟨m.body.path.toArray⟩, .int .i64 m.body.fr, .int .i64 m.body.tu] 63)).heap[wr.heap.size]? = some (.cells #[.string ⟨m.name.toArray⟩, .slice E1 k1 e1, .string ⟨m.body.path.toArray⟩, .int .i64 m.body.fr, .int .i64 m.body.tu] 63 (0, 0)) := blkAt _ _ rfl
        generalize (wr.alloc (.cells #[.string ⟨m.name.toArray⟩, .slice E1 k1 e1, .string ⟨m.body.path.toArray⟩, .int .i64 m.body.fr, .int .i64 m.body.tu] 63)) = W4 at *
        have HB4 := Lib.hid (HBr.out.trans (hbW.mono HBr.out.size))
        have HW4 := Lib.hid (HWr.out.below hbW); have HG1 := Lib.hid hg1
        clear a0 a1 a2 a3 a4 hbW hbs hg1 HBr HWr
        have hwin := fun z (hz : Below W4.heap.size W4 z) => within_any z ⟨t, p, fl, ⟨lp, lz⟩, tx⟩ u m.body A n c A2 n2 c2 B1 (some ⟨b, o, none⟩) B3 B4 B5 m1 d1 u.macros.length d2 u.items.length d3 m4 d4 u.files.length d5 (((HT.out.below HW4.out.bl)).below hz) (((V4.out.below HB4.out)).below hz) hin.1 HDA.out
        have hcon := fun z (hz : Below W4.heap.size W4 z) => contains_any B1 m1 d1 z _ u.flags m.name ((V1.out.below HB4.out).below hz)
        rw [show u.flags.contains m.name = false by rw [← Bool.not_eq_true, List.contains_iff_mem]; exact hin.2] at hcon
        have HWI := Lib.hid hwin; have HCO := Lib.hid hcon
        clear hwin hcon hin
        cases k with
        | zero =>
          have HX := Lib.hid (fun (z : World) (hz : Below W4.heap.size W4 z) => (And.intro ((cell_blk (keptBlk hz HW4.out.bx) 0).trans rfl) (And.intro ((cell_blk (keptBlk hz HW4.out.bx) 1).trans rfl) (And.intro ((cell_blk (keptBlk hz HW4.out.bx) 2).trans rfl) (And.intro ((cell_blk (keptBlk hz HW4.out.bx) 3).trans rfl) (And.intro ((cell_blk (keptBlk hz HW4.out.bx) 4).trans rfl) (And.intro ((cell_blk (keptBlk hz HW4.out.bx) 5).trans rfl) (And.intro ((cell_blk (keptBlk hz HW4.out.bu) 0).trans rfl) (And.intro ((cell_blk (keptBlk hz HW4.out.bu) 1).trans rfl) (And.intro ((cell_blk (keptBlk hz HW4.out.bu) 2).trans rfl) (And.intro ((cell_blk (keptBlk hz HW4.out.bu) 3).trans rfl) (And.intro ((cell_blk (keptBlk hz HW4.out.bu) 4).trans rfl) (And.intro ((cell_blk (keptBlk hz HW4.out.bu) 5).trans rfl) (And.intro ((cell_blk (keptBlk hz HG1.out) 0).trans rfl) (And.intro ((cell_blk (keptBlk hz HG1.out) 2).trans rfl) (And.intro ((cell_blk (keptBlk hz HG1.out) 3).trans rfl) ((cell_blk (keptBlk hz HG1.out) 4).trans rfl)))))))))))))))))
          refine wpH_region (fun z => Below W4.heap.size W4 z) (by kernel_rfl) ?_
          have hS : Below W4.heap.size W4 W4.drew := (Below.refl _ _).drew
          (refine tkW 0 (v := ?_) hS ?_ ?_; rotate_left; (focus (intro x hx; have fx := HX.out x hx; go_simp; (try with_reducible rfl); done)); (try simp only [Act.put, lsa, lsz, lss]))
          (refine tkW 1 (v := ?_) hS ?_ ?_; rotate_left; (focus (intro x hx; have fx := HX.out x hx; go_simp; (try with_reducible rfl); done)); (try simp only [Act.put, lsa, lsz, lss]))
          (refine tkW 2 (v := ?_) hS ?_ ?_; rotate_left; (focus (intro x hx; have fx := HX.out x hx; go_simp; (try with_reducible rfl); done)); (try simp only [Act.put, lsa, lsz, lss]))
          (refine tkW 3 (v := ?_) hS ?_ ?_; rotate_left; (focus (intro x hx; have fx := HX.out x hx; go_simp; (try with_reducible rfl); done)); (try simp only [Act.put, lsa, lsz, lss]))
          refine wpAnyH_one 4 (by kernel_rfl) rfl ?_
          intro K' hK'
          go_simp
          refine (HWI.out _ hS).mono ?_
          rintro e w5 ⟨rfl, hb5⟩
          have hS5 : Below W4.heap.size W4 w5 := hS.trans (hb5.mono hS.size)
          refine hK'.out _ _ hS5 ?_
          clear hK' K' hb5 hS
          have hS := hS5
          clear hS5
          (refine tkW 5 (v := ?_) hS ?_ ?_; rotate_left; (focus (intro x hx; have fx := HX.out x hx; go_simp; (try with_reducible rfl); done)); (try simp only [Act.put, lsa, lsz, lss]))
          (refine tkW 6 (v := ?_) hS ?_ ?_; rotate_left; (focus (intro x hx; have fx := HX.out x hx; go_simp; (try with_reducible rfl); done)); (try simp only [Act.put, lsa, lsz, lss]))
          (refine tkW 7 (v := ?_) hS ?_ ?_; rotate_left; (focus (intro x hx; have fx := HX.out x hx; go_simp; (try with_reducible rfl); done)); (try simp only [Act.put, lsa, lsz, lss]))
          (refine tkW 8 (v := ?_) hS ?_ ?_; rotate_left; (focus (intro x hx; have fx := HX.out x hx; go_simp; (try with_reducible rfl); done)); (try simp only [Act.put, lsa, lsz, lss]))
          (refine tkW 9 (v := ?_) hS ?_ ?_; rotate_left; (focus (intro x hx; have fx := HX.out x hx; go_simp; (try with_reducible rfl); done)); (try simp only [Act.put, lsa, lsz, lss]))
          (refine tkU 10 hS ?_; (try simp only [Act.put, lsa, lsz, lss]))
          (refine tkU 11 hS ?_; (try simp only [Act.put, lsa, lsz, lss]))
          (refine tkU 12 hS ?_; (try simp only [Act.put, lsa, lsz, lss]))
          (refine tkU 13 hS ?_; (try simp only [Act.put, lsa, lsz, lss]))
          (refine tkU 14 hS ?_; (try simp only [Act.put, lsa, lsz, lss]))
          (refine tkU 15 hS ?_; (try simp only [Act.put, lsa, lsz, lss]))
          (refine tkU 16 hS ?_; (try simp only [Act.put, lsa, lsz, lss]))
          (refine tkU 17 hS ?_; (try simp only [Act.put, lsa, lsz, lss]))
          (refine tkU 18 hS ?_; (try simp only [Act.put, lsa, lsz, lss]))
          (refine tkU 19 hS ?_; (try simp only [Act.put, lsa, lsz, lss]))
          (refine tkW 20 (v := ?_) hS ?_ ?_; rotate_left; (focus (intro x hx; have fx := HX.out x hx; go_simp; (try with_reducible rfl); done)); (try simp only [Act.put, lsa, lsz, lss]))
          (refine tkW 21 (v := ?_) hS ?_ ?_; rotate_left; (focus (intro x hx; have fx := HX.out x hx; go_simp; (try with_reducible rfl); done)); (try simp only [Act.put, lsa, lsz, lss]))
          (refine tkW 22 (v := ?_) hS ?_ ?_; rotate_left; (focus (intro x hx; have fx := HX.out x hx; go_simp; (try with_reducible rfl); done)); (try simp only [Act.put, lsa, lsz, lss]))
          (refine tkW 23 (v := ?_) hS ?_ ?_; rotate_left; (focus (intro x hx; have fx := HX.out x hx; go_simp; (try with_reducible rfl); done)); (try simp only [Act.put, lsa, lsz, lss]))
          (refine tkW 24 (v := ?_) hS ?_ ?_; rotate_left; (focus (intro x hx; have fx := HX.out x hx; go_simp; (try with_reducible rfl); done)); (try simp only [Act.put, lsa, lsz, lss]))
          (refine tkW 25 (v := ?_) hS ?_ ?_; rotate_left; (focus (intro x hx; have fx := HX.out x hx; go_simp; (try with_reducible rfl); done)); (try simp only [Act.put, lsa, lsz, lss]))
          (refine tkW 26 (v := ?_) hS ?_ ?_; rotate_left; (focus (intro x hx; have fx := HX.out x hx; go_simp; (try with_reducible rfl); done)); (try simp only [Act.put, lsa, lsz, lss]))
          refine wpAnyH_one 27 (by kernel_rfl) rfl ?_
          intro K' hK'
          go_simp
          refine (HCO.out _ hS).mono ?_
          rintro e w6 ⟨rfl, rfl⟩
          refine hK'.out _ _ hS ?_
          clear hK' K'
          (refine tkW 28 (v := ?_) hS ?_ ?_; rotate_left; (focus (intro x hx; have fx := HX.out x hx; go_simp; (try with_reducible rfl); done)); (try simp only [Act.put, lsa, lsz, lss]))
          refine wpAnyH_done (by kernel_rfl) ?_ _
          have HB5 := Lib.hid (HB4.out.trans (hS.mono HB4.out.size))
          clear hS HX HWI HCO
          go_wp2_with fail
          go_roundw
          case rel => exact ⟨0 + 1, by omega, by go_num, HB5.out⟩
          case measure => simp [intOf] <;> omega
        | succ j =>
          have hjl : j < u.macros.length := by omega
          obtain ⟨b8, o8, he, -, hb8, F1, x1, y1, z0, -, -, -, -, -⟩ := (V2.out.below HB4.out).mac hjl
          cases he
          have hor := HORD.out j rfl
          generalize u.macros[j].name = pn at *
          have hls : Op.bytesLess m.name pn = false := by rw [less_ltS]; cases e : ltS m.name pn with | false => rfl | true => (have := ltS_trans _ _ _ hor e; rw [ltS_irr] at this; cases this)
          have hne : (m.name == pn) = false := by rw [beq_eq_false_iff_ne]; intro e; rw [e, ltS_irr] at hor; cases hor
          have hj0 : (j : Int) < (u.macros.length : Int) := by omega
          have hwi : IntKind.i64.wrap (j : Int) = (j : Int) := IntWalk.i64_in _ (by omega)
          clear hor HORD
          have HX := Lib.hid (fun (z : World) (hz : Below W4.heap.size W4 z) => (And.intro ((cell_blk (keptBlk hz HW4.out.bx) 0).trans rfl) (And.intro ((cell_blk (keptBlk hz HW4.out.bx) 1).trans rfl) (And.intro ((cell_blk (keptBlk hz HW4.out.bx) 2).trans rfl) (And.intro ((cell_blk (keptBlk hz HW4.out.bx) 3).trans rfl) (And.intro ((cell_blk (keptBlk hz HW4.out.bx) 4).trans rfl) (And.intro ((cell_blk (keptBlk hz HW4.out.bx) 5).trans rfl) (And.intro ((cell_blk (keptBlk hz HW4.out.bu) 0).trans rfl) (And.intro ((cell_blk (keptBlk hz HW4.out.bu) 1).trans rfl) (And.intro ((cell_blk (keptBlk hz HW4.out.bu) 2).trans rfl) (And.intro ((cell_blk (keptBlk hz HW4.out.bu) 3).trans rfl) (And.intro ((cell_blk (keptBlk hz HW4.out.bu) 4).trans rfl) (And.intro ((cell_blk (keptBlk hz HW4.out.bu) 5).trans rfl) (And.intro ((cell_blk (keptBlk hz HG1.out) 0).trans rfl) (And.intro ((cell_blk (keptBlk hz HG1.out) 2).trans rfl) (And.intro ((cell_blk (keptBlk hz HG1.out) 3).trans rfl) (And.intro ((cell_blk (keptBlk hz HG1.out) 4).trans rfl) (cell_later hz z0))))))))))))))))))
          clear z0 hb8
          refine wpH_region (fun z => Below W4.heap.size W4 z) (by kernel_rfl) ?_
          have hS : Below W4.heap.size W4 W4.drew := (Below.refl _ _).drew
          (refine tkW 0 (v := ?_) hS ?_ ?_; rotate_left; (focus (intro x hx; have fx := HX.out x hx; go_simp; (try with_reducible rfl); done)); (try simp only [Act.put, lsa, lsz, lss]))
          (refine tkW 1 (v := ?_) hS ?_ ?_; rotate_left; (focus (intro x hx; have fx := HX.out x hx; go_simp; (try with_reducible rfl); done)); (try simp only [Act.put, lsa, lsz, lss]))
          (refine tkW 2 (v := ?_) hS ?_ ?_; rotate_left; (focus (intro x hx; have fx := HX.out x hx; go_simp; (try with_reducible rfl); done)); (try simp only [Act.put, lsa, lsz, lss]))
          (refine tkW 3 (v := ?_) hS ?_ ?_; rotate_left; (focus (intro x hx; have fx := HX.out x hx; go_simp; (try with_reducible rfl); done)); (try simp only [Act.put, lsa, lsz, lss]))
          refine wpAnyH_one 4 (by kernel_rfl) rfl ?_
          intro K' hK'
          go_simp
          refine (HWI.out _ hS).mono ?_
          rintro e w5 ⟨rfl, hb5⟩
          have hS5 : Below W4.heap.size W4 w5 := hS.trans (hb5.mono hS.size)
          refine hK'.out _ _ hS5 ?_
          clear hK' K' hb5 hS
          have hS := hS5
          clear hS5
          (refine tkW 5 (v := ?_) hS ?_ ?_; rotate_left; (focus (intro x hx; have fx := HX.out x hx; go_simp; (try with_reducible rfl); done)); (try simp only [Act.put, lsa, lsz, lss]))
          (refine tkW 6 (v := ?_) hS ?_ ?_; rotate_left; (focus (intro x hx; have fx := HX.out x hx; go_simp; (try with_reducible rfl); done)); (try simp only [Act.put, lsa, lsz, lss]))
          (refine tkW 7 (v := ?_) hS ?_ ?_; rotate_left; (focus (intro x hx; have fx := HX.out x hx; go_simp; (try with_reducible rfl); done)); (try simp only [Act.put, lsa, lsz, lss]))
          (refine tkW 8 (v := ?_) hS ?_ ?_; rotate_left; (focus (intro x hx; have fx := HX.out x hx; go_simp; (try with_reducible rfl); done)); (try simp only [Act.put, lsa, lsz, lss]))
          (refine tkW 9 (v := ?_) hS ?_ ?_; rotate_left; (focus (intro x hx; have fx := HX.out x hx; go_simp; (try with_reducible rfl); done)); (try simp only [Act.put, lsa, lsz, lss]))
          (refine tkW 10 (v := ?_) hS ?_ ?_; rotate_left; (focus (intro x hx; have fx := HX.out x hx; go_simp; (try with_reducible rfl); done)); (try simp only [Act.put, lsa, lsz, lss]))
          (refine tkW 11 (v := ?_) hS ?_ ?_; rotate_left; (focus (intro x hx; have fx := HX.out x hx; go_simp; (try with_reducible rfl); done)); (try simp only [Act.put, lsa, lsz, lss]))
          (refine tkW 12 (v := ?_) hS ?_ ?_; rotate_left; (focus (intro x hx; have fx := HX.out x hx; go_simp; (try with_reducible rfl); done)); (try simp only [Act.put, lsa, lsz, lss]))
          (refine tkW 13 (v := ?_) hS ?_ ?_; rotate_left; (focus (intro x hx; have fx := HX.out x hx; go_simp; (try with_reducible rfl); done)); (try simp only [Act.put, lsa, lsz, lss]))
          (refine tkW 14 (v := ?_) hS ?_ ?_; rotate_left; (focus (intro x hx; have fx := HX.out x hx; go_simp; (try with_reducible rfl); done)); (try simp only [Act.put, lsa, lsz, lss]))
          (refine tkW 15 (v := ?_) hS ?_ ?_; rotate_left; (focus (intro x hx; have fx := HX.out x hx; go_simp; (try with_reducible rfl); done)); (try simp only [Act.put, lsa, lsz, lss]))
          (refine tkW 16 (v := ?_) hS ?_ ?_; rotate_left; (focus (intro x hx; have fx := HX.out x hx; go_simp; (try with_reducible rfl); done)); (try simp only [Act.put, lsa, lsz, lss]))
          (refine tkW 17 (v := ?_) hS ?_ ?_; rotate_left; (focus (intro x hx; have fx := HX.out x hx; go_simp; (try with_reducible rfl); done)); (try simp only [Act.put, lsa, lsz, lss]))
          (refine tkW 18 (v := ?_) hS ?_ ?_; rotate_left; (focus (intro x hx; have fx := HX.out x hx; go_simp; (try with_reducible rfl); done)); (try simp only [Act.put, lsa, lsz, lss]))
          (refine tkW 19 (v := ?_) hS ?_ ?_; rotate_left; (focus (intro x hx; have fx := HX.out x hx; go_simp; (try with_reducible rfl); done)); (try simp only [Act.put, lsa, lsz, lss]))
          (refine tkW 20 (v := ?_) hS ?_ ?_; rotate_left; (focus (intro x hx; have fx := HX.out x hx; go_simp; (try with_reducible rfl); done)); (try simp only [Act.put, lsa, lsz, lss]))
          (refine tkW 21 (v := ?_) hS ?_ ?_; rotate_left; (focus (intro x hx; have fx := HX.out x hx; go_simp; (try with_reducible rfl); done)); (try simp only [Act.put, lsa, lsz, lss]))
          (refine tkW 22 (v := ?_) hS ?_ ?_; rotate_left; (focus (intro x hx; have fx := HX.out x hx; go_simp; (try with_reducible rfl); done)); (try simp only [Act.put, lsa, lsz, lss]))
          (refine tkW 23 (v := ?_) hS ?_ ?_; rotate_left; (focus (intro x hx; have fx := HX.out x hx; go_simp; (try with_reducible rfl); done)); (try simp only [Act.put, lsa, lsz, lss]))
          (refine tkW 24 (v := ?_) hS ?_ ?_; rotate_left; (focus (intro x hx; have fx := HX.out x hx; go_simp; (try with_reducible rfl); done)); (try simp only [Act.put, lsa, lsz, lss]))
          (refine tkW 25 (v := ?_) hS ?_ ?_; rotate_left; (focus (intro x hx; have fx := HX.out x hx; go_simp; (try with_reducible rfl); done)); (try simp only [Act.put, lsa, lsz, lss]))
          (refine tkW 26 (v := ?_) hS ?_ ?_; rotate_left; (focus (intro x hx; have fx := HX.out x hx; go_simp; (try with_reducible rfl); done)); (try simp only [Act.put, lsa, lsz, lss]))
          refine wpAnyH_one 27 (by kernel_rfl) rfl ?_
          intro K' hK'
          go_simp
          refine (HCO.out _ hS).mono ?_
          rintro e w6 ⟨rfl, rfl⟩
          refine hK'.out _ _ hS ?_
          clear hK' K'
          (refine tkW 28 (v := ?_) hS ?_ ?_; rotate_left; (focus (intro x hx; have fx := HX.out x hx; go_simp; (try with_reducible rfl); done)); (try simp only [Act.put, lsa, lsz, lss]))
          refine wpAnyH_done (by kernel_rfl) ?_ _
          have HB5 := Lib.hid (HB4.out.trans (hS.mono HB4.out.size))
          clear hS HX HWI HCO
          go_wp2_with fail
          go_roundw
          case rel => exact ⟨j + 1 + 1, by omega, by go_num, HB5.out⟩
          case measure => simp [intOf] <;> omega
      · obtain rfl : k = u.macros.length := by omega
        have q3 := (cell_blk HWr.out.bu 3).trans rfl
        obtain ⟨wo, hwo⟩ : ∃ wo, wo = wr := ⟨_, rfl⟩
        rw [← hwo]
        rw [← hwo] at q3 HBr HWr
        clear hwo
        go_wp2_with fail
        go_loopw [61] (fun i wr => ∃ k : Nat, k ≤ u.items.length ∧ i = .int .i64 k ∧ Below w3.heap.size w3 wr) (fun i _ => u.items.length - (intOf i).toNat)
        case atStart => exact ⟨0, by omega, rfl, HBr.out⟩
        case round =>
          obtain ⟨k, hk2, rfl, hb⟩ := hrel
          have HBs := Lib.hid hb; have HWs := Lib.hid (HW3.out.below hb)
          clear hb q3
          by_cases hlt2 : k < u.items.length
          · obtain ⟨b, o, rfl, -, hbs, E1, k1, e1, a0, a1, a2, a3, a4, a5, a6, -⟩ := (V3.out.below HBs.out).itm hlt2
            have hin := R3.out u.items[k] (List.getElem_mem hlt2)
            have hki : (k : Int) < (u.items.length : Int) := by omega
            have hkc : (k : Int) ≤ (d3 : Int) := by omega
            have hnd : (u.items.take k).any (fun z => z.name == u.items[k].name) = false := by
              rw [← Bool.not_eq_true, List.any_eq_true]
              rintro ⟨z, hz, he⟩
              have he : z.name = u.items[k].name := by simpa using he
              obtain ⟨j, hj, rfl⟩ := List.mem_take_iff_getElem.1 hz
              have h1 : j < k := by omega
              have h2 := List.pairwise_iff_getElem.1 R4.out j k (by simp; omega) (by simpa using hlt2) h1
              simp only [List.getElem_map] at h2
              exact h2 he
            generalize u.items[k] = y at *
            go_upto_region 15 with fail
            have hbW : Below wr.heap.size wr (wr.alloc (.cells #[.string ⟨y.name.toArray⟩, .int .i64 y.kind, .int .i64 y.mode, .slice E1 k1 e1, .string ⟨y.body.path.toArray⟩, .int .i64 y.body.fr, .int .i64 y.body.tu] 48)) := by ((repeat (first | (with_reducible exact Below.refl _ _) | (with_reducible refine belowA ?_ _) | (with_reducible refine belowD ?_) | (with_reducible refine belowS ?_ (Nat.le_refl _) _ _) | (with_reducible refine next ?_ (by assumption) (Nat.le_refl _)))); done)
            have hg1 : (wr.alloc (.cells #[.string ⟨y.name.toArray⟩, .int .i64 y.kind, .int .i64 y.mode, .slice E1 k1 e1, .string ⟨y.body.path.toArray⟩, .int .i64 y.body.fr, .int .i64 y.body.tu] 48)).heap[wr.heap.size]? = some (.cells #[.string ⟨y.name.toArray⟩, .int .i64 y.kind, .int .i64 y.mode, .slice E1 k1 e1, .string ⟨y.body.path.toArray⟩, .int .i64 y.body.fr, .int .i64 y.body.tu] 48 (0, 0)) := blkAt _ _ rfl
            generalize (wr.alloc (.cells #[.string ⟨y.name.toArray⟩, .int .i64 y.kind, .int .i64 y.mode, .slice E1 k1 e1, .string ⟨y.body.path.toArray⟩, .int .i64 y.body.fr, .int .i64 y.body.tu] 48)) = W4 at *
            have HB4 := Lib.hid (HBs.out.trans (hbW.mono HBs.out.size))
            have HW4 := Lib.hid (HWs.out.below hbW); have HG1 := Lib.hid hg1
            generalize wr.heap.size = gy at *
            have hwin := fun hkd z (hz : Below W4.heap.size W4 z) => within_any z ⟨t, p, fl, ⟨lp, lz⟩, tx⟩ u y.body A n c A2 n2 c2 B1 B2 (some ⟨b, o, none⟩) B4 B5 m1 d1 u.macros.length d2 u.items.length d3 m4 d4 u.files.length d5 (((HT.out.below HW4.out.bl)).below hz) (((V4.out.below HB4.out)).below hz) (hin hkd) HDA.out
            have hcon := fun z (hz : Below W4.heap.size W4 z) => conI_any (some ⟨b, o, none⟩) k d3 z _ (u.items.take k) (((V3.out.below HB4.out).below hz).take (by omega)) 26 #[.pointer (some ⟨gy, 0, none⟩)] (fun _ _ => by kernel_rfl) (fun z => z.name == y.name) (fun x _ w1 hb1 v hv => roles1_any w1 _ v x hv gy y.name ((cell_blk (keptBlk hb1 (keptBlk hz HG1.out)) 0).trans rfl))
            rw [hnd] at hcon
            have HWI := Lib.hid hwin; have HCO := Lib.hid hcon
            clear a0 a1 a2 a3 a4 a5 a6 hbW hbs hg1 HBs HWs hwin hcon hin hnd
            have y1 := (cell_blk HG1.out 1).trans rfl
            by_cases hk3 : y.kind = 3
            · have hkb : (y.kind != 3) = false := by rw [hk3]; rfl
              have q3 := (cell_blk HW4.out.bu 3).trans rfl
              clear hk3
              go_wp2_with fail
              refine (HCO.out _ (Below.refl _ _)).mono ?_
              rintro e w5 ⟨rfl, hb5⟩
              have HB5 := Lib.hid (HB4.out.trans (hb5.mono HB4.out.size))
              clear y1 q3 hb5
              go_wp2_with fail
              go_roundw
              case rel => exact ⟨k + 1, by omega, by go_num, HB5.out⟩
              case measure => simp [intOf] <;> omega
            · have hkb : (y.kind != 3) = true := by rw [bne_iff_ne]; exact hk3
              have p0 := (cell_blk HW4.out.bx 0).trans rfl; have p1 := (cell_blk HW4.out.bx 1).trans rfl; have p2 := (cell_blk HW4.out.bx 2).trans rfl; have p3 := (cell_blk HW4.out.bx 3).trans rfl; have p4 := (cell_blk HW4.out.bx 4).trans rfl; have p5 := (cell_blk HW4.out.bx 5).trans rfl
              have q0 := (cell_blk HW4.out.bu 0).trans rfl; have q1 := (cell_blk HW4.out.bu 1).trans rfl; have q2 := (cell_blk HW4.out.bu 2).trans rfl; have q3 := (cell_blk HW4.out.bu 3).trans rfl; have q4 := (cell_blk HW4.out.bu 4).trans rfl; have q5 := (cell_blk HW4.out.bu 5).trans rfl
              have y4 := (cell_blk HG1.out 4).trans rfl; have y5 := (cell_blk HG1.out 5).trans rfl; have y6 := (cell_blk HG1.out 6).trans rfl
              have HWI2 := Lib.hid (HWI.out hk3)
              clear hk3 HWI
              go_wp2_with fail
              refine (HWI2.out _ (Below.refl _ _)).mono ?_
              rintro e w5 ⟨rfl, hb5⟩
              have HB5 := Lib.hid hb5
              have q3' := (cell_blk (HW4.out.below hb5).bu 3).trans rfl
              clear y1 y4 y5 y6 p0 p1 p2 p3 p4 p5 q0 q1 q2 q3 q4 q5 hb5
              go_wp2_with fail
              refine (HCO.out _ HB5.out).mono ?_
              rintro e w6 ⟨rfl, hb6⟩
              have HB6 := Lib.hid (HB4.out.trans ((HB5.out.trans (hb6.mono HB5.out.size)).mono HB4.out.size))
              clear q3' hb6
              go_wp2_with fail
              go_roundw
              case rel => exact ⟨k + 1, by omega, by go_num, HB6.out⟩
              case measure => simp [intOf] <;> omega
          · obtain rfl : k = u.items.length := by omega
            have q5 := (cell_blk HWs.out.bu 5).trans rfl
            obtain ⟨wp, hwp⟩ : ∃ wp, wp = wr := ⟨_, rfl⟩
            rw [← hwp]
            rw [← hwp] at q5 HBs HWs
            clear hwp
            go_wp2_with fail
            go_loopw [89] (fun i wr => ∃ k : Nat, k ≤ u.files.length ∧ i = .int .i64 k ∧ Below w3.heap.size w3 wr) (fun i _ => u.files.length - (intOf i).toNat)
            case atStart => exact ⟨0, by omega, rfl, HBs.out⟩
            case round =>
              obtain ⟨k, hk4, rfl, hb⟩ := hrel
              have HBt := Lib.hid hb; have HWt := Lib.hid (HW3.out.below hb)
              clear hb q5
              by_cases hlt3 : k < u.files.length
              · obtain ⟨b, o, rfl, -, hbs, a0⟩ := (V5.out.below HBt.out).str hlt3
                have hin := R5.out u.files[k] (List.getElem_mem hlt3)
                generalize u.files[k] = y at *
                have hhl := hasLn_any B4 m4 d4 wr (fun _ => True) u.heads (V4.out.below HBt.out) y 0
                rw [(hasLn_iff _ _).2 hin] at hhl
                have HHL := Lib.hid hhl
                have q4 := (cell_blk HWt.out.bu 4).trans rfl
                clear hhl hin
                go_wp2_with fail
                refine HHL.out.mono ?_
                rintro e w5 ⟨rfl, hb5⟩
                have HB5 := Lib.hid (HBt.out.trans (hb5.mono HBt.out.size))
                clear hb5 a0 q4 hbs
                go_wp2_with fail
                go_roundw
                case rel => exact ⟨k + 1, by omega, by go_num, HB5.out⟩
                case measure => simp [intOf] <;> omega
              · have q5 := (cell_blk HWt.out.bu 5).trans rfl; have p1 := (cell_blk HWt.out.bx 1).trans rfl
                have hcn := contains_any B5 u.files.length d5 wr _ u.files p (V5.out.below HBt.out)
                rw [show u.files.contains p = true by rw [List.contains_iff_mem]; exact R6.out] at hcn
                have HCN := Lib.hid hcn
                clear hcn
                go_wp2_with fail
                refine HCN.out.mono ?_
                rintro e w5 ⟨rfl, rfl⟩
                go_wp2_with fail
                refine (isSorted_any B5 u.files.length d5 wr _ u.files (V5.out.below HBt.out) R7.out).mono ?_
                rintro e w6 ⟨rfl, hb6⟩
                have HB6 := Lib.hid (HBt.out.trans (hb6.mono HBt.out.size)); have HW6 := Lib.hid (HWt.out.below hb6)
                have q1 := (cell_blk HW6.out.bu 1).trans rfl
                clear hb6 q5 p1
                go_wp2_with fail
                refine (isSorted_any B1 m1 d1 w6 _ u.flags (V1.out.below HB6.out) R8.out).mono ?_
                rintro e w7 ⟨rfl, hb7⟩
                have HB7 := Lib.hid (HW6.out.bl.trans (hb7.mono HW6.out.bl.size))
                clear hb7 q1
                go_wp2_with fail
                go_ret
                exact ⟨rfl, HB7.out⟩
end Go.Proofs.YtpeamehplhpcjaaGreatDoor
namespace Go.Proofs.YtpeamehplhpcjaaGreatDoor.sourceRoles
open Go.ChangeShapes Go.WideShapes Go.ChangeAt Go.RowKit
open Go.ChangeMaps (open_string shut_string)

theorem own : ownKnob Tryz.prog.godebug = none := by kernel_rfl
theorem laidOut : laidOutB Tryz.prog = true := by kernel_rfl

set_option maxRecDepth 100000 in
theorem lifted (os : Os) (started : os.Started) (H : Type) (enc : TypeId × Value → H) :
    ReturnsInHanded {} Tryz.checked os 7 .any (fun w args => (Rows.sourceRolesSpec.pre enc Tryz.prog Tryz.f7 [] false w args ∧ laidMetH Tryz.prog laidL w) ∧ sizedMet enc Tryz.prog Tryz.f7 (OpenSpec.ofChange Rows.sourceRolesSpec) false w args)
      (Rows.sourceRolesSpec.post enc Tryz.prog Tryz.f7 false true false false) := by
  refine handed (C := Tryz.checked) (X := fun w _ => laidMetH Tryz.prog laidL w) (fun _ _ _ hh h => h.of_heap hh) own started (by kernel_rfl) Tryz.func7
    (ChangeSpec.witness_shaped (enc := enc) (C := Tryz.checked) (os := os) (X := fun w _ => laidMetH Tryz.prog laidL w) false (World.laidAll Tryz.prog os laidL) #[.agg #[.slice none 0 0, .string ByteArray.empty, .slice none 0 0, .string ByteArray.empty, .int .i64 0, .string ByteArray.empty]] 8 (World.laidAll_os _ _ _)
      (World.shaped_of_ZipB (by kernel_rfl) (by kernel_rfl)) (by kernel_rfl) (by kernel_rfl) (by kernel_rfl)
      (by rw [MakeChecks.laidMetH_plain _ _ _ (by kernel_rfl)]; exact laidMet_laidAll _ (by kernel_rfl) (by kernel_rfl))) ?_
  intro W base args ds gs before hval0 hW hlaid hshape
  have hLD := ld_of hlaid hshape
  have hval : ∀ (j : Nat) t v, Tryz.f7.params[j]? = some t → args[j]? = some v → Value.okWide Tryz.prog W .any base t v := hval0
  have hW' := hW
  obtain ⟨p, q, hA0, hV, rfl, hfz, hnd⟩ := hW
  have hA : DataW.TrodAll enc Tryz.prog W 0 (fun _ => true) true Tryz.f7.params.toList args.toList ds p := hA0
  rw [Tryz.params7] at hA hval
  obtain ⟨v0, vs0, d0, ds0, p0, q0, hargs, rfl, rfl, h0, r0⟩ := trodAll_cons hA
  obtain ⟨rfl, rfl, rfl⟩ := trodAll_nil r0
  obtain rfl : args = #[v0] := by cases args; simp_all
  obtain ⟨rfl, rfl⟩ := trodVars_none hV
  obtain ⟨cs0, rfl, hsz0⟩ := okWide_struct Tryz.underlying55 (hval 0 55 v0 rfl rfl)
  have k0 := h0
  have lt0 : ∀ x ∈ p0, x.block < W.heap.size := by obtain ⟨m, hm⟩ := k0; exact DataW.trod_lt m _ _ _ hm
  obtain ⟨l0, s0, f0⟩ := openScn h0
  clear hA0 hval0
  have hw := sourceRoles_walk W _ l0 s0 f0 hLD
  refine hw.mono fun e W' ⟨he, bel⟩ => ?_
  subst he
  exact ⟨_, rfl, _, _, _, [], _, [], hW', trodAll_mk1 (shut_bool Tryz.underlying4 _), (trodAll_cons_mk (Below.trod laidOut (by kernel_rfl) (of_decide_eq_true (by kernel_rfl)) k0 bel lt0) trodAll_mk0), rfl, bel.frame _, fun h => by cases h⟩

theorem over : Rows.sourceRolesRow.holds Tryz.pinned (OpenSpec.ofChange Rows.sourceRolesSpec) :=
  OpenClaim.holds_of_wide 7 Tryz.f7 rfl rfl rfl rfl rfl rfl rfl ⟨rfl, rfl, rfl, rfl, rfl⟩ rfl rfl rfl rfl rfl (by kernel_rfl) Tryz.func7 (by kernel_rfl)
    (of_decide_eq_true (by kernel_rfl)) (by unfold Func.isWrapper; first | (rw [if_pos (by decide +kernel)]; kernel_rfl) | (rw [if_neg (by decide +kernel)]; exact ⟨rfl, rfl⟩))
    (fun os started H enc _ => lifted os started H enc)

theorem proved : Rows.SourceRolesCardSaid :=
  Claim7.holds_tied_plain_at .later [] _ _ _ _ over (fun _ h => by cases h) (by kernel_rfl) (fun _ h => by cases h) sourceRoles_row_tie rfl ⟨rfl, rfl⟩ (by kernel_rfl) rfl
    (fun f fn hf hfn => by
      obtain rfl : f = 7 := Option.some.inj ((show Tryz.prog.funcNamed "licit/licitlaw06.SourceRoles" = some 7 by kernel_rfl).symm.trans hf) |>.symm
      obtain rfl : fn = Tryz.f7 := (Option.some.inj (Tryz.func7.symm.trans hfn)).symm
      exact ⟨by kernel_rfl, fun j t ht => by
        rw [Tryz.params7] at ht
        have hm : t ∈ [55] := by simpa using Array.mem_of_getElem? ht
        have hall : ([55].all fun u => !Tryz.prog.wantsStandIn u) = true := by kernel_rfl
        exact (show Tryz.prog.wantsStandIn t = false by simpa using List.all_eq_true.1 hall t hm)⟩)
    (by kernel_rfl)
#print axioms proved
end Go.Proofs.YtpeamehplhpcjaaGreatDoor.sourceRoles
