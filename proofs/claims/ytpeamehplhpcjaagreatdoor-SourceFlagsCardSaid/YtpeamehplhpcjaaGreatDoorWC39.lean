/- A part of the proofs of the laws of one package; see the law's own text, which comes last in 'order'. No conditions of its own. -/
import Derived.Test.YtpeamehplhpcjaaGreatDoorWC13
import Derived.Test.YtpeamehplhpcjaaGreatDoorWC16
import Derived.Test.YtpeamehplhpcjaaGreatDoorWC24
import Derived.Test.YtpeamehplhpcjaaGreatDoorWC25
import Derived.Test.YtpeamehplhpcjaaGreatDoorWC31
import Derived.Test.YtpeamehplhpcjaaGreatDoorWC33
import Derived.Test.YtpeamehplhpcjaaGreatDoorWC36
import Derived.Test.YtpeamehplhpcjaaGreatDoorWC37
import Derived.Test.YtpeamehplhpcjaaGreatDoorWC38
set_option linter.unusedVariables false
set_option linter.unusedSimpArgs false
namespace Go.Proofs.YtpeamehplhpcjaaGreatDoor
open Go.RowKit
def lscanS (x : Scn) : Unt × Bool := if few6S x.tree x.flags && (decide (x.path.length ≤ 300) && decide (x.text.length ≤ 300)) then ((scanS x.tree x.path x.flags).1, (scanS x.tree x.path x.flags).2.err == 0) else (unt0, false)
structure LsW (w W : World) (cx : Array Value) : Prop where
  bl : Below w.heap.size w W
  bx : W.heap[w.heap.size]? = some (.cells cx 55 (0, 0))
  res : W.heap[w.heap.size + 1]? = some (.cells #[.string ⟨#[]⟩, .slice none 0 0, .slice none 0 0, .slice none 0 0, .slice none 0 0, .slice none 0 0] 36 (0, 0))
theorem LsW.below {w W W' : World} {cx : Array Value} (h : LsW w W cx) (hb : Below W.heap.size W W') : LsW w W' cx := ⟨h.bl.trans (hb.mono h.bl.size), keptBlk hb h.bx, keptBlk hb h.res⟩
theorem LsW.lt {w W : World} {cx : Array Value} (h : LsW w W cx) : w.heap.size + 2 ≤ W.heap.size := (Array.getElem?_eq_some_iff.1 h.res).1
theorem LsW.fin {w W : World} {cx : Array Value} (h : LsW w W cx) (a0 a1 a2 a3 a4 a5 : Value) :
    Below w.heap.size w ((((((W.setCell ⟨w.heap.size + 1, 0, none⟩ a0).setCell ⟨w.heap.size + 1, 1, none⟩ a1).setCell ⟨w.heap.size + 1, 2, none⟩ a2).setCell ⟨w.heap.size + 1, 3, none⟩ a3).setCell ⟨w.heap.size + 1, 4, none⟩ a4).setCell ⟨w.heap.size + 1, 5, none⟩ a5) :=
  (((((h.bl.setCell (p := ⟨w.heap.size + 1, 0, none⟩) (Nat.le_succ _) _).setCell (p := ⟨w.heap.size + 1, 1, none⟩) (Nat.le_succ _) _).setCell (p := ⟨w.heap.size + 1, 2, none⟩) (Nat.le_succ _) _).setCell (p := ⟨w.heap.size + 1, 3, none⟩) (Nat.le_succ _) _).setCell (p := ⟨w.heap.size + 1, 4, none⟩) (Nat.le_succ _) _).setCell (p := ⟨w.heap.size + 1, 5, none⟩) (Nat.le_succ _) _
theorem vunt0 (w : World) : VUnt w (.agg #[.string ⟨#[]⟩, .slice none 0 0, .slice none 0 0, .slice none 0 0, .slice none 0 0, .slice none 0 0]) unt0 :=
  ⟨none, 0, 0, none, 0, 0, none, 0, 0, none, 0, 0, none, 0, 0, rfl, Sl.nil _ _ _ _ (by decide), Sl.nil _ _ _ _ (by decide), Sl.nil _ _ _ _ (by decide), Sl.nil _ _ _ _ (by decide), Sl.nil _ _ _ _ (by decide)⟩
set_option maxRecDepth 100000 in
set_option maxHeartbeats 4000000 in
theorem lscan_any (w : World) (v : Value) (x : Scn) (hv : VScn w v x) (hL : LS w) :
    Calls Tryz.prog 20 #[v] w fun e w' => ∃ V, e = .returned (.tuple #[V, .bool (lscanS x).2]) ∧ VUnt w' V (lscanS x).1 ∧ Below w.heap.size w w' := by
  obtain ⟨A, n, c, A2, n2, c2, rfl, hl, hl2⟩ := hv
  obtain ⟨t, p, fl, ⟨lp, lz⟩, tx⟩ := x
  simp only at hl hl2
  obtain ⟨R, hR⟩ : ∃ R, R = lscanS ⟨t, p, fl, ⟨lp, lz⟩, tx⟩ := ⟨_, rfl⟩
  rw [← hR]
  unfold lscanS at hR
  simp only at hR ⊢
  have hfw := fun w h1 h2 => few6_any A A2 n c n2 c2 w (fun _ => True) (fun _ => True) t fl h1 h2
  have hfo := @few6_ok t fl
  generalize few6S t fl = q at *
  have HR := Lib.hid hR; have HF := Lib.hid hfw; have HT := Lib.hid hl; have HT2 := Lib.hid hl2; have HL := Lib.hid hL; have HFO := Lib.hid hfo
  clear hR hfw hl hl2 hL hfo
  go_enter Tryz.func20, Tryz.ntmps20
  go_upto_region 1 with fail
  have hW : LsW w ((w.alloc (.cells #[.slice A n c, .string ⟨p.toArray⟩, .slice A2 n2 c2, .string ⟨lp.toArray⟩, .int .i64 lz, .string ⟨tx.toArray⟩] 55)).alloc (.cells #[.string ⟨#[]⟩, .slice none 0 0, .slice none 0 0, .slice none 0 0, .slice none 0 0, .slice none 0 0] 36)) #[.slice A n c, .string ⟨p.toArray⟩, .slice A2 n2 c2, .string ⟨lp.toArray⟩, .int .i64 lz, .string ⟨tx.toArray⟩] := ⟨by ((repeat (first | (with_reducible exact Below.refl _ _) | (with_reducible refine belowA ?_ _) | (with_reducible refine belowD ?_) | (with_reducible refine belowS ?_ (Nat.le_refl _) _ _) | (with_reducible refine next ?_ (by assumption) (Nat.le_refl _)))); done), blkOld (blkAt _ _ rfl) _, blkAt _ _ (by simp)⟩
  generalize ((w.alloc (.cells #[.slice A n c, .string ⟨p.toArray⟩, .slice A2 n2 c2, .string ⟨lp.toArray⟩, .int .i64 lz, .string ⟨tx.toArray⟩] 55)).alloc (.cells #[.string ⟨#[]⟩, .slice none 0 0, .slice none 0 0, .slice none 0 0, .slice none 0 0, .slice none 0 0] 36)) = W at *
  have HW := Lib.hid hW
  clear hW
  have p0 := (cell_blk HW.out.bx 0).trans rfl; have p2 := (cell_blk HW.out.bx 2).trans rfl
  go_wp2_with fail
  refine (HF.out W (HT.out.below HW.out.bl) (HT2.out.below HW.out.bl)).mono ?_
  rintro e w1 ⟨rfl, hb1⟩
  have HW1 := Lib.hid (HW.out.below hb1)
  clear hb1 HW HF p0 p2
  have p1 := (cell_blk HW1.out.bx 1).trans rfl; have p5 := (cell_blk HW1.out.bx 5).trans rfl
  by_cases hok : q = true ∧ p.length ≤ 300 ∧ tx.length ≤ 300
  · obtain ⟨rfl, hp3, ht3⟩ := hok
    have hr := HR.out
    rw [decide_eq_true hp3, decide_eq_true ht3] at hr
    have hr : R = ((scanS t p fl).1, (scanS t p fl).2.err == 0) := hr
    obtain ⟨hfp, hft, hff, hfl⟩ := HFO.out rfl
    have hsc := fun w' h1 h2 h3 => scan_any A n c A2 n2 c2 w' (fun _ => True) (fun _ => True) t p fl h1 h2 h3 (fun f hf => by have := hfp f hf; omega) (fun ht f hf => by have := (tree_ok ht f hf).2; omega) (by omega) (fun s hs => by have := hff s hs; omega)
    have hune := unit_ne t p fl
    generalize scanS t p fl = X at *
    obtain ⟨xu, ⟨xe, xk, xs, ⟨xlp, xln⟩⟩⟩ := X
    simp only at hr hune
    have HSC := Lib.hid hsc; have HRR := Lib.hid hr; have HUN := Lib.hid hune
    clear hsc hr HR hfp hff HFO hune
    have hpi : ¬ (300 < (p.length : Int)) := by omega
    have hti : ¬ (300 < (tx.length : Int)) := by omega
    go_upto_region 3 with fail
    have p0 := (cell_blk HW1.out.bx 0).trans rfl; have p2 := (cell_blk HW1.out.bx 2).trans rfl
    go_wp2_with fail
    refine (HSC.out w1 (HT.out.below HW1.out.bl) (HT2.out.below HW1.out.bl) (HL.out.below HW1.out.bl)).mono ?_
    rintro e w2 ⟨V, rfl, hV, hb2⟩
    have HW2 := Lib.hid (HW1.out.below hb2)
    obtain ⟨B1, m1, d1, B2, m2, d2, B3, m3, d3, B4, m4, d4, B5, m5, d5, rfl, hV⟩ := hV
    have HV := Lib.hid hV
    have hl1 := HW1.out.lt
    have hs12 := hb2.size
    clear hV hb2 p0 p1 p2 p5 HSC
    unfold vFlt
    go_upto_region 4 with fail
    have hbW : Below w2.heap.size w2 ((w2.alloc (.cells #[.string ⟨xu.path.toArray⟩, .slice B1 m1 d1, .slice B2 m2 d2, .slice B3 m3 d3, .slice B4 m4 d4, .slice B5 m5 d5] 36)).alloc (.cells #[.int .i64 xe, .int .i64 xk, .int .i64 xs, .string ⟨xlp.toArray⟩, .int .i64 xln] 40)) := by ((repeat (first | (with_reducible exact Below.refl _ _) | (with_reducible refine belowA ?_ _) | (with_reducible refine belowD ?_) | (with_reducible refine belowS ?_ (Nat.le_refl _) _ _) | (with_reducible refine next ?_ (by assumption) (Nat.le_refl _)))); done)
    have hg1 : ((w2.alloc (.cells #[.string ⟨xu.path.toArray⟩, .slice B1 m1 d1, .slice B2 m2 d2, .slice B3 m3 d3, .slice B4 m4 d4, .slice B5 m5 d5] 36)).alloc (.cells #[.int .i64 xe, .int .i64 xk, .int .i64 xs, .string ⟨xlp.toArray⟩, .int .i64 xln] 40)).heap[w2.heap.size]? = some (.cells #[.string ⟨xu.path.toArray⟩, .slice B1 m1 d1, .slice B2 m2 d2, .slice B3 m3 d3, .slice B4 m4 d4, .slice B5 m5 d5] 36 (0, 0)) := blkOld (blkAt _ _ rfl) _
    have hg2 : ((w2.alloc (.cells #[.string ⟨xu.path.toArray⟩, .slice B1 m1 d1, .slice B2 m2 d2, .slice B3 m3 d3, .slice B4 m4 d4, .slice B5 m5 d5] 36)).alloc (.cells #[.int .i64 xe, .int .i64 xk, .int .i64 xs, .string ⟨xlp.toArray⟩, .int .i64 xln] 40)).heap[w2.heap.size + 1]? = some (.cells #[.int .i64 xe, .int .i64 xk, .int .i64 xs, .string ⟨xlp.toArray⟩, .int .i64 xln] 40 (0, 0)) := blkAt _ _ (by simp)
    generalize ((w2.alloc (.cells #[.string ⟨xu.path.toArray⟩, .slice B1 m1 d1, .slice B2 m2 d2, .slice B3 m3 d3, .slice B4 m4 d4, .slice B5 m5 d5] 36)).alloc (.cells #[.int .i64 xe, .int .i64 xk, .int .i64 xs, .string ⟨xlp.toArray⟩, .int .i64 xln] 40)) = W3 at *
    have HV3 := Lib.hid (show VUnt W3 (.agg #[.string ⟨xu.path.toArray⟩, .slice B1 m1 d1, .slice B2 m2 d2, .slice B3 m3 d3, .slice B4 m4 d4, .slice B5 m5 d5]) xu from VUnt.below ⟨B1, m1, d1, B2, m2, d2, B3, m3, d3, B4, m4, d4, B5, m5, d5, rfl, HV.out⟩ hbW)
    have HW3 := Lib.hid (HW2.out.below hbW)
    clear hbW HW2 HV
    have HX := Lib.hid (fun (z : World) (hz : z.heap[w2.heap.size]? = some (.cells #[.string ⟨xu.path.toArray⟩, .slice B1 m1 d1, .slice B2 m2 d2, .slice B3 m3 d3, .slice B4 m4 d4, .slice B5 m5 d5] 36 (0, 0)) ∧ z.heap[w2.heap.size + 1]? = some (.cells #[.int .i64 xe, .int .i64 xk, .int .i64 xs, .string ⟨xlp.toArray⟩, .int .i64 xln] 40 (0, 0))) => And.intro ((cell_blk hz.1 0).trans rfl) (And.intro ((cell_blk hz.1 1).trans rfl) (And.intro ((cell_blk hz.1 2).trans rfl) (And.intro ((cell_blk hz.1 3).trans rfl) (And.intro ((cell_blk hz.1 4).trans rfl) (And.intro ((cell_blk hz.1 5).trans rfl) ((cell_blk hz.2 0).trans rfl)))))))
    refine wpH_region (fun z => z.heap[w2.heap.size]? = some (.cells #[.string ⟨xu.path.toArray⟩, .slice B1 m1 d1, .slice B2 m2 d2, .slice B3 m3 d3, .slice B4 m4 d4, .slice B5 m5 d5] 36 (0, 0)) ∧ z.heap[w2.heap.size + 1]? = some (.cells #[.int .i64 xe, .int .i64 xk, .int .i64 xs, .string ⟨xlp.toArray⟩, .int .i64 xln] 40 (0, 0))) (by kernel_rfl) ?_
    have hS := And.intro (blkDrw hg1) (blkDrw hg2)
    have HW4 := Lib.hid (HW3.out.below (Below.refl _ _).drew); have HV4 := Lib.hid (HV3.out.below (Below.refl _ _).drew)
    generalize W3.drew = W4 at *
    clear hg1 hg2 HW3 HV3
    (refine tkW 0 (v := ?_) hS ?_ ?_; rotate_left; (focus (intro x hx; have fx := HX.out x hx; go_simp; (try with_reducible rfl); done)); (try simp only [Act.put, lsa, lsz, lss]))
    (refine tkW 1 (v := ?_) hS ?_ ?_; rotate_left; (focus (intro x hx; have fx := HX.out x hx; go_simp; (try with_reducible rfl); done)); (try simp only [Act.put, lsa, lsz, lss]))
    (refine tkW 2 (v := ?_) hS ?_ ?_; rotate_left; (focus (intro x hx; have fx := HX.out x hx; go_simp; (try with_reducible rfl); done)); (try simp only [Act.put, lsa, lsz, lss]))
    (refine tkW 3 (v := ?_) hS ?_ ?_; rotate_left; (focus (intro x hx; have fx := HX.out x hx; go_simp; (try with_reducible rfl); done)); (try simp only [Act.put, lsa, lsz, lss]))
    clear HX
    (have r0 := (cell_blk HW4.out.res 0).trans rfl); (have r1 := (cell_blk HW4.out.res 1).trans rfl); (have r2 := (cell_blk HW4.out.res 2).trans rfl); (have r3 := (cell_blk HW4.out.res 3).trans rfl); (have r4 := (cell_blk HW4.out.res 4).trans rfl); (have r5 := (cell_blk HW4.out.res 5).trans rfl); (have z0 := frz_blk HW4.out.res 0); (have z1 := frz_blk HW4.out.res 1); (have z2 := frz_blk HW4.out.res 2); (have z3 := frz_blk HW4.out.res 3); (have z4 := frz_blk HW4.out.res 4); (have z5 := frz_blk HW4.out.res 5)
    (refine wpAnyH_one 4 (by kernel_rfl) rfl ?_; intro K' hK'; go_simp; refine hK'.out _ _ ⟨(set6_other _ _ _ _ _ _ _ _ (by omega)).trans hS.1, (set6_other _ _ _ _ _ _ _ _ (by omega)).trans hS.2⟩ ?_; clear hK' K')
    (refine wpAnyH_one 5 (by kernel_rfl) rfl ?_; intro K' hK'; go_simp; refine hK'.out _ _ ⟨(set6_other _ _ _ _ _ _ _ _ (by omega)).trans hS.1, (set6_other _ _ _ _ _ _ _ _ (by omega)).trans hS.2⟩ ?_; clear hK' K')
    refine wpAnyH_done (by kernel_rfl) ?_ _
    clear r0 r1 r2 r3 r4 r5 z0 z1 z2 z3 z4 z5
    go_wp2_with fail
    (have hRF := Blk.set6 _ HW4.out.res (.string ⟨xu.path.toArray⟩) (.slice B1 m1 d1) (.slice B2 m2 d2) (.slice B3 m3 d3) (.slice B4 m4 d4) (.slice B5 m5 d5)); (have q0 := (cell_blk hRF 0).trans rfl); (have q1 := (cell_blk hRF 1).trans rfl); (have q2 := (cell_blk hRF 2).trans rfl); (have q3 := (cell_blk hRF 3).trans rfl); (have q4 := (cell_blk hRF 4).trans rfl); (have q5 := (cell_blk hRF 5).trans rfl)
    refine bodyPost_ret (v := .tuple #[.agg #[.string ⟨xu.path.toArray⟩, .slice B1 m1 d1, .slice B2 m2 d2, .slice B3 m3 d3, .slice B4 m4 d4, .slice B5 m5 d5], .bool (xe == 0)]) (by simp [results, Tryz.results20, go_sem, q0, q1, q2, q3, q4, q5]) rfl ?_
    exact ⟨_, by rw [HRR.out], by rw [HRR.out]; exact HV4.out.turn HUN.out HW4.out.res (fun k hk => set6_other _ _ _ _ _ _ _ _ hk), HW4.out.fin _ _ _ _ _ _⟩
  · have HR2 : Hid (R = (unt0, false)) := Lib.hid (by
      rw [HR.out, if_neg]
      simp only [Bool.and_eq_true, decide_eq_true_eq]
      exact hok)
    cases q with
    | false => ((have r0 := (cell_blk HW1.out.res 0).trans rfl); (have r1 := (cell_blk HW1.out.res 1).trans rfl); (have r2 := (cell_blk HW1.out.res 2).trans rfl); (have r3 := (cell_blk HW1.out.res 3).trans rfl); (have r4 := (cell_blk HW1.out.res 4).trans rfl); (have r5 := (cell_blk HW1.out.res 5).trans rfl); (have z0 := frz_blk HW1.out.res 0); (have z1 := frz_blk HW1.out.res 1); (have z2 := frz_blk HW1.out.res 2); (have z3 := frz_blk HW1.out.res 3); (have z4 := frz_blk HW1.out.res 4); (have z5 := frz_blk HW1.out.res 5)); (go_wp2_with fail); ((have hRF := Blk.set6 _ HW1.out.res (.string ⟨#[]⟩) (.slice none 0 0) (.slice none 0 0) (.slice none 0 0) (.slice none 0 0) (.slice none 0 0)); (have q0 := (cell_blk hRF 0).trans rfl); (have q1 := (cell_blk hRF 1).trans rfl); (have q2 := (cell_blk hRF 2).trans rfl); (have q3 := (cell_blk hRF 3).trans rfl); (have q4 := (cell_blk hRF 4).trans rfl); (have q5 := (cell_blk hRF 5).trans rfl)); (refine bodyPost_ret (v := .tuple #[.agg #[.string ⟨#[]⟩, .slice none 0 0, .slice none 0 0, .slice none 0 0, .slice none 0 0, .slice none 0 0], .bool false]) (by simp [results, Tryz.results20, go_sem, q0, q1, q2, q3, q4, q5]) rfl ?_); (exact ⟨_, by rw [HR2.out], by rw [HR2.out]; exact vunt0 _, HW1.out.fin _ _ _ _ _ _⟩)
    | true =>
      by_cases hp3 : (300 : Int) < (p.length : Int)
      · ((have r0 := (cell_blk HW1.out.res 0).trans rfl); (have r1 := (cell_blk HW1.out.res 1).trans rfl); (have r2 := (cell_blk HW1.out.res 2).trans rfl); (have r3 := (cell_blk HW1.out.res 3).trans rfl); (have r4 := (cell_blk HW1.out.res 4).trans rfl); (have r5 := (cell_blk HW1.out.res 5).trans rfl); (have z0 := frz_blk HW1.out.res 0); (have z1 := frz_blk HW1.out.res 1); (have z2 := frz_blk HW1.out.res 2); (have z3 := frz_blk HW1.out.res 3); (have z4 := frz_blk HW1.out.res 4); (have z5 := frz_blk HW1.out.res 5)); (go_wp2_with fail); ((have hRF := Blk.set6 _ HW1.out.res (.string ⟨#[]⟩) (.slice none 0 0) (.slice none 0 0) (.slice none 0 0) (.slice none 0 0) (.slice none 0 0)); (have q0 := (cell_blk hRF 0).trans rfl); (have q1 := (cell_blk hRF 1).trans rfl); (have q2 := (cell_blk hRF 2).trans rfl); (have q3 := (cell_blk hRF 3).trans rfl); (have q4 := (cell_blk hRF 4).trans rfl); (have q5 := (cell_blk hRF 5).trans rfl)); (refine bodyPost_ret (v := .tuple #[.agg #[.string ⟨#[]⟩, .slice none 0 0, .slice none 0 0, .slice none 0 0, .slice none 0 0, .slice none 0 0], .bool false]) (by simp [results, Tryz.results20, go_sem, q0, q1, q2, q3, q4, q5]) rfl ?_); (exact ⟨_, by rw [HR2.out], by rw [HR2.out]; exact vunt0 _, HW1.out.fin _ _ _ _ _ _⟩)
      · have ht3 : (300 : Int) < (tx.length : Int) := by
          have : ¬ (p.length ≤ 300 ∧ tx.length ≤ 300) := fun h => hok ⟨rfl, h.1, h.2⟩
          omega
        ((have r0 := (cell_blk HW1.out.res 0).trans rfl); (have r1 := (cell_blk HW1.out.res 1).trans rfl); (have r2 := (cell_blk HW1.out.res 2).trans rfl); (have r3 := (cell_blk HW1.out.res 3).trans rfl); (have r4 := (cell_blk HW1.out.res 4).trans rfl); (have r5 := (cell_blk HW1.out.res 5).trans rfl); (have z0 := frz_blk HW1.out.res 0); (have z1 := frz_blk HW1.out.res 1); (have z2 := frz_blk HW1.out.res 2); (have z3 := frz_blk HW1.out.res 3); (have z4 := frz_blk HW1.out.res 4); (have z5 := frz_blk HW1.out.res 5)); (go_wp2_with fail); ((have hRF := Blk.set6 _ HW1.out.res (.string ⟨#[]⟩) (.slice none 0 0) (.slice none 0 0) (.slice none 0 0) (.slice none 0 0) (.slice none 0 0)); (have q0 := (cell_blk hRF 0).trans rfl); (have q1 := (cell_blk hRF 1).trans rfl); (have q2 := (cell_blk hRF 2).trans rfl); (have q3 := (cell_blk hRF 3).trans rfl); (have q4 := (cell_blk hRF 4).trans rfl); (have q5 := (cell_blk hRF 5).trans rfl)); (refine bodyPost_ret (v := .tuple #[.agg #[.string ⟨#[]⟩, .slice none 0 0, .slice none 0 0, .slice none 0 0, .slice none 0 0, .slice none 0 0], .bool false]) (by simp [results, Tryz.results20, go_sem, q0, q1, q2, q3, q4, q5]) rfl ?_); (exact ⟨_, by rw [HR2.out], by rw [HR2.out]; exact vunt0 _, HW1.out.fin _ _ _ _ _ _⟩)
theorem lscan_ok {x : Scn} (h : (lscanS x).2 = true) : few6S x.tree x.flags = true ∧ x.path.length ≤ 300 ∧ x.text.length ≤ 300 ∧ (lscanS x).1 = (scanS x.tree x.path x.flags).1 ∧ (scanS x.tree x.path x.flags).2.err = 0 := by
  unfold lscanS at h ⊢
  by_cases hc : (few6S x.tree x.flags && (decide (x.path.length ≤ 300) && decide (x.text.length ≤ 300))) = true
  · rw [if_pos hc] at h ⊢
    simp only [Bool.and_eq_true, decide_eq_true_eq] at hc
    exact ⟨hc.1, hc.2.1, hc.2.2, rfl, by simpa using h⟩
  · rw [if_neg hc] at h
    cases h
structure LaW (w W : World) (cx : Array Value) (g : Nat) (cu : Array Value) : Prop where
  bl : Below w.heap.size w W
  bx : W.heap[w.heap.size]? = some (.cells cx 55 (0, 0))
  bu : W.heap[g]? = some (.cells cu 36 (0, 0))
theorem LaW.below {w W W' : World} {cx cu : Array Value} {g : Nat} (h : LaW w W cx g cu) (hb : Below W.heap.size W W') : LaW w W' cx g cu := ⟨h.bl.trans (hb.mono h.bl.size), keptBlk hb h.bx, keptBlk hb h.bu⟩
theorem scan_tree {t : List Fil} {p : Bs} {fl : List Bs} (hf0 : (scanS t p fl).2.err = 0) : treeS t = 0 := by
  unfold scanS startS at hf0
  simp only at hf0
  by_cases h : treeS t = 0
  · exact h
  · rw [if_pos h] at hf0
    simp at hf0
end Go.Proofs.YtpeamehplhpcjaaGreatDoor
namespace Go.Proofs.YtpeamehplhpcjaaGreatDoor
open Go.RowKit
structure WiW (w W : World) (c1 c2 c3 : Array Value) : Prop where
  bl : Below w.heap.size w W
  b1 : W.heap[w.heap.size]? = some (.cells c1 55 (0, 0))
  b2 : W.heap[w.heap.size + 1]? = some (.cells c2 36 (0, 0))
  b3 : W.heap[w.heap.size + 2]? = some (.cells c3 46 (0, 0))
theorem WiW.below {w W W' : World} {c1 c2 c3 : Array Value} (h : WiW w W c1 c2 c3) (hb : Below W.heap.size W W') : WiW w W' c1 c2 c3 := ⟨h.bl.trans (hb.mono h.bl.size), keptBlk hb h.b1, keptBlk hb h.b2, keptBlk hb h.b3⟩
theorem VUnt.heads {w : World} {u : Unt} {p : Bs} {B1 B2 B3 B4 B5 : Option Addr} {m1 d1 m2 d2 m3 d3 m4 d4 m5 d5 : Nat} (h : VUnt w (.agg #[.string ⟨p.toArray⟩, .slice B1 m1 d1, .slice B2 m2 d2, .slice B3 m3 d3, .slice B4 m4 d4, .slice B5 m5 d5]) u) :
    Sl w (fun _ => True) B1 m1 d1 u.flags ∧ Sl w (fun _ => True) B2 m2 d2 u.macros ∧ Sl w (fun _ => True) B3 m3 d3 u.items ∧ Sl w (fun _ => True) B4 m4 d4 u.heads ∧ Sl w (fun _ => True) B5 m5 d5 u.files := by
  obtain ⟨A1, n1, c1, A2, n2, c2, A3, n3, c3, A4, n4, c4, A5, n5, c5, he, h1, h2, h3, h4, h5⟩ := h
  injection he with he
  simp only [Array.mk.injEq, List.cons.injEq, Value.slice.injEq] at he
  obtain ⟨-, ⟨rfl, rfl, rfl⟩, ⟨rfl, rfl, rfl⟩, ⟨rfl, rfl, rfl⟩, ⟨rfl, rfl, rfl⟩, ⟨rfl, rfl, rfl⟩, -⟩ := he
  exact ⟨h1, h2, h3, h4, h5⟩
end Go.Proofs.YtpeamehplhpcjaaGreatDoor
