/- A part of the proofs of the laws of one package; see the law's own text, which comes last in 'order'. No conditions of its own. -/
import Derived.Test.YtpeamehplhpcjaaGreatDoorRows
import Derived.Deep.Slices
import Derived.Deep.Strs
import Derived.ProofKit
import Derived.OpenShut
import Derived.MakeChecks
import Derived.Handed
import Derived.SizedLaws
import Derived.Test.YtpeamehplhpcjaaGreatDoorWB08
import Derived.Test.YtpeamehplhpcjaaGreatDoorWB27
import Derived.Test.YtpeamehplhpcjaaGreatDoorWB38
set_option linter.unusedVariables false
set_option linter.unusedSimpArgs false
namespace Go.Proofs.YtpeamehplhpcjaaGreatDoor
open Go.RowKit
structure SaW (w W : World) (c1 c2 : Array Value) : Prop where
  bl : Below w.heap.size w W
  b1 : W.heap[w.heap.size]? = some (.cells c1 36 (0, 0))
  b2 : W.heap[w.heap.size + 1]? = some (.cells c2 36 (0, 0))
theorem SaW.below {w W W' : World} {c1 c2 : Array Value} (h : SaW w W c1 c2) (hb : Below W.heap.size W W') : SaW w W' c1 c2 := ⟨h.bl.trans (hb.mono h.bl.size), keptBlk hb h.b1, keptBlk hb h.b2⟩
set_option maxRecDepth 100000 in
set_option maxHeartbeats 8000000 in
theorem sameU_any (w : World) (v v' : Value) (u : Unt) (h : VUnt w v u) (h' : VUnt w v' u) :
    Calls Tryz.prog 15 #[v, v'] w fun e w' => e = .returned (.bool true) ∧ Below w.heap.size w w' := by
  obtain ⟨A1, n1, c1, A2, n2, c2, A3, n3, c3, A4, n4, c4, A5, n5, c5, rfl, h1, h2, h3, h4, h5⟩ := h
  obtain ⟨A1', n1', c1', A2', n2', c2', A3', n3', c3', A4', n4', c4', A5', n5', c5', rfl, h1', h2', h3', h4', h5'⟩ := h'
  obtain ⟨up, uf, um, ui, uh, ul⟩ := u
  simp only at h1 h2 h3 h4 h5 h1' h2' h3' h4' h5' ⊢
  have e2 := h2.len; have e2' := h2'.len; have e3 := h3.len; have e3' := h3'.len
  have l2 := h2.le; have l3 := h3.le
  subst e2 e2' e3 e3'
  have H1 := Lib.hid h1; have H2 := Lib.hid h2; have H3 := Lib.hid h3; have H4 := Lib.hid h4; have H5 := Lib.hid h5
  have H1' := Lib.hid h1'; have H2' := Lib.hid h2'; have H3' := Lib.hid h3'; have H4' := Lib.hid h4'; have H5' := Lib.hid h5'
  clear h1 h2 h3 h4 h5 h1' h2' h3' h4' h5'
  go_enter Tryz.func15, Tryz.ntmps15
  go_upto_region 1 with fail
  have hW : SaW w ((w.alloc (.cells #[.string ⟨up.toArray⟩, .slice A1 n1 c1, .slice A2 um.length c2, .slice A3 ui.length c3, .slice A4 n4 c4, .slice A5 n5 c5] 36)).alloc (.cells #[.string ⟨up.toArray⟩, .slice A1' n1' c1', .slice A2' um.length c2', .slice A3' ui.length c3', .slice A4' n4' c4', .slice A5' n5' c5'] 36)) #[.string ⟨up.toArray⟩, .slice A1 n1 c1, .slice A2 um.length c2, .slice A3 ui.length c3, .slice A4 n4 c4, .slice A5 n5 c5] #[.string ⟨up.toArray⟩, .slice A1' n1' c1', .slice A2' um.length c2', .slice A3' ui.length c3', .slice A4' n4' c4', .slice A5' n5' c5'] := ⟨by ((repeat (first | (with_reducible exact Below.refl _ _) | (with_reducible refine belowA ?_ _) | (with_reducible refine belowD ?_) | (with_reducible refine belowS ?_ (Nat.le_refl _) _ _) | (with_reducible refine next ?_ (by assumption) (Nat.le_refl _)))); done), blkOld (blkAt _ _ rfl) _, blkAt _ _ (by simp)⟩
  generalize ((w.alloc (.cells #[.string ⟨up.toArray⟩, .slice A1 n1 c1, .slice A2 um.length c2, .slice A3 ui.length c3, .slice A4 n4 c4, .slice A5 n5 c5] 36)).alloc (.cells #[.string ⟨up.toArray⟩, .slice A1' n1' c1', .slice A2' um.length c2', .slice A3' ui.length c3', .slice A4' n4' c4', .slice A5' n5' c5'] 36)) = W at *
  have HW := Lib.hid hW
  clear hW
  have p0 := (cell_blk HW.out.b1 0).trans rfl; have p1 := (cell_blk HW.out.b1 1).trans rfl
  have q0 := (cell_blk HW.out.b2 0).trans rfl; have q1 := (cell_blk HW.out.b2 1).trans rfl
  go_wp2_with fail
  refine (sameStr_any A1 A1' n1 c1 n1' c1' W _ _ uf (H1.out.below HW.out.bl) (H1'.out.below HW.out.bl)).mono ?_
  rintro e w1 ⟨rfl, hb1⟩
  have HW1 := Lib.hid (HW.out.below hb1)
  clear hb1 p0 p1 q0 q1
  have p2 := (cell_blk HW1.out.b1 2).trans rfl; have p3 := (cell_blk HW1.out.b1 3).trans rfl; have p4 := (cell_blk HW1.out.b1 4).trans rfl
  have q2 := (cell_blk HW1.out.b2 2).trans rfl; have q3 := (cell_blk HW1.out.b2 3).trans rfl; have q4 := (cell_blk HW1.out.b2 4).trans rfl
  go_wp2_with fail
  refine (sameLns_any A4 A4' n4 c4 n4' c4' w1 _ _ uh (H4.out.below HW1.out.bl) (H4'.out.below HW1.out.bl)).mono ?_
  rintro e w2 ⟨rfl, hb2⟩
  have HW2 := Lib.hid (HW1.out.below hb2)
  clear hb2 p2 p3 p4 q2 q3 q4
  have p5 := (cell_blk HW2.out.b1 5).trans rfl; have q5 := (cell_blk HW2.out.b2 5).trans rfl
  go_wp2_with fail
  refine (sameStr_any A5 A5' n5 c5 n5' c5' w2 _ _ ul (H5.out.below HW2.out.bl) (H5'.out.below HW2.out.bl)).mono ?_
  rintro e w3 ⟨rfl, hb3⟩
  have HW3 := Lib.hid (HW2.out.below hb3)
  clear hb3 p5 q5
  have p2 := (cell_blk HW3.out.b1 2).trans rfl
  go_wp2_with fail
  go_loopw [60] (fun i wr => ∃ k : Nat, k ≤ um.length ∧ i = .int .i64 k ∧ SaW w wr #[.string ⟨up.toArray⟩, .slice A1 n1 c1, .slice A2 um.length c2, .slice A3 ui.length c3, .slice A4 n4 c4, .slice A5 n5 c5] #[.string ⟨up.toArray⟩, .slice A1' n1' c1', .slice A2' um.length c2', .slice A3' ui.length c3', .slice A4' n4' c4', .slice A5' n5' c5']) (fun i _ => um.length - (intOf i).toNat)
  case atStart => exact ⟨0, by omega, rfl, HW3.out⟩
  case round =>
    obtain ⟨k, hk, rfl, hw⟩ := hrel
    have HWr := Lib.hid hw
    clear hw p2
    by_cases hlt : k < um.length
    · obtain ⟨b, o, rfl, -, hbs, B1, m1, d1, a0, a1, a2, a3, a4, hs⟩ := (H2.out.below HWr.out.bl).mac hlt
      obtain ⟨b', o', rfl, -, hbs', B1', m1', d1', a0', a1', a2', a3', a4', hs'⟩ := (H2'.out.below HWr.out.bl).mac hlt
      generalize um[k] = x at *
      have q2 := (cell_blk HWr.out.b2 2).trans rfl
      have HS := Lib.hid hs; have HS' := Lib.hid hs'
      clear hs hs'
      have hwb := HWr.out.bl.size
      have hlt1 : w.heap.size + 1 < wr.heap.size := (Array.getElem?_eq_some_iff.1 HWr.out.b2).1
      go_upto_region 7 with fail
      have hbW : Below wr.heap.size wr ((wr.alloc (.cells #[.string ⟨x.name.toArray⟩, .slice B1 m1 d1, .string ⟨x.body.path.toArray⟩, .int .i64 x.body.fr, .int .i64 x.body.tu] 63)).alloc (.cells #[.string ⟨x.name.toArray⟩, .slice B1' m1' d1', .string ⟨x.body.path.toArray⟩, .int .i64 x.body.fr, .int .i64 x.body.tu] 63)) := by ((repeat (first | (with_reducible exact Below.refl _ _) | (with_reducible refine belowA ?_ _) | (with_reducible refine belowD ?_) | (with_reducible refine belowS ?_ (Nat.le_refl _) _ _) | (with_reducible refine next ?_ (by assumption) (Nat.le_refl _)))); done)
      have hg1 : ((wr.alloc (.cells #[.string ⟨x.name.toArray⟩, .slice B1 m1 d1, .string ⟨x.body.path.toArray⟩, .int .i64 x.body.fr, .int .i64 x.body.tu] 63)).alloc (.cells #[.string ⟨x.name.toArray⟩, .slice B1' m1' d1', .string ⟨x.body.path.toArray⟩, .int .i64 x.body.fr, .int .i64 x.body.tu] 63)).heap[wr.heap.size]? = some (.cells #[.string ⟨x.name.toArray⟩, .slice B1 m1 d1, .string ⟨x.body.path.toArray⟩, .int .i64 x.body.fr, .int .i64 x.body.tu] 63 (0, 0)) := blkOld (blkAt _ _ rfl) _
      have hg2 : ((wr.alloc (.cells #[.string ⟨x.name.toArray⟩, .slice B1 m1 d1, .string ⟨x.body.path.toArray⟩, .int .i64 x.body.fr, .int .i64 x.body.tu] 63)).alloc (.cells #[.string ⟨x.name.toArray⟩, .slice B1' m1' d1', .string ⟨x.body.path.toArray⟩, .int .i64 x.body.fr, .int .i64 x.body.tu] 63)).heap[wr.heap.size + 1]? = some (.cells #[.string ⟨x.name.toArray⟩, .slice B1' m1' d1', .string ⟨x.body.path.toArray⟩, .int .i64 x.body.fr, .int .i64 x.body.tu] 63 (0, 0)) := blkAt _ _ (by simp)
      generalize ((wr.alloc (.cells #[.string ⟨x.name.toArray⟩, .slice B1 m1 d1, .string ⟨x.body.path.toArray⟩, .int .i64 x.body.fr, .int .i64 x.body.tu] 63)).alloc (.cells #[.string ⟨x.name.toArray⟩, .slice B1' m1' d1', .string ⟨x.body.path.toArray⟩, .int .i64 x.body.fr, .int .i64 x.body.tu] 63)) = W4 at *
      have HW4 := Lib.hid (HWr.out.below hbW); have HS4 := Lib.hid (HS.out.below hbW); have HS4' := Lib.hid (HS'.out.below hbW)
      clear a0 a1 a2 a3 a4 a0' a1' a2' a3' a4' q2 hbW hbs hbs'
      have x0 := (cell_blk hg1 0).trans rfl; have x1 := (cell_blk hg1 1).trans rfl; have x2 := (cell_blk hg1 2).trans rfl; have x3 := (cell_blk hg1 3).trans rfl; have x4 := (cell_blk hg1 4).trans rfl
      have y0 := (cell_blk hg2 0).trans rfl; have y1 := (cell_blk hg2 1).trans rfl; have y2 := (cell_blk hg2 2).trans rfl; have y3 := (cell_blk hg2 3).trans rfl; have y4 := (cell_blk hg2 4).trans rfl
      clear hg1 hg2
      go_wp2_with fail
      refine (sameStr_any B1 B1' m1 d1 m1' d1' W4 _ _ x.params HS4.out HS4'.out).mono ?_
      rintro e w5 ⟨rfl, hb5⟩
      have HW5 := Lib.hid (HW4.out.below hb5)
      clear hb5 x0 x1 x2 x3 x4 y0 y1 y2 y3 y4
      go_wp2_with fail
      go_roundw
      case rel => exact ⟨k + 1, by omega, by go_num, HW5.out⟩
      case measure => simp [intOf]; omega
    · obtain rfl : k = um.length := by omega
      have p3 := (cell_blk HWr.out.b1 3).trans rfl
      go_wp2_with fail
      obtain ⟨wo, hwo⟩ : ∃ wo, wo = wr := ⟨_, rfl⟩
      clear hwo
      go_loopw [94] (fun i wx => ∃ j : Nat, j ≤ ui.length ∧ i = .int .i64 j ∧ SaW w wx #[.string ⟨up.toArray⟩, .slice A1 n1 c1, .slice A2 um.length c2, .slice A3 ui.length c3, .slice A4 n4 c4, .slice A5 n5 c5] #[.string ⟨up.toArray⟩, .slice A1' n1' c1', .slice A2' um.length c2', .slice A3' ui.length c3', .slice A4' n4' c4', .slice A5' n5' c5']) (fun i _ => ui.length - (intOf i).toNat)
      case atStart => exact ⟨0, by omega, rfl, HWr.out⟩
      case round =>
        obtain ⟨j, hj, rfl, hw⟩ := hrel
        have HWr2 := Lib.hid hw
        clear hw p3
        by_cases hlt : j < ui.length
        · obtain ⟨b, o, rfl, -, hbs, B1, m1, d1, a0, a1, a2, a3, a4, a5, a6, hs⟩ := (H3.out.below HWr2.out.bl).itm hlt
          obtain ⟨b', o', rfl, -, hbs', B1', m1', d1', a0', a1', a2', a3', a4', a5', a6', hs'⟩ := (H3'.out.below HWr2.out.bl).itm hlt
          generalize ui[j] = x at *
          have HS := Lib.hid hs; have HS' := Lib.hid hs'
          clear hs hs'
          go_upto_region 13 with fail
          have hbW : Below wr.heap.size wr (wr.alloc (.cells #[.string ⟨x.name.toArray⟩, .int .i64 x.kind, .int .i64 x.mode, .slice B1 m1 d1, .string ⟨x.body.path.toArray⟩, .int .i64 x.body.fr, .int .i64 x.body.tu] 48)) := by ((repeat (first | (with_reducible exact Below.refl _ _) | (with_reducible refine belowA ?_ _) | (with_reducible refine belowD ?_) | (with_reducible refine belowS ?_ (Nat.le_refl _) _ _) | (with_reducible refine next ?_ (by assumption) (Nat.le_refl _)))); done)
          have hg1 : (wr.alloc (.cells #[.string ⟨x.name.toArray⟩, .int .i64 x.kind, .int .i64 x.mode, .slice B1 m1 d1, .string ⟨x.body.path.toArray⟩, .int .i64 x.body.fr, .int .i64 x.body.tu] 48)).heap[wr.heap.size]? = some (.cells #[.string ⟨x.name.toArray⟩, .int .i64 x.kind, .int .i64 x.mode, .slice B1 m1 d1, .string ⟨x.body.path.toArray⟩, .int .i64 x.body.fr, .int .i64 x.body.tu] 48 (0, 0)) := blkAt _ _ rfl
          generalize (wr.alloc (.cells #[.string ⟨x.name.toArray⟩, .int .i64 x.kind, .int .i64 x.mode, .slice B1 m1 d1, .string ⟨x.body.path.toArray⟩, .int .i64 x.body.fr, .int .i64 x.body.tu] 48)) = W4 at *
          have hw4 := HWr2.out.below hbW
          have hin : (j : Int) < (ui.length : Int) := by omega
          have HX := Lib.hid (fun (z : World) (hz : Below W4.heap.size W4 z) => (And.intro ((cell_blk (keptBlk hz hg1) 0).trans rfl) (And.intro ((cell_blk (keptBlk hz hg1) 1).trans rfl) (And.intro ((cell_blk (keptBlk hz hg1) 2).trans rfl) (And.intro ((cell_blk (keptBlk hz hg1) 3).trans rfl) (And.intro ((cell_blk (keptBlk hz hg1) 4).trans rfl) (And.intro ((cell_blk (keptBlk hz hg1) 5).trans rfl) (And.intro ((cell_blk (keptBlk hz hg1) 6).trans rfl) (And.intro ((cell_blk (keptBlk hz hw4.b2) 3).trans rfl) (And.intro (cell_later hz (cell_later hbW a0')) (And.intro (cell_later hz (cell_later hbW a1')) (And.intro (cell_later hz (cell_later hbW a2')) (And.intro (cell_later hz (cell_later hbW a3')) (And.intro (cell_later hz (cell_later hbW a4')) (And.intro (cell_later hz (cell_later hbW a5')) (cell_later hz (cell_later hbW a6')))))))))))))))))
          have HW4 := Lib.hid hw4; have HS4 := Lib.hid (HS.out.below hbW); have HS4' := Lib.hid (HS'.out.below hbW)
          clear a0 a1 a2 a3 a4 a5 a6 a0' a1' a2' a3' a4' a5' a6' hbW hbs hbs' hg1 hw4
          refine wpH_region (fun z => Below W4.heap.size W4 z) (by kernel_rfl) ?_
          have hS : Below W4.heap.size W4 W4.drew := (Below.refl _ _).drew
          (refine tkW 0 (v := ?_) hS ?_ ?_; rotate_left; (focus (intro x hx; have fx := HX.out x hx; go_simp; (try with_reducible rfl); done)); (try simp only [Act.put, lsa, lsz, lss]))
          (refine tkW 1 (v := ?_) hS ?_ ?_; rotate_left; (focus (intro x hx; have fx := HX.out x hx; go_simp; (try with_reducible rfl); done)); (try simp only [Act.put, lsa, lsz, lss]))
          (refine tkW 2 (v := ?_) hS ?_ ?_; rotate_left; (focus (intro x hx; have fx := HX.out x hx; go_simp; (try with_reducible rfl); done)); (try simp only [Act.put, lsa, lsz, lss]))
          (refine tkW 3 (v := ?_) hS ?_ ?_; rotate_left; (focus (intro x hx; have fx := HX.out x hx; go_simp; (try with_reducible rfl); done)); (try simp only [Act.put, lsa, lsz, lss]))
          (refine tkW 4 (v := ?_) hS ?_ ?_; rotate_left; (focus (intro x hx; have fx := HX.out x hx; go_simp; (try with_reducible rfl); done)); (try simp only [Act.put, lsa, lsz, lss]))
          (refine tkW 5 (v := ?_) hS ?_ ?_; rotate_left; (focus (intro x hx; have fx := HX.out x hx; go_simp; (try with_reducible rfl); done)); (try simp only [Act.put, lsa, lsz, lss]))
          refine wpAnyH_one 6 (by kernel_rfl) rfl ?_
          intro K' hK'
          go_simp
          refine (sameItm_any _ _ _ _ _ x ⟨B1, m1, d1, rfl, HS4.out.below hS⟩ ⟨B1', m1', d1', rfl, HS4'.out.below hS⟩).mono ?_
          rintro e w5 ⟨rfl, hb5⟩
          have hS5 : Below W4.heap.size W4 w5 := hS.trans (hb5.mono hS.size)
          refine hK'.out _ _ hS5 ?_
          clear hK' K' hb5 hS
          have hS := hS5
          (refine tkW 7 (v := ?_) hS ?_ ?_; rotate_left; (focus (intro x hx; have fx := HX.out x hx; go_simp; (try with_reducible rfl); done)); (try simp only [Act.put, lsa, lsz, lss]))
          refine wpAnyH_done (by kernel_rfl) ?_ _
          have HW5 := Lib.hid (HW4.out.below hS)
          clear hS hS5 HX
          go_wp2_with fail
          go_roundw
          case rel => exact ⟨j + 1, by omega, by go_num, HW5.out⟩
          case measure => simp [intOf]; omega
        · go_wp2_with fail
          go_ret
          exact ⟨rfl, HWr2.out.bl⟩
end Go.Proofs.YtpeamehplhpcjaaGreatDoor
namespace Go.Proofs.YtpeamehplhpcjaaGreatDoor
open Go.RowKit Go.Deep Go.ChangeShapes
theorem cellsOfInt : Tryz.prog.cellsOf 3 = 1 := by kernel_rfl
theorem cellsOfStr : Tryz.prog.cellsOf 9 = 1 := by kernel_rfl
theorem cellsOfStrs : Tryz.prog.cellsOf 29 = 1 := by kernel_rfl
theorem cellsOfFil : Tryz.prog.cellsOf 73 = 2 := by kernel_rfl
theorem cellsOfTree : Tryz.prog.cellsOf 28 = 1 := by kernel_rfl
theorem cellsOfLn : Tryz.prog.cellsOf 38 = 2 := by kernel_rfl
theorem cellsOfScn : Tryz.prog.cellsOf 55 = 6 := by kernel_rfl
theorem undFil : ∃ f0 f1 : Field, Tryz.prog.underlying 73 = some (.struct #[f0, f1]) ∧ f0.type = 9 ∧ f0.offset = 0 ∧ f1.type = 9 ∧ f1.offset = 1 :=
  ⟨_, _, Tryz.underlying73, rfl, rfl, rfl, rfl⟩
theorem undLn : ∃ f0 f1 : Field, Tryz.prog.underlying 38 = some (.struct #[f0, f1]) ∧ f0.type = 9 ∧ f0.offset = 0 ∧ f1.type = 3 ∧ f1.offset = 1 :=
  ⟨_, _, Tryz.underlying38, rfl, rfl, rfl, rfl⟩
theorem undScn : ∃ f0 f1 f2 f3 f4 : Field, Tryz.prog.underlying 55 = some (.struct #[f0, f1, f2, f3, f4]) ∧ f0.type = 28 ∧ f0.offset = 0 ∧ f1.type = 9 ∧ f1.offset = 1 ∧ f2.type = 29 ∧ f2.offset = 2 ∧ f3.type = 38 ∧ f3.offset = 3 ∧ f4.type = 9 ∧ f4.offset = 5 :=
  ⟨_, _, _, _, _, Tryz.underlying55, rfl, rfl, rfl, rfl, rfl, rfl, rfl, rfl, rfl, rfl⟩
section
variable {H : Type} {enc : TypeId × Value → H} {W : World} {base : Nat} {spare : Nat → Bool} {held : Bool}
def Opens (enc : TypeId × Value → H) (W : World) (base : Nat) (spare : Nat → Bool) (held : Bool) (α : Type) [GoT α] (t : TypeId) (Ok : α → Prop) : Prop :=
  ∀ (fuel : Nat) (cs : List Value) (x : DataW H × List MemPlace), DataW.trod enc Tryz.prog W base spare held fuel t cs = some x →
    cs.length = GoT.size α ∧ ∃ o : α, GoT.rd W (fun _ => True) (fun j => cs.getD j undef) o ∧ Ok o
theorem opens_slice {α : Type} [GoT α] [Inhabited α] {t e : TypeId} {Ok : α → Prop} (hu : Tryz.prog.underlying t = some (.slice e)) (hz : Tryz.prog.cellsOf e = GoT.size α) (h : Opens enc W base spare held α e Ok)
    {fuel : Nat} {cs : List Value} {x : DataW H × List MemPlace} (hx : DataW.trod enc Tryz.prog W base spare held fuel t cs = some x) :
    ∃ A n c, ∃ l : List α, cs = [.slice A n c] ∧ Sl W (fun _ => True) A n c l ∧ ∀ o ∈ l, Ok o := by
  rcases open_slice hu hx with ⟨rfl, _⟩ | ⟨a, len, cap, m, n', D, Pl, rfl, _, hl, hm, hmm, _, hx⟩
  · exact ⟨none, 0, 0, [], rfl, Sl.nil _ _ _ _ (by decide), fun o ho => by cases ho⟩
  · have hlm : len ≤ m := by rw [hmm]; split <;> omega
    rw [hz] at hx
    obtain ⟨g, hg⟩ := choose_lt (α := List Value × α) (n := len) (p := fun i o => (∀ j, j < GoT.size α → W.cell? ((a.add (i * GoT.size α)).add j) = o.1[j]?) ∧ o.1.length = GoT.size α ∧ GoT.rd W (fun _ => True) (fun j => o.1.getD j undef) o.2 ∧ Ok o.2) (fun i hi => by
      obtain ⟨cs', h1, h2⟩ := hx i (by omega)
      obtain ⟨hlen, o, h3, h4⟩ := h _ _ _ h2
      obtain ⟨-, -, hcell⟩ := World.cells?_some h1
      exact ⟨(cs', o), hcell, hlen, h3, h4⟩)
    refine ⟨some a, len, cap, (List.range len).map fun i => (g i).2, rfl, ⟨by simp, hl, by simpa [maxLen] using hm, fun i hi => ?_⟩, fun o ho => ?_⟩
    · have hi' : i < len := by simpa using hi
      obtain ⟨h1, h2, h3, h4⟩ := hg i hi'
      refine ⟨a, rfl, trivial, fun j => (g i).1.getD j undef, fun j hj => ?_, ?_⟩
      · have := h1 j hj
        rw [add_of_add] at this
        show _ = some ((g i).1.getD j undef)
        rw [this, List.getD_eq_getElem?_getD, List.getElem?_eq_getElem (by omega)]
        rfl
      · simp only [List.getElem_map, List.getElem_range]
        exact h3
    · obtain ⟨i, hi, rfl⟩ := List.mem_map.1 ho
      exact (hg i (List.mem_range.1 hi)).2.2.2
instance : Inhabited Bs := ⟨[]⟩
set_option maxRecDepth 100000 in
theorem opens_str : Opens enc W base spare held Bs 9 OkB := by
  intro fuel cs x h
  obtain ⟨s, e, -, hs⟩ := DataW.trod_string Tryz.underlying9 h
  subst e
  exact ⟨rfl, s.data.toList, rfl, by simpa [OkB, maxLen] using hs⟩
set_option maxRecDepth 100000 in
theorem opens_fil : Opens enc W base spare held Fil 73 OkF := by
  intro fuel cs x h
  obtain ⟨f0, f1, hu, t0, o0, t1, o1⟩ := undFil
  obtain ⟨xs, n, -, -, hl, hlen, hf⟩ := DataW.trod_struct hu h
  have h0 := hf 0 f0 rfl
  have h1 := hf 1 f1 rfl
  rw [t0, o0, cellsOfStr] at h0
  rw [t1, o1, cellsOfStr] at h1
  rw [cellsOfFil] at hl
  obtain ⟨a, b, rfl⟩ : ∃ a b, cs = [a, b] := by
    match cs, hl with
    | [a, b], _ => exact ⟨a, b, rfl⟩
  obtain ⟨y0, y1, rfl⟩ : ∃ a b, xs = [a, b] := by
    match xs, hlen with
    | [a, b], _ => exact ⟨a, b, rfl⟩
  simp only [List.getElem?_cons_zero, List.getElem?_cons_succ] at h0 h1
  obtain ⟨s, e1, -, hs⟩ := DataW.trod_string Tryz.underlying9 h0
  obtain ⟨s', e2, -, hs'⟩ := DataW.trod_string Tryz.underlying9 h1
  simp at e1 e2
  subst e1 e2
  exact ⟨rfl, ⟨s.data.toList, s'.data.toList⟩, ⟨rfl, rfl⟩, by simpa [OkB, maxLen] using hs, by simpa [OkB, maxLen] using hs'⟩
structure Scn where
  tree : List Fil
  path : Bs
  flags : List Bs
  ln : Ln
  text : Bs
def VScn (w : World) (v : Value) (x : Scn) : Prop := ∃ A n c A2 n2 c2, v = .agg #[.slice A n c, .string ⟨x.path.toArray⟩, .slice A2 n2 c2, .string ⟨x.ln.path.toArray⟩, .int .i64 x.ln.n, .string ⟨x.text.toArray⟩] ∧ Sl w (fun _ => True) A n c x.tree ∧ Sl w (fun _ => True) A2 n2 c2 x.flags
def OkScn (x : Scn) : Prop := (∀ f ∈ x.tree, OkF f) ∧ OkB x.path ∧ (∀ s ∈ x.flags, OkB s) ∧ OkB x.ln.path ∧ OkI x.ln.n ∧ OkB x.text
set_option maxRecDepth 100000 in
theorem openScn {cs : Array Value} {d : DataW H} {p : List MemPlace} (h : DataW.Trod enc Tryz.prog W base spare held 55 (.agg cs) d p) : ∃ x : Scn, VScn W (.agg cs) x ∧ OkScn x := by
  obtain ⟨fuel, h⟩ := h
  obtain ⟨f0, f1, f2, f3, f4, hu, t0, o0, t1, o1, t2, o2, t3, o3, t4, o4⟩ := undScn
  obtain ⟨xs, n, -, -, hl, hlen, hf⟩ := DataW.trod_struct hu h
  have h0 := hf 0 f0 rfl
  have h1 := hf 1 f1 rfl
  have h2 := hf 2 f2 rfl
  have h3 := hf 3 f3 rfl
  have h4 := hf 4 f4 rfl
  rw [t0, o0, cellsOfTree] at h0
  rw [t1, o1, cellsOfStr] at h1
  rw [t2, o2, cellsOfStrs] at h2
  rw [t3, o3, cellsOfLn] at h3
  rw [t4, o4, cellsOfStr] at h4
  rw [cellsOfScn] at hl
  obtain ⟨l⟩ := cs
  have hl : l.length = 6 := hl
  obtain ⟨a, b, c, e, f, g, rfl⟩ : ∃ a b c e f g, l = [a, b, c, e, f, g] := by
    match l, hl with
    | [a, b, c, e, f, g], _ => exact ⟨a, b, c, e, f, g, rfl⟩
  obtain ⟨y0, y1, y2, y3, y4, rfl⟩ : ∃ a b c d e, xs = [a, b, c, d, e] := by
    match xs, hlen with
    | [a, b, c, d, e], _ => exact ⟨a, b, c, d, e, rfl⟩
  simp only [List.getElem?_cons_zero, List.getElem?_cons_succ] at h0 h1 h2 h3 h4
  obtain ⟨A, n1, c1, l1, e0, hs0, hk0⟩ := opens_slice Tryz.underlying28 cellsOfFil opens_fil h0
  obtain ⟨s1, e1, -, hs1⟩ := DataW.trod_string Tryz.underlying9 h1
  obtain ⟨A2, n2, c2, l2, e2, hs2, hk2⟩ := opens_slice Tryz.underlying29 cellsOfStr opens_str h2
  obtain ⟨s4, e4, -, hs4⟩ := DataW.trod_string Tryz.underlying9 h4
  obtain ⟨g0, g1, hu2, u0, q0, u1, q1⟩ := undLn
  obtain ⟨xs3, n3, -, -, hl3, hlen3, hf3⟩ := DataW.trod_struct hu2 h3
  have j0 := hf3 0 g0 rfl
  have j1 := hf3 1 g1 rfl
  rw [u0, q0, cellsOfStr] at j0
  rw [u1, q1, cellsOfInt] at j1
  obtain ⟨z0, z1, rfl⟩ : ∃ a b, xs3 = [a, b] := by
    match xs3, hlen3 with
    | [a, b], _ => exact ⟨a, b, rfl⟩
  simp only [List.getElem?_cons_zero, List.getElem?_cons_succ] at j0 j1
  obtain ⟨s3, e3, -, hs3⟩ := DataW.trod_string Tryz.underlying9 j0
  obtain ⟨m, e5, -, hw⟩ := DataW.trod_int Tryz.underlying3 j1
  simp [Value.cells] at e0 e1 e2 e3 e4 e5
  subst e0 e1 e2 e3 e4 e5
  have hb : -9223372036854775808 ≤ m ∧ m ≤ 9223372036854775807 := by simpa [Lit.wf, IntKind.min, IntKind.max, IntKind.signed, IntKind.bits] using hw
  exact ⟨⟨l1, s1.data.toList, l2, ⟨s3.data.toList, m⟩, s4.data.toList⟩, ⟨A, n1, c1, A2, n2, c2, rfl, hs0, hs2⟩, hk0, by simpa [OkB, maxLen] using hs1, hk2, by simpa [OkB, maxLen] using hs3, hb, by simpa [OkB, maxLen] using hs4⟩
end
def laidL : List (String × DataW Unit) := Rows.sourceReferencesRow.laid
set_option maxRecDepth 100000 in
theorem ld_of {W : World} (_ : laidMetH Tryz.prog laidL W) (hs : W.ShapedOpen Tryz.prog) : LS W :=
  ⟨Go.Proofs.cell_of_shapedOpen_int (zero := #[.int .i64 0]) (t := 3) hs (of_decide_eq_true (by kernel_rfl)) (by kernel_rfl) rfl (by kernel_rfl) (by kernel_rfl) Tryz.underlying3⟩
end Go.Proofs.YtpeamehplhpcjaaGreatDoor
namespace Go.Proofs.YtpeamehplhpcjaaGreatDoor
open Go.RowKit Go.ChangeShapes
section
variable {H : Type} {enc : TypeId × Value → H}
theorem handed {a : Assume} {C : Checked} {os : Os} {f : FuncId} {fn : Func} {s : ChangeSpec} {conds : List PathCond} {apart fresh handsOn again : Bool} {X : World → Array Value → Prop}
    (hX : ∀ (w w' : World) (args : Array Value), w.heap = w'.heap → X w args → X w' args)
    (own : ownKnob C.prog.godebug = none) (started : os.Started) (noInit : C.prog.inits.idxOf? f = none) (hfn : C.prog.funcs[f]? = some fn)
    (witness : ∃ (w : World) (tape : Tape) (i : Input), w.os = os ∧ (w.forCall tape i).Shaped C.prog ∧ i.vars = [] ∧ Input.okWide C.prog (w.forCall tape i) .any w.heap.size f i ∧
      ((s.pre enc C.prog fn conds apart (w.forCall tape i).memory i.args ∧ X (w.forCall tape i).memory i.args) ∧ sizedMet enc C.prog fn (OpenSpec.ofChange s) apart (w.forCall tape i).memory i.args) ∧ a.holds C.prog (lone (Frame.enter C.prog f i.args .normal) [] (w.forCall tape i)))
    (contract : ∀ (W : World) (base : Nat) (args : Array Value) (ds gs : List (DataW H)) (before : List MemPlace),
      (∀ (j : Nat) t v, fn.params[j]? = some t → args[j]? = some v → Value.okWide C.prog W .any base t v) →
      DataW.Whole enc C.prog fn.params.toList s.vars apart W args.toList ds gs before →
      X W args → W.ShapedOpen C.prog →
      Calls C.prog f args W fun e W' => ∃ v, e = .returned v ∧ s.post enc C.prog fn apart fresh handsOn again W args v W') :
    ReturnsInHanded a C os f .any (fun w args => (s.pre enc C.prog fn conds apart w args ∧ X w args) ∧ sizedMet enc C.prog fn (OpenSpec.ofChange s) apart w args) (s.post enc C.prog fn apart fresh handsOn again) := by
  refine returnsInHanded_of_calls own started noInit witness ?_
  intro w tape i _ hsh _ hok hpre hholds
  obtain ⟨_, _, _, fn', hfn', _, _, _, _, hval⟩ := hok
  have e : fn' = fn := Option.some.inj (hfn'.symm.trans hfn)
  subst e
  obtain ⟨⟨⟨ds, gs, before, hw, hc⟩, hx⟩, hz⟩ := hpre
  have hw' := DataW.Whole.of_heap (w' := w.forCall tape i) (by rfl) hw
  refine (contract (w.forCall tape i) w.heap.size i.args ds gs before hval hw' (hX _ _ _ (by rfl) hx) hsh).mono fun e W' ⟨v, he, hp⟩ => ?_
  subst he
  exact ChangeSpec.post_blind hp
end
end Go.Proofs.YtpeamehplhpcjaaGreatDoor
