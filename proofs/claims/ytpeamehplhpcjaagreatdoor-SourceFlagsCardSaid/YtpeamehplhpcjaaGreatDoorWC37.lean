/- A part of the proofs of the laws of one package; see the law's own text, which comes last in 'order'. No conditions of its own. -/
import Derived.Test.YtpeamehplhpcjaaGreatDoorWC25
import Derived.Test.YtpeamehplhpcjaaGreatDoorWC30
import Derived.Test.YtpeamehplhpcjaaGreatDoorWC32
import Derived.Test.YtpeamehplhpcjaaGreatDoorWC36
set_option linter.unusedVariables false
set_option linter.unusedSimpArgs false
namespace Go.Proofs.YtpeamehplhpcjaaGreatDoor
open Go.RowKit
structure SaW (w W : World) (c1 c2 : Array Value) : Prop where
  bl : Below w.heap.size w W
  b1 : W.heap[w.heap.size]? = some (.cells c1 36 (0, 0))
  b2 : W.heap[w.heap.size + 1]? = some (.cells c2 36 (0, 0))
theorem SaW.below {w W W' : World} {c1 c2 : Array Value} (h : SaW w W c1 c2) (hb : Below W.heap.size W W') : SaW w W' c1 c2 := ⟨h.bl.trans (hb.mono h.bl.size), keptBlk hb h.b1, keptBlk hb h.b2⟩
set_option maxRecDepth 100000 in
set_option maxHeartbeats 8000000 in
theorem sameU_any (w : World) (v v' : Value) (u : Unt) (h : VUnt w v u) (h' : VUnt w v' u) :
    Calls Tryz.prog 15 #[v, v'] w fun e w' => e = .returned (.bool true) ∧ Below w.heap.size w w' := by
  obtain ⟨A1, n1, c1, A2, n2, c2, A3, n3, c3, A4, n4, c4, A5, n5, c5, rfl, h1, h2, h3, h4, h5⟩ := h
  obtain ⟨A1', n1', c1', A2', n2', c2', A3', n3', c3', A4', n4', c4', A5', n5', c5', rfl, h1', h2', h3', h4', h5'⟩ := h'
  obtain ⟨up, uf, um, ui, uh, ul⟩ := u
  simp only at h1 h2 h3 h4 h5 h1' h2' h3' h4' h5' ⊢
  have e2 := h2.len; have e2' := h2'.len; have e3 := h3.len; have e3' := h3'.len
  have l2 := h2.le; have l3 := h3.le
  subst e2 e2' e3 e3'
  have H1 := Lib.hid h1; have H2 := Lib.hid h2; have H3 := Lib.hid h3; have H4 := Lib.hid h4; have H5 := Lib.hid h5
  have H1' := Lib.hid h1'; have H2' := Lib.hid h2'; have H3' := Lib.hid h3'; have H4' := Lib.hid h4'; have H5' := Lib.hid h5'
  clear h1 h2 h3 h4 h5 h1' h2' h3' h4' h5'
  go_enter Tryz.func15, Tryz.ntmps15
  go_upto_region 1 with fail
  have hW : SaW w ((w.alloc (.cells #[.string ⟨up.toArray⟩, .slice A1 n1 c1, .slice A2 um.length c2, .slice A3 ui.length c3, .slice A4 n4 c4, .slice A5 n5 c5] 36)).alloc (.cells #[.string ⟨up.toArray⟩, .slice A1' n1' c1', .slice A2' um.length c2', .slice A3' ui.length c3', .slice A4' n4' c4', .slice A5' n5' c5'] 36)) #[.string ⟨up.toArray⟩, .slice A1 n1 c1, .slice A2 um.length c2, .slice A3 ui.length c3, .slice A4 n4 c4, .slice A5 n5 c5] #[.string ⟨up.toArray⟩, .slice A1' n1' c1', .slice A2' um.length c2', .slice A3' ui.length c3', .slice A4' n4' c4', .slice A5' n5' c5'] := ⟨by ((repeat (first | (with_reducible exact Below.refl _ _) | (with_reducible refine belowA ?_ _) | (with_reducible refine belowD ?_) | (with_reducible refine belowS ?_ (Nat.le_refl _) _ _) | (with_reducible refine next ?_ (by assumption) (Nat.le_refl _)))); done), blkOld (blkAt _ _ rfl) _, blkAt _ _ (by simp)⟩
  generalize ((w.alloc (.cells #[.string ⟨up.toArray⟩, .slice A1 n1 c1, .slice A2 um.length c2, .slice A3 ui.length c3, .slice A4 n4 c4, .slice A5 n5 c5] 36)).alloc (.cells #[.string ⟨up.toArray⟩, .slice A1' n1' c1', .slice A2' um.length c2', .slice A3' ui.length c3', .slice A4' n4' c4', .slice A5' n5' c5'] 36)) = W at *
  have HW := Lib.hid hW
  clear hW
  have p0 := (cell_blk HW.out.b1 0).trans rfl; have p1 := (cell_blk HW.out.b1 1).trans rfl
  have q0 := (cell_blk HW.out.b2 0).trans rfl; have q1 := (cell_blk HW.out.b2 1).trans rfl
  go_wp2_with fail
  refine (sameStr_any A1 A1' n1 c1 n1' c1' W _ _ uf (H1.out.below HW.out.bl) (H1'.out.below HW.out.bl)).mono ?_
  rintro e w1 ⟨rfl, hb1⟩
  have HW1 := Lib.hid (HW.out.below hb1)
  clear hb1 p0 p1 q0 q1
  have p2 := (cell_blk HW1.out.b1 2).trans rfl; have p3 := (cell_blk HW1.out.b1 3).trans rfl; have p4 := (cell_blk HW1.out.b1 4).trans rfl
  have q2 := (cell_blk HW1.out.b2 2).trans rfl; have q3 := (cell_blk HW1.out.b2 3).trans rfl; have q4 := (cell_blk HW1.out.b2 4).trans rfl
  go_wp2_with fail
  refine (sameLns_any A4 A4' n4 c4 n4' c4' w1 _ _ uh (H4.out.below HW1.out.bl) (H4'.out.below HW1.out.bl)).mono ?_
  rintro e w2 ⟨rfl, hb2⟩
  have HW2 := Lib.hid (HW1.out.below hb2)
  clear hb2 p2 p3 p4 q2 q3 q4
  have p5 := (cell_blk HW2.out.b1 5).trans rfl; have q5 := (cell_blk HW2.out.b2 5).trans rfl
  go_wp2_with fail
  refine (sameStr_any A5 A5' n5 c5 n5' c5' w2 _ _ ul (H5.out.below HW2.out.bl) (H5'.out.below HW2.out.bl)).mono ?_
  rintro e w3 ⟨rfl, hb3⟩
  have HW3 := Lib.hid (HW2.out.below hb3)
  clear hb3 p5 q5
  have p2 := (cell_blk HW3.out.b1 2).trans rfl
  go_wp2_with fail
  go_loopw [60] (fun i wr => ∃ k : Nat, k ≤ um.length ∧ i = .int .i64 k ∧ SaW w wr #[.string ⟨up.toArray⟩, .slice A1 n1 c1, .slice A2 um.length c2, .slice A3 ui.length c3, .slice A4 n4 c4, .slice A5 n5 c5] #[.string ⟨up.toArray⟩, .slice A1' n1' c1', .slice A2' um.length c2', .slice A3' ui.length c3', .slice A4' n4' c4', .slice A5' n5' c5']) (fun i _ => um.length - (intOf i).toNat)
  case atStart => exact ⟨0, by omega, rfl, HW3.out⟩
  case round =>
    obtain ⟨k, hk, rfl, hw⟩ := hrel
    have HWr := Lib.hid hw
    clear hw p2
    by_cases hlt : k < um.length
    · obtain ⟨b, o, rfl, -, hbs, B1, m1, d1, a0, a1, a2, a3, a4, hs⟩ := (H2.out.below HWr.out.bl).mac hlt
      obtain ⟨b', o', rfl, -, hbs', B1', m1', d1', a0', a1', a2', a3', a4', hs'⟩ := (H2'.out.below HWr.out.bl).mac hlt
      generalize um[k] = x at *
      have q2 := (cell_blk HWr.out.b2 2).trans rfl
      have HS := Lib.hid hs; have HS' := Lib.hid hs'
      clear hs hs'
      have hwb := HWr.out.bl.size
      have hlt1 : w.heap.size + 1 < wr.heap.size := (Array.getElem?_eq_some_iff.1 HWr.out.b2).1
      go_upto_region 7 with fail
      have hbW : Below wr.heap.size wr ((wr.alloc (.cells #[.string ⟨x.name.toArray⟩, .slice B1 m1 d1, .string ⟨x.body.path.toArray⟩, .int .i64 x.body.fr, .int .i64 x.body.tu] 63)).alloc (.cells #[.string ⟨x.name.toArray⟩, .slice B1' m1' d1', .string ⟨x.body.path.toArray⟩, .int .i64 x.body.fr, .int .i64 x.body.tu] 63)) := by ((repeat (first | (with_reducible exact Below.refl _ _) | (with_reducible refine belowA ?_ _) | (with_reducible refine belowD ?_) | (with_reducible refine belowS ?_ (Nat.le_refl _) _ _) | (with_reducible refine next ?_ (by assumption) (Nat.le_refl _)))); done)
      have hg1 : ((wr.alloc (.cells #[.string ⟨x.name.toArray⟩, .slice B1 m1 d1, .string ⟨x.body.path.toArray⟩, .int .i64 x.body.fr, .int .i64 x.body.tu] 63)).alloc (.cells #[.string ⟨x.name.toArray⟩, .slice B1' m1' d1', .string ⟨x.body.path.toArray⟩, .int .i64 x.body.fr, .int .i64 x.body.tu] 63)).heap[wr.heap.size]? = some (.cells #[.string ⟨x.name.toArray⟩, .slice B1 m1 d1, .string ⟨x.body.path.toArray⟩, .int .i64 x.body.fr, .int .i64 x.body.tu] 63 (0, 0)) := blkOld (blkAt _ _ rfl) _
      have hg2 : ((wr.alloc (.cells #[.string ⟨x.name.toArray⟩, .slice B1 m1 d1, .string ⟨x.body.path.toArray⟩, .int .i64 x.body.fr, .int .i64 x.body.tu] 63)).alloc (.cells #[.string ⟨x.name.toArray⟩, .slice B1' m1' d1', .string ⟨x.body.path.toArray⟩, .int .i64 x.body.fr, .int .i64 x.body.tu] 63)).heap[wr.heap.size + 1]? = some (.cells #[.string ⟨x.name.toArray⟩, .slice B1' m1' d1', .string ⟨x.body.path.toArray⟩, .int .i64 x.body.fr, .int .i64 x.body.tu] 63 (0, 0)) := blkAt _ _ (by simp)
      generalize ((wr.alloc (.cells #[.string ⟨x.name.toArray⟩, .slice B1 m1 d1, .string ⟨x.body.path.toArray⟩, .int .i64 x.body.fr, .int .i64 x.body.tu] 63)).alloc (.cells #[.string ⟨x.name.toArray⟩, .slice B1' m1' d1', .string ⟨x.body.path.toArray⟩, .int .i64 x.body.fr, .int .i64 x.body.tu] 63)) = W4 at *
      have HW4 := Lib.hid (HWr.out.below hbW); have HS4 := Lib.hid (HS.out.below hbW); have HS4' := Lib.hid (HS'.out.below hbW)
      clear a0 a1 a2 a3 a4 a0' a1' a2' a3' a4' q2 hbW hbs hbs'
      have x0 := (cell_blk hg1 0).trans rfl; have x1 := (cell_blk hg1 1).trans rfl; have x2 := (cell_blk hg1 2).trans rfl; have x3 := (cell_blk hg1 3).trans rfl; have x4 := (cell_blk hg1 4).trans rfl
      have y0 := (cell_blk hg2 0).trans rfl; have y1 := (cell_blk hg2 1).trans rfl; have y2 := (cell_blk hg2 2).trans rfl; have y3 := (cell_blk hg2 3).trans rfl; have y4 := (cell_blk hg2 4).trans rfl
      clear hg1 hg2
      go_wp2_with fail
      refine (sameStr_any B1 B1' m1 d1 m1' d1' W4 _ _ x.params HS4.out HS4'.out).mono ?_
      rintro e w5 ⟨rfl, hb5⟩
      have HW5 := Lib.hid (HW4.out.below hb5)
      clear hb5 x0 x1 x2 x3 x4 y0 y1 y2 y3 y4
      go_wp2_with fail
      go_roundw
      case rel => exact ⟨k + 1, by omega, by go_num, HW5.out⟩
      case measure => simp [intOf]; omega
    · obtain rfl : k = um.length := by omega
      have p3 := (cell_blk HWr.out.b1 3).trans rfl
      go_wp2_with fail
      obtain ⟨wo, hwo⟩ : ∃ wo, wo = wr := ⟨_, rfl⟩
      clear hwo
      go_loopw [94] (fun i wx => ∃ j : Nat, j ≤ ui.length ∧ i = .int .i64 j ∧ SaW w wx #[.string ⟨up.toArray⟩, .slice A1 n1 c1, .slice A2 um.length c2, .slice A3 ui.length c3, .slice A4 n4 c4, .slice A5 n5 c5] #[.string ⟨up.toArray⟩, .slice A1' n1' c1', .slice A2' um.length c2', .slice A3' ui.length c3', .slice A4' n4' c4', .slice A5' n5' c5']) (fun i _ => ui.length - (intOf i).toNat)
      case atStart => exact ⟨0, by omega, rfl, HWr.out⟩
      case round =>
        obtain ⟨j, hj, rfl, hw⟩ := hrel
        have HWr2 := Lib.hid hw
        clear hw p3
        by_cases hlt : j < ui.length
        · obtain ⟨b, o, rfl, -, hbs, B1, m1, d1, a0, a1, a2, a3, a4, a5, a6, hs⟩ := (H3.out.below HWr2.out.bl).itm hlt
          obtain ⟨b', o', rfl, -, hbs', B1', m1', d1', a0', a1', a2', a3', a4', a5', a6', hs'⟩ := (H3'.out.below HWr2.out.bl).itm hlt
          generalize ui[j] = x at *
          have HS := Lib.hid hs; have HS' := Lib.hid hs'
          clear hs hs'
          go_upto_region 13 with fail
          have hbW : Below wr.heap.size wr (wr.alloc (.cells #[.string ⟨x.name.toArray⟩, .int .i64 x.kind, .int .i64 x.mode, .slice B1 m1 d1, .string ⟨x.body.path.toArray⟩, .int .i64 x.body.fr, .int .i64 x.body.tu] 48)) := by ((repeat (first | (with_reducible exact Below.refl _ _) | (with_reducible refine belowA ?_ _) | (with_reducible refine belowD ?_) | (with_reducible refine belowS ?_ (Nat.le_refl _) _ _) | (with_reducible refine next ?_ (by assumption) (Nat.le_refl _)))); done)
          have hg1 : (wr.alloc (.cells #[.string ⟨x.name.toArray⟩, .int .i64 x.kind, .int .i64 x.mode, .slice B1 m1 d1, .string ⟨x.body.path.toArray⟩, .int .i64 x.body.fr, .int .i64 x.body.tu] 48)).heap[wr.heap.size]? = some (.cells #[.string ⟨x.name.toArray⟩, .int .i64 x.kind, .int .i64 x.mode, .slice B1 m1 d1, .string ⟨x.body.path.toArray⟩, .int .i64 x.body.fr, .int .i64 x.body.tu] 48 (0, 0)) := blkAt _ _ rfl
          generalize (wr.alloc (.cells #[.string ⟨x.name.toArray⟩, .int .i64 x.kind, .int .i64 x.mode, .slice B1 m1 d1, .string ⟨x.body.path.toArray⟩, .int .i64 x.body.fr, .int .i64 x.body.tu] 48)) = W4 at *
          have hw4 := HWr2.out.below hbW
          have hin : (j : Int) < (ui.length : Int) := by omega
          have HX := Lib.hid (fun (z : World) (hz : Below W4.heap.size W4 z) => (And.intro ((cell_blk (keptBlk hz hg1) 0).trans rfl) (And.intro ((cell_blk (keptBlk hz hg1) 1).trans rfl) (And.intro ((cell_blk (keptBlk hz hg1) 2).trans rfl) (And.intro ((cell_blk (keptBlk hz hg1) 3).trans rfl) (And.intro ((cell_blk (keptBlk hz hg1) 4).trans rfl) (And.intro ((cell_blk (keptBlk hz hg1) 5).trans rfl) (And.intro ((cell_blk (keptBlk hz hg1) 6).trans rfl) (And.intro ((cell_blk (keptBlk hz hw4.b2) 3).trans rfl) (And.intro (cell_later hz (cell_later hbW a0')) (And.intro (cell_later hz (cell_later hbW a1')) (And.intro (cell_later hz (cell_later hbW a2')) (And.intro (cell_later hz (cell_later hbW a3')) (And.intro (cell_later hz (cell_later hbW a4')) (And.intro (cell_later hz (cell_later hbW a5')) (cell_later hz (cell_later hbW a6')))))))))))))))))
          have HW4 := Lib.hid hw4; have HS4 := Lib.hid (HS.out.below hbW); have HS4' := Lib.hid (HS'.out.below hbW)
          clear a0 a1 a2 a3 a4 a5 a6 a0' a1' a2' a3' a4' a5' a6' hbW hbs hbs' hg1 hw4
          refine wpH_region (fun z => Below W4.heap.size W4 z) (by kernel_rfl) ?_
          have hS : Below W4.heap.size W4 W4.drew := (Below.refl _ _).drew
          (refine tkW 0 (v := ?_) hS ?_ ?_; rotate_left; (focus (intro x hx; have fx := HX.out x hx; go_simp; (try with_reducible rfl); done)); (try simp only [Act.put, lsa, lsz, lss]))
          (refine tkW 1 (v := ?_) hS ?_ ?_; rotate_left; (focus (intro x hx; have fx := HX.out x hx; go_simp; (try with_reducible rfl); done)); (try simp only [Act.put, lsa, lsz, lss]))
          (refine tkW 2 (v := ?_) hS ?_ ?_; rotate_left; (focus (intro x hx; have fx := HX.out x hx; go_simp; (try with_reducible rfl); done)); (try simp only [Act.put, lsa, lsz, lss]))
          (refine tkW 3 (v := ?_) hS ?_ ?_; rotate_left; (focus (intro x hx; have fx := HX.out x hx; go_simp; (try with_reducible rfl); done)); (try simp only [Act.put, lsa, lsz, lss]))
          (refine tkW 4 (v := ?_) hS ?_ ?_; rotate_left; (focus (intro x hx; have fx := HX.out x hx; go_simp; (try with_reducible rfl); done)); (try simp only [Act.put, lsa, lsz, lss]))
          (refine tkW 5 (v := ?_) hS ?_ ?_; rotate_left; (focus (intro x hx; have fx := HX.out x hx; go_simp; (try with_reducible rfl); done)); (try simp only [Act.put, lsa, lsz, lss]))
          refine wpAnyH_one 6 (by kernel_rfl) rfl ?_
          intro K' hK'
          go_simp
          refine (sameItm_any _ _ _ _ _ x ⟨B1, m1, d1, rfl, HS4.out.below hS⟩ ⟨B1', m1', d1', rfl, HS4'.out.below hS⟩).mono ?_
          rintro e w5 ⟨rfl, hb5⟩
          have hS5 : Below W4.heap.size W4 w5 := hS.trans (hb5.mono hS.size)
          refine hK'.out _ _ hS5 ?_
          clear hK' K' hb5 hS
          have hS := hS5
          (refine tkW 7 (v := ?_) hS ?_ ?_; rotate_left; (focus (intro x hx; have fx := HX.out x hx; go_simp; (try with_reducible rfl); done)); (try simp only [Act.put, lsa, lsz, lss]))
          refine wpAnyH_done (by kernel_rfl) ?_ _
          have HW5 := Lib.hid (HW4.out.below hS)
          clear hS hS5 HX
          go_wp2_with fail
          go_roundw
          case rel => exact ⟨j + 1, by omega, by go_num, HW5.out⟩
          case measure => simp [intOf]; omega
        · go_wp2_with fail
          go_ret
          exact ⟨rfl, HWr2.out.bl⟩
end Go.Proofs.YtpeamehplhpcjaaGreatDoor
namespace Go.Proofs.YtpeamehplhpcjaaGreatDoor
def FN (s : Sst) : Prop := NE (s.files.map (·.1))
def FG (g : Grp) : Prop := ∀ p l fr tu s, FN s → FN (g p l fr tu s).2
def FNn (n : Option Grp) : Prop := ∀ g, n = some g → FG g
theorem fn_file {g : Grp} (hg : FG g) (p : Bs) (hp : p ≠ []) (l : List Bs) {s : Sst} (h : FN s) : FN (fileS g p l s).2 := by
  have h2 : FN { s with files := setM s.files p true, opn := s.opn ++ [p] } := fun q hq => by
    rcases (keys_setM _ _ _ _).1 hq with rfl | hq
    · exact hp
    · exact h q hq
  exact hg p l 0 l.length _ h2
theorem path_ne {p : Bs} (h : pathS p = true) : p ≠ [] := fun e => by subst e; revert h; decide
theorem ref_ne {name ref : Bs} (h : (refS name ref).2 = 0) : (refS name ref).1 ≠ [] := by
  unfold refS at h ⊢
  split
  · rename_i h1; rw [if_pos h1] at h; cases h
  · rename_i h1
    rw [if_neg h1] at h
    split at h
    · split at h
      · rename_i h2
        rw [if_pos h2]
        exact path_ne h2
      · cases h
    · split at h
      · rename_i h2
        rw [if_pos h2]
        simp
      · cases h
theorem fn_item (p : Bs) (n : Int) (x : Itm) {s : Sst} (h : FN s) : FN (itemS p n x s).2 := by
  unfold itemS
  split
  · exact h
  · split
    · exact h
    · exact h
theorem fn_head (t : List Fil) {nest : Option Grp} (hn : FNn nest) (p : Bs) (l : List Bs) (i : Nat) (x : Hd) {s : Sst} (h : FN s) : FN (doHead t nest p l i x s).2 := by
  unfold doHead
  simp only
  split
  · unfold inclS
    simp only
    split
    · exact h
    · rename_i hq
      split
      · exact h
      · split
        · exact h
        · split
          · exact h
          · split
            · exact h
            · rename_i g
              exact fn_file (hn g rfl) _ (ref_ne (by omega)) _ h
  · split
    · split
      · exact h
      · split
        · exact h
        · exact h
    · split
      · split
        · exact h
        · exact h
      · split
        · split
          · exact h
          · split
            · exact h
            · rename_i g
              exact hn g rfl _ _ _ _ _ h
        · split
          · exact fn_item _ _ _ h
          · split
            · exact fn_item _ _ _ h
            · split
              · exact fn_item _ _ _ h
              · exact h
theorem fn_loop (t : List Fil) {nest : Option Grp} (hn : FNn nest) (p : Bs) (l : List Bs) (tu : Nat) : ∀ f i (s : Sst), FN s → FN (loopS t nest p l tu f i s).2 := by
  intro f
  induction f with
  | zero => intro i s h; exact h
  | succ f ih =>
    intro i s h
    unfold loopS
    split
    · exact h
    · split
      · exact h
      · have h2 : FN { s with count := s.count + 1, heads := setM s.heads ⟨p, i⟩ true } := h
        simp only
        split
        · exact h
        · split
          · exact h
          · have h3 := fn_head t hn p l i (parseH (l.getD i [])).1 h2
            split
            · exact h3
            · exact ih _ _ h3
theorem fn_group (t : List Fil) : ∀ d, FG (groupS t d) := by
  intro d
  induction d with
  | zero => intro p l fr tu s h; exact fn_loop t (fun g hg => by cases hg) p l tu _ _ s h
  | succ d ih => intro p l fr tu s h; exact fn_loop t (fun g hg => by injection hg with hg; subst hg; exact ih) p l tu _ _ s h
theorem sub_ins {α : Type} (lt : α → α → Bool) (a : α) : ∀ (l : List α) (x : α), x ∈ insG lt a l → x = a ∨ x ∈ l := by
  intro l
  induction l with
  | nil => intro x h; exact .inl (List.mem_singleton.1 h)
  | cons y r ih =>
    intro x h
    unfold insG at h
    split at h
    · rcases List.mem_cons.1 h with rfl | h
      · exact .inr (by simp)
      · exact (ih x h).imp id (List.mem_cons_of_mem _)
    · split at h
      · rcases List.mem_cons.1 h with rfl | h
        · exact .inl rfl
        · exact .inr h
      · exact .inr h
theorem sub_sort {α : Type} (lt : α → α → Bool) : ∀ (l : List α) (x : α), x ∈ sortG lt l → x ∈ l := by
  intro l
  induction l with
  | nil => intro x h; exact h
  | cons y r ih =>
    intro x h
    rcases sub_ins lt y _ x h with rfl | h
    · simp
    · exact List.mem_cons_of_mem _ (ih x h)
theorem unit_ne (t : List Fil) (p : Bs) (fl : List Bs) : NE (scanS t p fl).1.flags ∧ NE (scanS t p fl).1.files ∧ (∀ x ∈ (scanS t p fl).1.items, NE x.params) ∧ ∀ x ∈ (scanS t p fl).1.macros, NE x.params := by
  have h0 : NE ([] : List Bs) := fun q hq => by cases hq
  have hz : NE unt0.flags ∧ NE unt0.files ∧ (∀ x ∈ unt0.items, NE x.params) ∧ ∀ x ∈ unt0.macros, NE x.params := ⟨h0, h0, (fun x hx => by cases hx), (fun x hx => by cases hx)⟩
  unfold scanS
  simp only
  split
  · exact hz
  · rename_i hs
    split
    · exact hz
    · rename_i hok
      have hst : pathS p = true ∧ ∀ f ∈ fl, nameT f = true := by
        have hs2 : (startS t p fl).2.2 = 0 := by omega
        clear hok hs
        unfold startS at hs2
        split at hs2
        · rename_i h1; exact absurd hs2 (by decide)
        · split at hs2
          · cases hs2
          · rename_i h2
            simp only [Bool.or_eq_true, not_or, Bool.not_eq_true, Bool.not_eq_false', List.any_eq_true, not_exists, not_and, Bool.not_eq_eq_eq_not, Bool.not_true, Bool.not_false] at h2
            exact ⟨by simpa using h2.1.1, fun f hf => by simpa using h2.2 f hf⟩
      generalize hb : fileS (groupS t 24) p (startS t p fl).1 (st0 fl) = R at *
      obtain ⟨ok, s2⟩ := R
      have hne := scan_ne t p _ fl hb
      have hfl := flags_sub t fl p _ hb
      have hfi := fn_file (fn_group t 24) p (path_ne hst.1) (startS t p fl).1 (s := st0 fl) h0
      rw [hb] at hfi
      have m1 := (sortG_law strS (s2.flags.map (·.1)) (fun x _ y _ => ltS_tot y x)).2
      have m2 := (sortG_law strS (s2.files.map (·.1)) (fun x _ y _ => ltS_tot y x)).2
      refine ⟨fun q hq => ?_, fun q hq => hfi q ((m2 q).1 hq), hne.1, fun x hx => ?_⟩
      · have := hst.2 q (hfl q ((m1 q).1 hq))
        intro e
        subst e
        revert this
        decide
      · exact hne.2 x (sub_sort ltMac _ x hx)
theorem scan_flags (t : List Fil) (p : Bs) (fl : List Bs) : ∀ q ∈ (scanS t p fl).1.flags, q ∈ fl := by
  unfold scanS
  simp only
  split
  · exact fun q hq => by cases hq
  · split
    · exact fun q hq => by cases hq
    · generalize hb : fileS (groupS t 24) p (startS t p fl).1 (st0 fl) = R at *
      obtain ⟨ok, s2⟩ := R
      have hfl := flags_sub t fl p _ hb
      exact fun q hq => hfl q (sub_sort ltS _ q hq)
theorem nodup_sub_len {α : Type} [DecidableEq α] : ∀ (l m : List α), l.Nodup → (∀ x ∈ l, x ∈ m) → l.length ≤ m.length := by
  intro l
  induction l with
  | nil => intro m _ _; exact Nat.zero_le _
  | cons x r ih =>
    intro m hn hs
    have hx := hs x (by simp)
    have hn' := List.nodup_cons.1 hn
    have h := ih (m.erase x) hn'.2 (fun z hz => (List.mem_erase_of_ne (fun e => hn'.1 (by rw [← e]; exact hz))).2 (hs z (List.mem_cons_of_mem _ hz)))
    rw [List.length_erase_of_mem hx] at h
    have := List.length_pos_of_mem hx
    simp only [List.length_cons]
    omega
end Go.Proofs.YtpeamehplhpcjaaGreatDoor
namespace Go.Proofs.YtpeamehplhpcjaaGreatDoor
open Go.RowKit
section
variable {W W' : World} {g0 : Nat} {A : Option Addr} {n c : Nat}
def Zu (W : World) (g0 : Nat) : Prop := W.heap[g0]? = some (.cells #[.string ⟨#[]⟩, .slice none 0 0, .slice none 0 0, .slice none 0 0, .slice none 0 0, .slice none 0 0] 36 (0, 0))
theorem zu_str (h : Zu W g0) {b o : Nat} {x : Bs} (hc : W.cell? ⟨b, o, none⟩ = some (.string ⟨x.toArray⟩)) (hx : x ≠ []) : b ≠ g0 := by
  intro e
  subst e
  rw [cell_blk h] at hc
  match o with
  | 0 => simp at hc; exact hx hc
  | 1 => simp at hc
  | 2 => simp at hc
  | 3 => simp at hc
  | 4 => simp at hc
  | 5 => simp at hc
  | k + 6 => simp at hc
theorem zu_int (h : Zu W g0) {b o : Nat} {k : IntKind} {x : Int} (hc : W.cell? ⟨b, o, none⟩ = some (.int k x)) : b ≠ g0 := by
  intro e
  subst e
  rw [cell_blk h] at hc
  match o with
  | 0 => simp at hc
  | 1 => simp at hc
  | 2 => simp at hc
  | 3 => simp at hc
  | 4 => simp at hc
  | 5 => simp at hc
  | k + 6 => simp at hc
theorem zu_strs (hz : Zu W g0) {S : Nat → Prop} {xs : List Bs} (h : Sl W S A n c xs) (hne : NE xs) : Sl W (fun k => k ≠ g0) A n c xs := by
  refine ⟨h.1, h.2.1, h.2.2.1, fun i hi => ?_⟩
  obtain ⟨ad, hA, hS, g, hc, hr⟩ := h.2.2.2 i hi
  obtain ⟨b, o, hA', -, -, hcell⟩ := h.str hi
  rw [hA] at hA'
  injection hA' with hA'
  subst hA'
  exact ⟨_, hA, zu_str hz hcell (hne _ (List.getElem_mem hi)), g, hc, hr⟩
theorem zu_spns (hz : Zu W g0) {S : Nat → Prop} {xs : List Spn} (h : Sl W S A n c xs) : Sl W (fun k => k ≠ g0) A n c xs := by
  refine ⟨h.1, h.2.1, h.2.2.1, fun i hi => ?_⟩
  obtain ⟨ad, hA, hS, g, hc, hr⟩ := h.2.2.2 i hi
  obtain ⟨b, o, hA', -, -, -, hcell, -⟩ := h.spn hi
  rw [hA] at hA'
  injection hA' with hA'
  subst hA'
  exact ⟨_, hA, zu_int hz hcell, g, hc, hr⟩
theorem zu_itms (hz : Zu W g0) {S : Nat → Prop} {xs : List Itm} (h : Sl W S A n c xs) (hne : ∀ x ∈ xs, NE x.params) : Sl W (fun k => k ≠ g0) A n c xs := by
  refine ⟨h.1, h.2.1, h.2.2.1, fun i hi => ?_⟩
  obtain ⟨ad, hA, hS, g, hc, h0, h1, h2, h4, h5, h6, A1, n1, c1, e, hs⟩ := h.2.2.2 i hi
  obtain ⟨b, o, hA', -, -, _, _, _, -, hcell, -⟩ := h.itm hi
  rw [hA] at hA'
  injection hA' with hA'
  subst hA'
  exact ⟨_, hA, zu_int hz hcell, g, hc, h0, h1, h2, h4, h5, h6, A1, n1, c1, e, zu_strs hz hs (hne _ (List.getElem_mem hi))⟩
theorem zu_macs (hz : Zu W g0) {S : Nat → Prop} {xs : List Mac} (h : Sl W S A n c xs) (hne : ∀ x ∈ xs, NE x.params) : Sl W (fun k => k ≠ g0) A n c xs := by
  refine ⟨h.1, h.2.1, h.2.2.1, fun i hi => ?_⟩
  obtain ⟨ad, hA, hS, g, hc, h0, h2, h3, h4, A1, n1, c1, e, hs⟩ := h.2.2.2 i hi
  obtain ⟨b, o, hA', -, -, _, _, _, -, -, -, hcell, -⟩ := h.mac hi
  rw [hA] at hA'
  injection hA' with hA'
  subst hA'
  exact ⟨_, hA, zu_int hz hcell, g, hc, h0, h2, h3, h4, A1, n1, c1, e, zu_strs hz hs (hne _ (List.getElem_mem hi))⟩
def UNE (u : Unt) : Prop := NE u.flags ∧ NE u.files ∧ (∀ x ∈ u.items, NE x.params) ∧ ∀ x ∈ u.macros, NE x.params
theorem VUnt.turn {v : Value} {u : Unt} (h : VUnt W v u) (hu : UNE u) (hz : Zu W g0) (hk : ∀ k, k ≠ g0 → W'.heap[k]? = W.heap[k]?) : VUnt W' v u := by
  obtain ⟨A1, n1, c1, A2, n2, c2, A3, n3, c3, A4, n4, c4, A5, n5, c5, e, h1, h2, h3, h4, h5⟩ := h
  obtain ⟨u1, u2, u3, u4⟩ := hu
  refine ⟨A1, n1, c1, A2, n2, c2, A3, n3, c3, A4, n4, c4, A5, n5, c5, e, ?_, ?_, ?_, ?_, ?_⟩
  · exact ((zu_strs hz h1 u1).keep fun k _ hn => hk k hn).any
  · exact ((zu_macs hz h2 u4).keep fun k _ hn => hk k hn).any
  · exact ((zu_itms hz h3 u3).keep fun k _ hn => hk k hn).any
  · exact ((zu_spns hz h4).keep fun k _ hn => hk k hn).any
  · exact ((zu_strs hz h5 u2).keep fun k _ hn => hk k hn).any
end
end Go.Proofs.YtpeamehplhpcjaaGreatDoor
