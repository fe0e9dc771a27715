/- A part of the proofs of the laws of one package; see the law's own text, which comes last in 'order'. No conditions of its own. -/
import Derived.Test.YtpeamehplhpcjaaGreatDoorWC30
set_option linter.unusedVariables false
set_option linter.unusedSimpArgs false
namespace Go.Proofs.YtpeamehplhpcjaaGreatDoor
open Go.RowKit
structure FiW (w W : World) (cu : Array Value) : Prop where
  bl : Below w.heap.size w W
  un : W.heap[w.heap.size]? = some (.cells cu 36 (0, 0))
  res : W.heap[w.heap.size + 2]? = some (.cells #[.string ⟨#[]⟩, .int .i64 0, .int .i64 0, .slice none 0 0, .string ⟨#[]⟩, .int .i64 0, .int .i64 0] 48 (0, 0))
theorem FiW.below {w W W' : World} {cu : Array Value} (h : FiW w W cu) (hb : Below W.heap.size W W') : FiW w W' cu := ⟨h.bl.trans (hb.mono h.bl.size), keptBlk hb h.un, keptBlk hb h.res⟩
theorem set7 (w : World) {g : Nat} {cs : Array Value} {t : TypeId} (h : w.heap[g]? = some (.cells cs t (0, 0))) (a0 a1 a2 a3 a4 a5 a6 : Value) :
    (((((((w.setCell ⟨g, 0, none⟩ a0).setCell ⟨g, 1, none⟩ a1).setCell ⟨g, 2, none⟩ a2).setCell ⟨g, 3, none⟩ a3).setCell ⟨g, 4, none⟩ a4).setCell ⟨g, 5, none⟩ a5).setCell ⟨g, 6, none⟩ a6).heap[g]? = some (.cells (((((((cs.setIfInBounds 0 a0).setIfInBounds 1 a1).setIfInBounds 2 a2).setIfInBounds 3 a3).setIfInBounds 4 a4).setIfInBounds 5 a5).setIfInBounds 6 a6) t (0, 0)) :=
  Blk.set _ (Blk.set _ (set5' w h 0 1 2 3 4 a0 a1 a2 a3 a4) 5 a5) 6 a6
theorem set7_other (w : World) {g : Nat} (a0 a1 a2 a3 a4 a5 a6 : Value) (q : Nat) (hq : q ≠ g) :
    (((((((w.setCell ⟨g, 0, none⟩ a0).setCell ⟨g, 1, none⟩ a1).setCell ⟨g, 2, none⟩ a2).setCell ⟨g, 3, none⟩ a3).setCell ⟨g, 4, none⟩ a4).setCell ⟨g, 5, none⟩ a5).setCell ⟨g, 6, none⟩ a6).heap[q]? = w.heap[q]? :=
  (set_other _ _ _ _ _ hq).trans ((set_other _ _ _ _ _ hq).trans (set5_other w 0 1 2 3 4 a0 a1 a2 a3 a4 q hq))
set_option maxRecDepth 100000 in
set_option maxHeartbeats 4000000 in
theorem find_any (u : Unt) (v : Value) (w : World) (hv : VUnt w v u) (nm : Bs) (hN : ∀ x ∈ u.items, x.params.length ≤ 1000000) :
    Calls Tryz.prog 16 #[v, .string ⟨nm.toArray⟩] w fun e w' => ∃ v', e = .returned (.tuple #[v', .bool (findI u nm).2]) ∧ VItm w' (fun _ => True) v' (findI u nm).1 ∧ Below w.heap.size w w' := by
  obtain ⟨R, hR⟩ : ∃ R, R = findI u nm := ⟨_, rfl⟩
  rw [← hR]
  obtain ⟨A1, n1, c1, A2, n2, c2, A3, n3, c3, A4, n4, c4, A5, n5, c5, rfl, -, -, h3, -, -⟩ := hv
  unfold findI at hR
  have hn3 := h3.len
  have hle3 := h3.le
  subst hn3
  have hcase := find_idx u.items nm 0
  generalize u.path = up at *
  generalize u.items = its at *
  generalize its.find? (fun y => y.name == nm) = fo at *
  have HR0 := Lib.hid hR; have H3 := Lib.hid h3; have HCA := Lib.hid hcase; have HN := Lib.hid hN
  clear hR h3 hcase hN
  go_enter Tryz.func16, Tryz.ntmps16
  go_upto_region 1 with fail
  have hb0 : Below w.heap.size w (((w.alloc (.cells #[.string ⟨up.toArray⟩, .slice A1 n1 c1, .slice A2 n2 c2, .slice A3 its.length c3, .slice A4 n4 c4, .slice A5 n5 c5] 36)).alloc (.cells #[.string ⟨nm.toArray⟩] 9)).alloc (.cells #[.string ⟨#[]⟩, .int .i64 0, .int .i64 0, .slice none 0 0, .string ⟨#[]⟩, .int .i64 0, .int .i64 0] 48)) := by ((repeat (first | (with_reducible exact Below.refl _ _) | (with_reducible refine belowA ?_ _) | (with_reducible refine belowD ?_) | (with_reducible refine belowS ?_ (Nat.le_refl _) _ _) | (with_reducible refine next ?_ (by assumption) (Nat.le_refl _)))); done)
  have q0 : (((w.alloc (.cells #[.string ⟨up.toArray⟩, .slice A1 n1 c1, .slice A2 n2 c2, .slice A3 its.length c3, .slice A4 n4 c4, .slice A5 n5 c5] 36)).alloc (.cells #[.string ⟨nm.toArray⟩] 9)).alloc (.cells #[.string ⟨#[]⟩, .int .i64 0, .int .i64 0, .slice none 0 0, .string ⟨#[]⟩, .int .i64 0, .int .i64 0] 48)).heap[w.heap.size]? = some (.cells #[.string ⟨up.toArray⟩, .slice A1 n1 c1, .slice A2 n2 c2, .slice A3 its.length c3, .slice A4 n4 c4, .slice A5 n5 c5] 36 (0, 0)) := by ((repeat (first | (with_reducible assumption) | ((with_reducible refine blkAt2 ?_ ?_); (focus (simp; done)); rfl) | (with_reducible refine blkOld ?_ _) | (with_reducible refine keptBlk (by assumption) ?_) | (with_reducible refine grownBlk (by assumption) ?_ (by simp; omega)) | (with_reducible refine blkDrw ?_))); done)
  have q1 : (((w.alloc (.cells #[.string ⟨up.toArray⟩, .slice A1 n1 c1, .slice A2 n2 c2, .slice A3 its.length c3, .slice A4 n4 c4, .slice A5 n5 c5] 36)).alloc (.cells #[.string ⟨nm.toArray⟩] 9)).alloc (.cells #[.string ⟨#[]⟩, .int .i64 0, .int .i64 0, .slice none 0 0, .string ⟨#[]⟩, .int .i64 0, .int .i64 0] 48)).heap[w.heap.size + 1]? = some (.cells #[.string ⟨nm.toArray⟩] 9 (0, 0)) := by ((repeat (first | (with_reducible assumption) | ((with_reducible refine blkAt2 ?_ ?_); (focus (simp; done)); rfl) | (with_reducible refine blkOld ?_ _) | (with_reducible refine keptBlk (by assumption) ?_) | (with_reducible refine grownBlk (by assumption) ?_ (by simp; omega)) | (with_reducible refine blkDrw ?_))); done)
  have q2 : (((w.alloc (.cells #[.string ⟨up.toArray⟩, .slice A1 n1 c1, .slice A2 n2 c2, .slice A3 its.length c3, .slice A4 n4 c4, .slice A5 n5 c5] 36)).alloc (.cells #[.string ⟨nm.toArray⟩] 9)).alloc (.cells #[.string ⟨#[]⟩, .int .i64 0, .int .i64 0, .slice none 0 0, .string ⟨#[]⟩, .int .i64 0, .int .i64 0] 48)).heap[w.heap.size + 2]? = some (.cells #[.string ⟨#[]⟩, .int .i64 0, .int .i64 0, .slice none 0 0, .string ⟨#[]⟩, .int .i64 0, .int .i64 0] 48 (0, 0)) := by ((repeat (first | (with_reducible assumption) | ((with_reducible refine blkAt2 ?_ ?_); (focus (simp; done)); rfl) | (with_reducible refine blkOld ?_ _) | (with_reducible refine keptBlk (by assumption) ?_) | (with_reducible refine grownBlk (by assumption) ?_ (by simp; omega)) | (with_reducible refine blkDrw ?_))); done)
  generalize (((w.alloc (.cells #[.string ⟨up.toArray⟩, .slice A1 n1 c1, .slice A2 n2 c2, .slice A3 its.length c3, .slice A4 n4 c4, .slice A5 n5 c5] 36)).alloc (.cells #[.string ⟨nm.toArray⟩] 9)).alloc (.cells #[.string ⟨#[]⟩, .int .i64 0, .int .i64 0, .slice none 0 0, .string ⟨#[]⟩, .int .i64 0, .int .i64 0] 48)) = W0 at *
  have HW0 := Lib.hid (show FiW w W0 _ from ⟨hb0, q0, q2⟩)
  have H30 := Lib.hid (H3.out.below hb0)
  have hidx := idxI_any A3 its.length c3 W0 _ its H30.out 65 #[.pointer (some ⟨w.heap.size + 1, 0, none⟩)] (fun _ _ => by kernel_rfl) (fun y => y.name == nm) (fun x _ w1 hb1 v hv => find1_any w1 _ v x hv _ nm ((keptCell hb1 q1 0).trans rfl))
  have HIDX := Lib.hid hidx
  have c3' := (cell_blk q0 3).trans rfl
  clear hb0 q0 q1 q2 hidx H3
  generalize idxS (fun y : Itm => y.name == nm) its 0 = ix at *
  go_wp2_with fail
  refine HIDX.out.mono ?_
  rintro e w1 ⟨rfl, hb1⟩
  have HW1 := Lib.hid (HW0.out.below hb1); have H31 := Lib.hid (H30.out.below hb1)
  clear hb1 c3' HIDX HW0 H30
  rcases HCA.out with ⟨h1, h2⟩ | ⟨i, hi, h1, h2⟩
  · subst h1 h2
    have HR := Lib.hid (show R = (itm0, false) from HR0.out)
    (have r0 := (cell_blk HW1.out.res 0).trans rfl); (have r1 := (cell_blk HW1.out.res 1).trans rfl); (have r2 := (cell_blk HW1.out.res 2).trans rfl); (have r3 := (cell_blk HW1.out.res 3).trans rfl); (have r4 := (cell_blk HW1.out.res 4).trans rfl); (have r5 := (cell_blk HW1.out.res 5).trans rfl); (have r6 := (cell_blk HW1.out.res 6).trans rfl); (have f0 := frz_blk HW1.out.res 0); (have f1 := frz_blk HW1.out.res 1); (have f2 := frz_blk HW1.out.res 2); (have f3 := frz_blk HW1.out.res 3); (have f4 := frz_blk HW1.out.res 4); (have f5 := frz_blk HW1.out.res 5); (have f6 := frz_blk HW1.out.res 6)
    go_wp2_with fail
    (have hRF := set7 _ HW1.out.res (.string ⟨#[]⟩) (.int .i64 0) (.int .i64 0) (.slice none 0 0) (.string ⟨#[]⟩) (.int .i64 0) (.int .i64 0)); (have t0 := (cell_blk hRF 0).trans rfl); (have t1 := (cell_blk hRF 1).trans rfl); (have t2 := (cell_blk hRF 2).trans rfl); (have t3 := (cell_blk hRF 3).trans rfl); (have t4 := (cell_blk hRF 4).trans rfl); (have t5 := (cell_blk hRF 5).trans rfl); (have t6 := (cell_blk hRF 6).trans rfl)
    refine bodyPost_ret (v := .tuple #[.agg #[.string ⟨#[]⟩, .int .i64 0, .int .i64 0, .slice none 0 0, .string ⟨#[]⟩, .int .i64 0, .int .i64 0], .bool false]) (by simp [results, Tryz.results16, go_sem, t0, t1, t2, t3, t4, t5, t6]) rfl ?_
    exact ⟨_, by rw [HR.out], by rw [HR.out]; exact ⟨none, 0, 0, rfl, Sl.nil _ _ _ _ (by decide)⟩, belowS (belowS (belowS (belowS (belowS (belowS (belowS HW1.out.bl (by omega) _ _) (by omega) _ _) (by omega) _ _) (by omega) _ _) (by omega) _ _) (by omega) _ _) (by omega) _ _⟩
  · subst h2
    rw [Nat.zero_add] at h1
    subst h1
    have hx := HN.out _ (List.getElem_mem hi)
    obtain ⟨b3, o3, rfl, -, hb3, Ax, nx, cx, g0, g1, g2, g3, g4, g5, g6, hsx⟩ := H31.out.itm hi
    have HR := Lib.hid (show R = (its[i], true) from HR0.out)
    clear HR0 HCA
    generalize its[i] = x at *
    have u3 := (cell_blk HW1.out.un 3).trans rfl
    have hnx := hsx.len
    subst hnx
    have HSX := Lib.hid hsx
    clear hsx
    go_upto_region 4 with fail
    have hb2 : Below w1.heap.size w1 (w1.alloc (.cells #[.string ⟨x.name.toArray⟩, .int .i64 x.kind, .int .i64 x.mode, .slice Ax x.params.length cx, .string ⟨x.body.path.toArray⟩, .int .i64 x.body.fr, .int .i64 x.body.tu] 48)) := boxed
    have hx2 := blkAt w1 (.cells #[.string ⟨x.name.toArray⟩, .int .i64 x.kind, .int .i64 x.mode, .slice Ax x.params.length cx, .string ⟨x.body.path.toArray⟩, .int .i64 x.body.fr, .int .i64 x.body.tu] 48) rfl
    generalize (w1.alloc (.cells #[.string ⟨x.name.toArray⟩, .int .i64 x.kind, .int .i64 x.mode, .slice Ax x.params.length cx, .string ⟨x.body.path.toArray⟩, .int .i64 x.body.fr, .int .i64 x.body.tu] 48)) = w2 at *
    have HW2 := Lib.hid (HW1.out.below hb2); have HX2 := Lib.hid hx2
    have hcl := cloneB_any Ax x.params.length cx w2 _ x.params (HSX.out.below hb2) (by omega)
    have HCL := Lib.hid hcl
    have hl1 := (Array.getElem?_eq_some_iff.1 HW1.out.res).1
    have z3 := (cell_blk hx2 3).trans rfl
    clear hb2 hx2 hcl g0 g1 g2 g3 g4 g5 g6 u3 HW1 H31
    go_wp2_with fail
    refine HCL.out.mono ?_
    rintro e w3 ⟨A9, c9, rfl, hs9, hb9⟩
    have hx3 := keptBlk hb9 HX2.out
    have z3 := (cell_blk hx3 3).trans rfl
    have y3 := frz_blk hx3 3
    have HW3 := Lib.hid (HW2.out.below hb9); have HX3 := Lib.hid hx3
    have hlt3 := (Array.getElem?_eq_some_iff.1 hx3).1
    have hw2 := hb9.size
    have hw12 : w1.heap.size < w2.heap.size := (Array.getElem?_eq_some_iff.1 HX2.out).1
    have HS9 := Lib.hid hs9
    clear hb9 hs9 hx3 HCL HW2 HX2
    go_upto_region 5 with fail
    have hx4 := Blk.set w3 HX3.out 3 (.slice A9 x.params.length c9)
    have hW4 : FiW w (w3.setCell ⟨w1.heap.size, 3, none⟩ (.slice A9 x.params.length c9)) _ := ⟨belowS HW3.out.bl (by omega) _ _, (set_other _ _ _ _ _ (by omega)).trans HW3.out.un, (set_other _ _ _ _ _ (by omega)).trans HW3.out.res⟩
    have hs4 := HS9.out.keep (w' := w3.setCell ⟨w1.heap.size, 3, none⟩ (.slice A9 x.params.length c9)) (fun k _ hk => set_other _ _ _ _ _ (by omega))
    generalize (w3.setCell ⟨w1.heap.size, 3, none⟩ (.slice A9 x.params.length c9)) = w4 at *
    have HW4 := Lib.hid hW4; have HS4 := Lib.hid hs4
    have x0 := (cell_blk hx4 0).trans rfl
    have x1 := (cell_blk hx4 1).trans rfl
    have x2 := (cell_blk hx4 2).trans rfl
    have x3 := (cell_blk hx4 3).trans rfl
    have x4 := (cell_blk hx4 4).trans rfl
    have x5 := (cell_blk hx4 5).trans rfl
    have x6 := (cell_blk hx4 6).trans rfl
    clear hx4 hW4 hs4 z3 y3 HX3 HW3 HS9
    (have r0 := (cell_blk HW4.out.res 0).trans rfl); (have r1 := (cell_blk HW4.out.res 1).trans rfl); (have r2 := (cell_blk HW4.out.res 2).trans rfl); (have r3 := (cell_blk HW4.out.res 3).trans rfl); (have r4 := (cell_blk HW4.out.res 4).trans rfl); (have r5 := (cell_blk HW4.out.res 5).trans rfl); (have r6 := (cell_blk HW4.out.res 6).trans rfl); (have f0 := frz_blk HW4.out.res 0); (have f1 := frz_blk HW4.out.res 1); (have f2 := frz_blk HW4.out.res 2); (have f3 := frz_blk HW4.out.res 3); (have f4 := frz_blk HW4.out.res 4); (have f5 := frz_blk HW4.out.res 5); (have f6 := frz_blk HW4.out.res 6)
    go_wp2_with fail
    (have hRF := set7 _ HW4.out.res (.string ⟨x.name.toArray⟩) (.int .i64 x.kind) (.int .i64 x.mode) (.slice A9 x.params.length c9) (.string ⟨x.body.path.toArray⟩) (.int .i64 x.body.fr) (.int .i64 x.body.tu)); (have t0 := (cell_blk hRF 0).trans rfl); (have t1 := (cell_blk hRF 1).trans rfl); (have t2 := (cell_blk hRF 2).trans rfl); (have t3 := (cell_blk hRF 3).trans rfl); (have t4 := (cell_blk hRF 4).trans rfl); (have t5 := (cell_blk hRF 5).trans rfl); (have t6 := (cell_blk hRF 6).trans rfl)
    refine bodyPost_ret (v := .tuple #[.agg #[.string ⟨x.name.toArray⟩, .int .i64 x.kind, .int .i64 x.mode, .slice A9 x.params.length c9, .string ⟨x.body.path.toArray⟩, .int .i64 x.body.fr, .int .i64 x.body.tu], .bool true]) (by simp [results, Tryz.results16, go_sem, t0, t1, t2, t3, t4, t5, t6]) rfl ?_
    exact ⟨_, by rw [HR.out], by rw [HR.out]; exact ⟨A9, _, c9, rfl, (HS4.out.keep (fun k _ hk => set7_other _ _ _ _ _ _ _ _ k (by omega))).any⟩, belowS (belowS (belowS (belowS (belowS (belowS (belowS HW4.out.bl (by omega) _ _) (by omega) _ _) (by omega) _ _) (by omega) _ _) (by omega) _ _) (by omega) _ _) (by omega) _ _⟩
end Go.Proofs.YtpeamehplhpcjaaGreatDoor
namespace Go.Proofs.YtpeamehplhpcjaaGreatDoor
open Go.RowKit
theorem path_len {s : Bs} (h : pathS s = true) : s.length ≤ 128 := by
  unfold pathS at h
  simp only [Bool.and_eq_true, decide_eq_true_eq] at h
  exact h.1.1
theorem tree_ok {t : List Fil} (h : treeS t = 0) : TOk t := by
  unfold treeS at h
  split at h; cases h
  have key : ∀ (t b : List Fil), checkT b t = 0 → TOk t := by
    intro t
    induction t with
    | nil => intro b _ f hf; cases hf
    | cons x r ih =>
      intro b h
      rw [checkT_cons] at h
      split at h; cases h
      rename_i h1
      split at h; cases h
      rename_i h2
      split at h; cases h
      split at h; cases h
      intro f hf
      rcases List.mem_cons.1 hf with rfl | hf
      · exact ⟨path_len (by simpa using h1), by omega⟩
      · exact ih _ h f hf
  exact key t [] h
theorem start_ok {t : List Fil} {p : Bs} {fl : List Bs} (h : (startS t p fl).2.2 = 0) : treeS t = 0 ∧ p.length ≤ 128 ∧ fl.length ≤ 128 ∧ LOk (startS t p fl).1 ∧ 0 < (startS t p fl).1.length := by
  unfold startS at h ⊢
  split at h; cases h
  rename_i h1
  split at h; cases h
  rename_i h2
  split at h; cases h
  rename_i h3
  split at h; cases h
  rename_i h4
  rw [if_neg h1, if_neg h2, if_neg h3, if_neg h4]
  have ht : treeS t = 0 := by omega
  have hp : pathS p = true := by
    simp only [Bool.or_eq_true, not_or] at h2
    simpa using h2.1.1
  cases hf : findT t p with
  | none => rw [hf] at h; cases h
  | some d =>
    rw [hf] at h
    simp only at h ⊢
    exact ⟨ht, path_len hp, by omega, lines_ok h (find_ok (tree_ok ht) hf).2, by rw [lines_pos h]; omega⟩
theorem ScB.flag {W W' : World} {M : Nat → Prop} {B g : Nat} {tA : Option Addr} {tn tc mf mm mh ml : Nat} {iA : Option Addr} {ic : Nat} {oA : Option Addr} {oc : Nat} {mv : List (Bs × Value)} {t : List Fil} {s : Sst}
    (H : ScB W M B g tA tn tc mf mm mh ml iA ic oA oc mv t s) {k : Bs} (hm : MapV TS W' mf (setM (vFlags s.flags) k (.bool true))) (hg : W.grownBy W' (some mf)) :
    ScB W' M B g tA tn tc mf mm mh ml iA ic oA oc mv t { s with flags := setM s.flags k true } ∧ ScOut W M W' M := by
  have hM := H.own mf (.inr (.inl rfl))
  rw [vFlags_eq, vB_set] at hm
  exact H.one (s' := { s with flags := setM s.flags k true }) (.inl rfl) hg rfl rfl rfl rfl hm (ScB.kp hg H.mval (Ne.symm H.dif.2.2.2.2.1)) (H.kpM hM hg H.macs) (ScB.kp hg H.heads (Ne.symm H.dif.2.2.2.2.2.1)) (ScB.kp hg H.files (Ne.symm H.dif.2.2.2.2.2.2.1))
theorem map_made {κ : Type} (T : KeyT κ) {w : World} {b : Nat} (h : w.heap[b]? = some (.map #[] 0)) : MapV T w b [] := ⟨#[], 0, h, Go.MapKept.stamped_empty 0, rfl, fun p hp => by cases hp⟩
theorem st0_step (fl : List Bs) (k : Nat) (hk : k < fl.length) : st0 (fl.take (k + 1)) = { st0 (fl.take k) with flags := setM (st0 (fl.take k)).flags fl[k] true } := by
  rw [List.take_succ_eq_append_getElem hk]
  unfold st0
  simp only [List.foldl_append, List.foldl_cons, List.foldl_nil]
theorem made_scan {V W : World} {t : List Fil} {tA : Option Addr} {tn tc : Nat} (hV : Below V.heap.size V W) (hz : V.heap.size + 4 < W.heap.size) (ht : Sl W (fun k => k < V.heap.size) tA tn tc t)
    (h0 : W.heap[V.heap.size]? = some (.map #[] 0)) (h1 : W.heap[V.heap.size + 1]? = some (.map #[] 0)) (h2 : W.heap[V.heap.size + 2]? = some (.map #[] 0)) (h3 : W.heap[V.heap.size + 3]? = some (.map #[] 0))
    (hg : W.heap[V.heap.size + 4]? = some (.cells #[.slice tA tn tc, .map (some V.heap.size), .map (some (V.heap.size + 1)), .slice none 0 0, .map (some (V.heap.size + 2)), .map (some (V.heap.size + 3)), .slice none 0 0, .int .i64 0, .int .i64 0, .int .i64 0, .int .i64 0, .string ⟨#[]⟩, .int .i64 0] 96 (0, 0))) :
    ScB W (fun k => V.heap.size ≤ k ∧ k ≤ V.heap.size + 4) V.heap.size (V.heap.size + 4) tA tn tc V.heap.size (V.heap.size + 1) (V.heap.size + 2) (V.heap.size + 3) none 0 none 0 [] t (st0 []) where
  cells := hg
  tree := ht
  flags := map_made TS h0
  mval := map_made TS h1
  macs := trivial
  items := Own.nil _ _ _ _
  heads := map_made TLn h2
  files := map_made TS h3
  opn := Own.nil _ _ _ _
  own := by rintro k (h | h | h | h | h | h | h) <;> first | omega | cases h
  old := fun k h => h.1
  lt := fun k h => by omega
  dif := by refine ⟨?_, ?_, ?_, ?_, ?_, ?_, ?_, ?_, ?_, ?_⟩ <;> omega
  difi := fun k h => by cases h
  difo := fun k h => by cases h
end Go.Proofs.YtpeamehplhpcjaaGreatDoor
