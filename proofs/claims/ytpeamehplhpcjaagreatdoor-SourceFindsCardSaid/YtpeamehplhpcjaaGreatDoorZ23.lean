/- A part of the proofs of the laws of one package; see the law's own text, which comes last in 'order'. No conditions of its own. -/
import Derived.Test.YtpeamehplhpcjaaGreatDoorZ19
import Derived.Test.YtpeamehplhpcjaaGreatDoorZ22
set_option linter.unusedVariables false
set_option linter.unusedSimpArgs false
namespace Go.Proofs.YtpeamehplhpcjaaGreatDoor
open Go.RowKit
structure FiW (w W : World) (cu : Array Value) : Prop where
  bl : Below w.heap.size w W
  un : W.heap[w.heap.size]? = some (.cells cu 36 (0, 0))
  res : W.heap[w.heap.size + 2]? = some (.cells #[.string ⟨#[]⟩, .int .i64 0, .int .i64 0, .slice none 0 0, .string ⟨#[]⟩, .int .i64 0, .int .i64 0] 48 (0, 0))
theorem FiW.below {w W W' : World} {cu : Array Value} (h : FiW w W cu) (hb : Below W.heap.size W W') : FiW w W' cu := ⟨h.bl.trans (hb.mono h.bl.size), keptBlk hb h.un, keptBlk hb h.res⟩
theorem set7 (w : World) {g : Nat} {cs : Array Value} {t : TypeId} (h : w.heap[g]? = some (.cells cs t (0, 0))) (a0 a1 a2 a3 a4 a5 a6 : Value) :
    (((((((w.setCell ⟨g, 0, none⟩ a0).setCell ⟨g, 1, none⟩ a1).setCell ⟨g, 2, none⟩ a2).setCell ⟨g, 3, none⟩ a3).setCell ⟨g, 4, none⟩ a4).setCell ⟨g, 5, none⟩ a5).setCell ⟨g, 6, none⟩ a6).heap[g]? = some (.cells (((((((cs.setIfInBounds 0 a0).setIfInBounds 1 a1).setIfInBounds 2 a2).setIfInBounds 3 a3).setIfInBounds 4 a4).setIfInBounds 5 a5).setIfInBounds 6 a6) t (0, 0)) :=
  Blk.set _ (Blk.set _ (set5' w h 0 1 2 3 4 a0 a1 a2 a3 a4) 5 a5) 6 a6
theorem set7_other (w : World) {g : Nat} (a0 a1 a2 a3 a4 a5 a6 : Value) (q : Nat) (hq : q ≠ g) :
    (((((((w.setCell ⟨g, 0, none⟩ a0).setCell ⟨g, 1, none⟩ a1).setCell ⟨g, 2, none⟩ a2).setCell ⟨g, 3, none⟩ a3).setCell ⟨g, 4, none⟩ a4).setCell ⟨g, 5, none⟩ a5).setCell ⟨g, 6, none⟩ a6).heap[q]? = w.heap[q]? :=
  (set_other _ _ _ _ _ hq).trans ((set_other _ _ _ _ _ hq).trans (set5_other w 0 1 2 3 4 a0 a1 a2 a3 a4 q hq))
set_option maxRecDepth 100000 in
set_option maxHeartbeats 4000000 in
theorem find_any (u : Unt) (v : Value) (w : World) (hv : VUnt w v u) (nm : Bs) (hN : ∀ x ∈ u.items, x.params.length ≤ 1000000) :
    Calls Tryz.prog 16 #[v, .string ⟨nm.toArray⟩] w fun e w' => ∃ v', e = .returned (.tuple #[v', .bool (findI u nm).2]) ∧ VItm w' (fun _ => True) v' (findI u nm).1 ∧ Below w.heap.size w w' := by
  obtain ⟨R, hR⟩ : ∃ R, R = findI u nm := ⟨_, rfl⟩
  rw [← hR]
  obtain ⟨A1, n1, c1, A2, n2, c2, A3, n3, c3, A4, n4, c4, A5, n5, c5, rfl, -, -, h3, -, -⟩ := hv
  unfold findI at hR
  have hn3 := h3.len
  have hle3 := h3.le
  subst hn3
  have hcase := find_idx u.items nm 0
  generalize u.path = up at *
  generalize u.items = its at *
  generalize its.find? (fun y => y.name == nm) = fo at *
  have HR0 := Lib.hid hR; have H3 := Lib.hid h3; have HCA := Lib.hid hcase; have HN := Lib.hid hN
  clear hR h3 hcase hN
  go_enter Tryz.func16, Tryz.ntmps16
  go_upto_region 1 with fail
  have hb0 : Below w.heap.size w (((w.alloc (.cells #[.string ⟨up.toArray⟩, .slice A1 n1 c1, .slice A2 n2 c2, .slice A3 its.length c3, .slice A4 n4 c4, .slice A5 n5 c5] 36)).alloc (.cells #[.string ⟨nm.toArray⟩] 9)).alloc (.cells #[.string ⟨#[]⟩, .int .i64 0, .int .i64 0, .slice none 0 0, .string ⟨#[]⟩, .int .i64 0, .int .i64 0] 48)) := by ((repeat (first | (with_reducible exact Below.refl _ _) | (with_reducible refine belowA ?_ _) | (with_reducible refine belowD ?_) | (with_reducible refine belowS ?_ (Nat.le_refl _) _ _) | (with_reducible refine next ?_ (by assumption) (Nat.le_refl _)))); done)
  have q0 : (((w.alloc (.cells #[.string ⟨up.toArray⟩, .slice A1 n1 c1, .slice A2 n2 c2, .slice A3 its.length c3, .slice A4 n4 c4, .slice A5 n5 c5] 36)).alloc (.cells #[.string ⟨nm.toArray⟩] 9)).alloc (.cells #[.string ⟨#[]⟩, .int .i64 0, .int .i64 0, .slice none 0 0, .string ⟨#[]⟩, .int .i64 0, .int .i64 0] 48)).heap[w.heap.size]? = some (.cells #[.string ⟨up.toArray⟩, .slice A1 n1 c1, .slice A2 n2 c2, .slice A3 its.length c3, .slice A4 n4 c4, .slice A5 n5 c5] 36 (0, 0)) := by ((repeat (first | (with_reducible assumption) | ((with_reducible refine blkAt2 ?_ ?_); (focus (simp; done)); rfl) | (with_reducible refine blkOld ?_ _) | (with_reducible refine keptBlk (by assumption) ?_) | (with_reducible refine grownBlk (by assumption) ?_ (by simp; omega)) | (with_reducible refine blkDrw ?_))); done)
  have q1 : (((w.alloc (.cells #[.string ⟨up.toArray⟩, .slice A1 n1 c1, .slice A2 n2 c2, .slice A3 its.length c3, .slice A4 n4 c4, .slice A5 n5 c5] 36)).alloc (.cells #[.string ⟨nm.toArray⟩] 9)).alloc (.cells #[.string ⟨#[]⟩, .int .i64 0, .int .i64 0, .slice none 0 0, .string ⟨#[]⟩, .int .i64 0, .int .i64 0] 48)).heap[w.heap.size + 1]? = some (.cells #[.string ⟨nm.toArray⟩] 9 (0, 0)) := by ((repeat (first | (with_reducible assumption) | ((with_reducible refine blkAt2 ?_ ?_); (focus (simp; done)); rfl) | (with_reducible refine blkOld ?_ _) | (with_reducible refine keptBlk (by assumption) ?_) | (with_reducible refine grownBlk (by assumption) ?_ (by simp; omega)) | (with_reducible refine blkDrw ?_))); done)
  have q2 : (((w.alloc (.cells #[.string ⟨up.toArray⟩, .slice A1 n1 c1, .slice A2 n2 c2, .slice A3 its.length c3, .slice A4 n4 c4, .slice A5 n5 c5] 36)).alloc (.cells #[.string ⟨nm.toArray⟩] 9)).alloc (.cells #[.string ⟨#[]⟩, .int .i64 0, .int .i64 0, .slice none 0 0, .string ⟨#[]⟩, .int .i64 0, .int .i64 0] 48)).heap[w.heap.size + 2]? = some (.cells #[.string ⟨#[]⟩, .int .i64 0, .int .i64 0, .slice none 0 0, .string ⟨#[]⟩, .int .i64 0, .int .i64 0] 48 (0, 0)) := by ((repeat (first | (with_reducible assumption) | ((with_reducible refine blkAt2 ?_ ?_); (focus (simp; done)); rfl) | (with_reducible refine blkOld ?_ _) | (with_reducible refine keptBlk (by assumption) ?_) | (with_reducible refine grownBlk (by assumption) ?_ (by simp; omega)) | (with_reducible refine blkDrw ?_))); done)
  generalize (((w.alloc (.cells #[.string ⟨up.toArray⟩, .slice A1 n1 c1, .slice A2 n2 c2, .slice A3 its.length c3, .slice A4 n4 c4, .slice A5 n5 c5] 36)).alloc (.cells #[.string ⟨nm.toArray⟩] 9)).alloc (.cells #[.string ⟨#[]⟩, .int .i64 0, .int .i64 0, .slice none 0 0, .string ⟨#[]⟩, .int .i64 0, .int .i64 0] 48)) = W0 at *
  have HW0 := Lib.hid (show FiW w W0 _ from ⟨hb0, q0, q2⟩)
  have H30 := Lib.hid (H3.out.below hb0)
  have hidx := idxI_any A3 its.length c3 W0 _ its H30.out 65 #[.pointer (some ⟨w.heap.size + 1, 0, none⟩)] (fun _ _ => by kernel_rfl) (fun y => y.name == nm) (fun x _ w1 hb1 v hv => find1_any w1 _ v x hv _ nm ((keptCell hb1 q1 0).trans rfl))
  have HIDX := Lib.hid hidx
  have c3' := (cell_blk q0 3).trans rfl
  clear hb0 q0 q1 q2 hidx H3
  generalize idxS (fun y : Itm => y.name == nm) its 0 = ix at *
  go_wp2_with fail
  refine HIDX.out.mono ?_
  rintro e w1 ⟨rfl, hb1⟩
  have HW1 := Lib.hid (HW0.out.below hb1); have H31 := Lib.hid (H30.out.below hb1)
  clear hb1 c3' HIDX HW0 H30
  rcases HCA.out with ⟨h1, h2⟩ | ⟨i, hi, h1, h2⟩
  · subst h1 h2
    have HR := Lib.hid (show R = (itm0, false) from HR0.out)
    (have r0 := (cell_blk HW1.out.res 0).trans rfl); (have r1 := (cell_blk HW1.out.res 1).trans rfl); (have r2 := (cell_blk HW1.out.res 2).trans rfl); (have r3 := (cell_blk HW1.out.res 3).trans rfl); (have r4 := (cell_blk HW1.out.res 4).trans rfl); (have r5 := (cell_blk HW1.out.res 5).trans rfl); (have r6 := (cell_blk HW1.out.res 6).trans rfl); (have f0 := frz_blk HW1.out.res 0); (have f1 := frz_blk HW1.out.res 1); (have f2 := frz_blk HW1.out.res 2); (have f3 := frz_blk HW1.out.res 3); (have f4 := frz_blk HW1.out.res 4); (have f5 := frz_blk HW1.out.res 5); (have f6 := frz_blk HW1.out.res 6)
    go_wp2_with fail
    (have hRF := set7 _ HW1.out.res (.string ⟨#[]⟩) (.int .i64 0) (.int .i64 0) (.slice none 0 0) (.string ⟨#[]⟩) (.int .i64 0) (.int .i64 0)); (have t0 := (cell_blk hRF 0).trans rfl); (have t1 := (cell_blk hRF 1).trans rfl); (have t2 := (cell_blk hRF 2).trans rfl); (have t3 := (cell_blk hRF 3).trans rfl); (have t4 := (cell_blk hRF 4).trans rfl); (have t5 := (cell_blk hRF 5).trans rfl); (have t6 := (cell_blk hRF 6).trans rfl)
    refine bodyPost_ret (v := .tuple #[.agg #[.string ⟨#[]⟩, .int .i64 0, .int .i64 0, .slice none 0 0, .string ⟨#[]⟩, .int .i64 0, .int .i64 0], .bool false]) (by simp [results, Tryz.results16, go_sem, t0, t1, t2, t3, t4, t5, t6]) rfl ?_
    exact ⟨_, by rw [HR.out], by rw [HR.out]; exact ⟨none, 0, 0, rfl, Sl.nil _ _ _ _ (by decide)⟩, belowS (belowS (belowS (belowS (belowS (belowS (belowS HW1.out.bl (by omega) _ _) (by omega) _ _) (by omega) _ _) (by omega) _ _) (by omega) _ _) (by omega) _ _) (by omega) _ _⟩
  · subst h2
    rw [Nat.zero_add] at h1
    subst h1
    have hx := HN.out _ (List.getElem_mem hi)
    obtain ⟨b3, o3, rfl, -, hb3, Ax, nx, cx, g0, g1, g2, g3, g4, g5, g6, hsx⟩ := H31.out.itm hi
    have HR := Lib.hid (show R = (its[i], true) from HR0.out)
    clear HR0 HCA
    generalize its[i] = x at *
    have u3 := (cell_blk HW1.out.un 3).trans rfl
    have hnx := hsx.len
    subst hnx
    have HSX := Lib.hid hsx
    clear hsx
    go_upto_region 4 with fail
    have hb2 : Below w1.heap.size w1 (w1.alloc (.cells #[.string ⟨x.name.toArray⟩, .int .i64 x.kind, .int .i64 x.mode, .slice Ax x.params.length cx, .string ⟨x.body.path.toArray⟩, .int .i64 x.body.fr, .int .i64 x.body.tu] 48)) := boxed
    have hx2 := blkAt w1 (.cells #[.string ⟨x.name.toArray⟩, .int .i64 x.kind, .int .i64 x.mode, .slice Ax x.params.length cx, .string ⟨x.body.path.toArray⟩, .int .i64 x.body.fr, .int .i64 x.body.tu] 48) rfl
    generalize (w1.alloc (.cells #[.string ⟨x.name.toArray⟩, .int .i64 x.kind, .int .i64 x.mode, .slice Ax x.params.length cx, .string ⟨x.body.path.toArray⟩, .int .i64 x.body.fr, .int .i64 x.body.tu] 48)) = w2 at *
    have HW2 := Lib.hid (HW1.out.below hb2); have HX2 := Lib.hid hx2
    have hcl := cloneB_any Ax x.params.length cx w2 _ x.params (HSX.out.below hb2) (by omega)
    have HCL := Lib.hid hcl
    have hl1 := (Array.getElem?_eq_some_iff.1 HW1.out.res).1
    have z3 := (cell_blk hx2 3).trans rfl
    clear hb2 hx2 hcl g0 g1 g2 g3 g4 g5 g6 u3 HW1 H31
    go_wp2_with fail
    refine HCL.out.mono ?_
    rintro e w3 ⟨A9, c9, rfl, hs9, hb9⟩
    have hx3 := keptBlk hb9 HX2.out
    have z3 := (cell_blk hx3 3).trans rfl
    have y3 := frz_blk hx3 3
    have HW3 := Lib.hid (HW2.out.below hb9); have HX3 := Lib.hid hx3
    have hlt3 := (Array.getElem?_eq_some_iff.1 hx3).1
    have hw2 := hb9.size
    have hw12 : w1.heap.size < w2.heap.size := (Array.getElem?_eq_some_iff.1 HX2.out).1
    have HS9 := Lib.hid hs9
    clear hb9 hs9 hx3 HCL HW2 HX2
    go_upto_region 5 with fail
    have hx4 := Blk.set w3 HX3.out 3 (.slice A9 x.params.length c9)
    have hW4 : FiW w (w3.setCell ⟨w1.heap.size, 3, none⟩ (.slice A9 x.params.length c9)) _ := ⟨belowS HW3.out.bl (by omega) _ _, (set_other _ _ _ _ _ (by omega)).trans HW3.out.un, (set_other _ _ _ _ _ (by omega)).trans HW3.out.res⟩
    have hs4 := HS9.out.keep (w' := w3.setCell ⟨w1.heap.size, 3, none⟩ (.slice A9 x.params.length c9)) (fun k _ hk => set_other _ _ _ _ _ (by omega))
    generalize (w3.setCell ⟨w1.heap.size, 3, none⟩ (.slice A9 x.params.length c9)) = w4 at *
    have HW4 := Lib.hid hW4; have HS4 := Lib.hid hs4
    have x0 := (cell_blk hx4 0).trans rfl
    have x1 := (cell_blk hx4 1).trans rfl
    have x2 := (cell_blk hx4 2).trans rfl
    have x3 := (cell_blk hx4 3).trans rfl
    have x4 := (cell_blk hx4 4).trans rfl
    have x5 := (cell_blk hx4 5).trans rfl
    have x6 := (cell_blk hx4 6).trans rfl
    clear hx4 hW4 hs4 z3 y3 HX3 HW3 HS9
    (have r0 := (cell_blk HW4.out.res 0).trans rfl); (have r1 := (cell_blk HW4.out.res 1).trans rfl); (have r2 := (cell_blk HW4.out.res 2).trans rfl); (have r3 := (cell_blk HW4.out.res 3).trans rfl); (have r4 := (cell_blk HW4.out.res 4).trans rfl); (have r5 := (cell_blk HW4.out.res 5).trans rfl); (have r6 := (cell_blk HW4.out.res 6).trans rfl); (have f0 := frz_blk HW4.out.res 0); (have f1 := frz_blk HW4.out.res 1); (have f2 := frz_blk HW4.out.res 2); (have f3 := frz_blk HW4.out.res 3); (have f4 := frz_blk HW4.out.res 4); (have f5 := frz_blk HW4.out.res 5); (have f6 := frz_blk HW4.out.res 6)
    go_wp2_with fail
    (have hRF := set7 _ HW4.out.res (.string ⟨x.name.toArray⟩) (.int .i64 x.kind) (.int .i64 x.mode) (.slice A9 x.params.length c9) (.string ⟨x.body.path.toArray⟩) (.int .i64 x.body.fr) (.int .i64 x.body.tu)); (have t0 := (cell_blk hRF 0).trans rfl); (have t1 := (cell_blk hRF 1).trans rfl); (have t2 := (cell_blk hRF 2).trans rfl); (have t3 := (cell_blk hRF 3).trans rfl); (have t4 := (cell_blk hRF 4).trans rfl); (have t5 := (cell_blk hRF 5).trans rfl); (have t6 := (cell_blk hRF 6).trans rfl)
    refine bodyPost_ret (v := .tuple #[.agg #[.string ⟨x.name.toArray⟩, .int .i64 x.kind, .int .i64 x.mode, .slice A9 x.params.length c9, .string ⟨x.body.path.toArray⟩, .int .i64 x.body.fr, .int .i64 x.body.tu], .bool true]) (by simp [results, Tryz.results16, go_sem, t0, t1, t2, t3, t4, t5, t6]) rfl ?_
    exact ⟨_, by rw [HR.out], by rw [HR.out]; exact ⟨A9, _, c9, rfl, (HS4.out.keep (fun k _ hk => set7_other _ _ _ _ _ _ _ _ k (by omega))).any⟩, belowS (belowS (belowS (belowS (belowS (belowS (belowS HW4.out.bl (by omega) _ _) (by omega) _ _) (by omega) _ _) (by omega) _ _) (by omega) _ _) (by omega) _ _) (by omega) _ _⟩
end Go.Proofs.YtpeamehplhpcjaaGreatDoor
namespace Go.Proofs.YtpeamehplhpcjaaGreatDoor
open Go.RowKit
theorem path_len {s : Bs} (h : pathS s = true) : s.length ≤ 128 := by
  unfold pathS at h
  simp only [Bool.and_eq_true, decide_eq_true_eq] at h
  exact h.1.1
theorem tree_ok {t : List Fil} (h : treeS t = 0) : TOk t := by
  unfold treeS at h
  split at h; cases h
  have key : ∀ (t b : List Fil), checkT b t = 0 → TOk t := by
    intro t
    induction t with
    | nil => intro b _ f hf; cases hf
    | cons x r ih =>
      intro b h
      rw [checkT_cons] at h
      split at h; cases h
      rename_i h1
      split at h; cases h
      rename_i h2
      split at h; cases h
      split at h; cases h
      intro f hf
      rcases List.mem_cons.1 hf with rfl | hf
      · exact ⟨path_len (by simpa using h1), by omega⟩
      · exact ih _ h f hf
  exact key t [] h
theorem start_ok {t : List Fil} {p : Bs} {fl : List Bs} (h : (startS t p fl).2.2 = 0) : treeS t = 0 ∧ p.length ≤ 128 ∧ fl.length ≤ 128 ∧ LOk (startS t p fl).1 ∧ 0 < (startS t p fl).1.length := by
  unfold startS at h ⊢
  split at h; cases h
  rename_i h1
  split at h; cases h
  rename_i h2
  split at h; cases h
  rename_i h3
  split at h; cases h
  rename_i h4
  rw [if_neg h1, if_neg h2, if_neg h3, if_neg h4]
  have ht : treeS t = 0 := by omega
  have hp : pathS p = true := by
    simp only [Bool.or_eq_true, not_or] at h2
    simpa using h2.1.1
  cases hf : findT t p with
  | none => rw [hf] at h; cases h
  | some d =>
    rw [hf] at h
    simp only at h ⊢
    exact ⟨ht, path_len hp, by omega, lines_ok h (find_ok (tree_ok ht) hf).2, by rw [lines_pos h]; omega⟩
theorem ScB.flag {W W' : World} {M : Nat → Prop} {B g : Nat} {tA : Option Addr} {tn tc mf mm mh ml : Nat} {iA : Option Addr} {ic : Nat} {oA : Option Addr} {oc : Nat} {mv : List (Bs × Value)} {t : List Fil} {s : Sst}
    (H : ScB W M B g tA tn tc mf mm mh ml iA ic oA oc mv t s) {k : Bs} (hm : MapV TS W' mf (setM (vFlags s.flags) k (.bool true))) (hg : W.grownBy W' (some mf)) :
    ScB W' M B g tA tn tc mf mm mh ml iA ic oA oc mv t { s with flags := setM s.flags k true } ∧ ScOut W M W' M := by
  have hM := H.own mf (.inr (.inl rfl))
  rw [vFlags_eq, vB_set] at hm
  exact H.one (s' := { s with flags := setM s.flags k true }) (.inl rfl) hg rfl rfl rfl rfl hm (ScB.kp hg H.mval (Ne.symm H.dif.2.2.2.2.1)) (H.kpM hM hg H.macs) (ScB.kp hg H.heads (Ne.symm H.dif.2.2.2.2.2.1)) (ScB.kp hg H.files (Ne.symm H.dif.2.2.2.2.2.2.1))
theorem map_made {κ : Type} (T : KeyT κ) {w : World} {b : Nat} (h : w.heap[b]? = some (.map #[] 0)) : MapV T w b [] := ⟨#[], 0, h, Go.MapKept.stamped_empty 0, rfl, fun p hp => by cases hp⟩
theorem st0_step (fl : List Bs) (k : Nat) (hk : k < fl.length) : st0 (fl.take (k + 1)) = { st0 (fl.take k) with flags := setM (st0 (fl.take k)).flags fl[k] true } := by
  rw [List.take_succ_eq_append_getElem hk]
  unfold st0
  simp only [List.foldl_append, List.foldl_cons, List.foldl_nil]
theorem made_scan {V W : World} {t : List Fil} {tA : Option Addr} {tn tc : Nat} (hV : Below V.heap.size V W) (hz : V.heap.size + 4 < W.heap.size) (ht : Sl W (fun k => k < V.heap.size) tA tn tc t)
    (h0 : W.heap[V.heap.size]? = some (.map #[] 0)) (h1 : W.heap[V.heap.size + 1]? = some (.map #[] 0)) (h2 : W.heap[V.heap.size + 2]? = some (.map #[] 0)) (h3 : W.heap[V.heap.size + 3]? = some (.map #[] 0))
    (hg : W.heap[V.heap.size + 4]? = some (.cells #[.slice tA tn tc, .map (some V.heap.size), .map (some (V.heap.size + 1)), .slice none 0 0, .map (some (V.heap.size + 2)), .map (some (V.heap.size + 3)), .slice none 0 0, .int .i64 0, .int .i64 0, .int .i64 0, .int .i64 0, .string ⟨#[]⟩, .int .i64 0] 96 (0, 0))) :
    ScB W (fun k => V.heap.size ≤ k ∧ k ≤ V.heap.size + 4) V.heap.size (V.heap.size + 4) tA tn tc V.heap.size (V.heap.size + 1) (V.heap.size + 2) (V.heap.size + 3) none 0 none 0 [] t (st0 []) where
  cells := hg
  tree := ht
  flags := map_made TS h0
  mval := map_made TS h1
  macs := trivial
  items := Own.nil _ _ _ _
  heads := map_made TLn h2
  files := map_made TS h3
  opn := Own.nil _ _ _ _
  own := by rintro k (h | h | h | h | h | h | h) <;> first | omega | cases h
  old := fun k h => h.1
  lt := fun k h => by omega
  dif := by refine ⟨?_, ?_, ?_, ?_, ?_, ?_, ?_, ?_, ?_, ?_⟩ <;> omega
  difi := fun k h => by cases h
  difo := fun k h => by cases h
end Go.Proofs.YtpeamehplhpcjaaGreatDoor
namespace Go.Proofs.YtpeamehplhpcjaaGreatDoor
structure CI (N : Nat) (s : Sst) : Prop where
  h : s.heads.length ≤ s.count
  f : s.files.length ≤ s.count + 1
  l : s.flags.length ≤ N
def CG (N : Nat) (g : Grp) : Prop := ∀ p l fr tu s, CI N s → CI N (g p l fr tu s).2
def CN (N : Nat) (n : Option Grp) : Prop := ∀ g, n = some g → CG N g
theorem ci_fail {N : Nat} {s : Sst} (h : CI N s) (p : Bs) (n e : Int) : CI N (failS s p n e).2 := ⟨h.h, h.f, h.l⟩
theorem ci_file {N : Nat} {g : Grp} (hg : CG N g) (p : Bs) (l : List Bs) {s : Sst} (h : CI N s) (hf : s.files.length ≤ s.count) : CI N (fileS g p l s).2 := by
  have h1 := len_setM s.files p true
  have h2 : CI N { s with files := setM s.files p true, opn := s.opn ++ [p] } := ⟨h.h, by show (setM s.files p true).length ≤ s.count + 1; omega, h.l⟩
  have h3 := hg p l 0 l.length _ h2
  exact ⟨h3.h, h3.f, h3.l⟩
theorem ci_incl {N : Nat} (t : List Fil) {nest : Option Grp} (hn : CN N nest) (p : Bs) (n : Int) (ref : Bs) {s : Sst} (h : CI N s) (hf : s.files.length ≤ s.count) : CI N (inclS t nest p n ref s).2 := by
  unfold inclS
  simp only
  split
  · exact ci_fail h _ _ _
  · split
    · exact ci_fail h _ _ _
    · split
      · exact ci_fail h _ _ _
      · split
        · exact ci_fail h _ _ _
        · split
          · exact ci_fail h _ _ _
          · rename_i g
            exact ci_file (hn g rfl) _ _ h hf
theorem ci_item {N : Nat} (p : Bs) (n : Int) (x : Itm) {s : Sst} (h : CI N s) : CI N (itemS p n x s).2 := by
  unfold itemS
  split
  · exact ci_fail h _ _ _
  · split
    · exact ci_fail h _ _ _
    · exact ⟨h.h, h.f, h.l⟩
theorem ci_head {N : Nat} (t : List Fil) {nest : Option Grp} (hn : CN N nest) (p : Bs) (l : List Bs) (i : Nat) (x : Hd) {s : Sst} (h : CI N s) (hf : s.files.length ≤ s.count) : CI N (doHead t nest p l i x s).2 := by
  unfold doHead
  simp only
  split
  · exact ci_incl t hn _ _ _ h hf
  · split
    · split
      · exact ci_fail h _ _ _
      · split
        · exact ci_fail h _ _ _
        · exact ⟨h.h, h.f, h.l⟩
    · split
      · split
        · have := len_delM s.flags x.name
          have hl := h.l
          exact ⟨h.h, h.f, by show (delM s.flags x.name).length ≤ N; omega⟩
        · exact ci_fail h _ _ _
      · split
        · split
          · exact h
          · split
            · exact ci_fail h _ _ _
            · rename_i g
              exact hn g rfl _ _ _ _ _ h
        · split
          · exact ci_item _ _ _ h
          · split
            · exact ci_item _ _ _ h
            · split
              · exact ci_item _ _ _ h
              · exact h
theorem ci_loop {N : Nat} (t : List Fil) {nest : Option Grp} (hn : CN N nest) (p : Bs) (l : List Bs) (tu : Nat) : ∀ f i (s : Sst), CI N s → CI N (loopS t nest p l tu f i s).2 := by
  intro f
  induction f with
  | zero => intro i s h; exact h
  | succ f ih =>
    intro i s h
    unfold loopS
    split
    · exact h
    · split
      · exact ci_fail h _ _ _
      · have h1 := len_setM s.heads (⟨p, i⟩ : Ln) true
        have hh := h.h
        have hf := h.f
        have h2 : CI N { s with count := s.count + 1, heads := setM s.heads ⟨p, i⟩ true } := ⟨by show (setM s.heads (⟨p, i⟩ : Ln) true).length ≤ s.count + 1; omega, by show s.files.length ≤ s.count + 1 + 1; omega, h.l⟩
        simp only
        split
        · exact ci_fail h2 _ _ _
        · split
          · exact ci_fail h2 _ _ _
          · have h3 := ci_head t hn p l i (parseH (l.getD i [])).1 h2 (by show s.files.length ≤ s.count + 1; omega)
            split
            · exact h3
            · exact ih _ _ h3
theorem ci_group {N : Nat} (t : List Fil) : ∀ d, CG N (groupS t d) := by
  intro d
  induction d with
  | zero => intro p l fr tu s h; exact ci_loop t (fun g hg => by cases hg) p l tu _ _ s h
  | succ d ih => intro p l fr tu s h; exact ci_loop t (fun g hg => by injection hg with hg; subst hg; exact ih) p l tu _ _ s h
def RI (s : Sst) : Prop := ∀ x ∈ s.heads.map (·.1), 0 ≤ x.n ∧ x.n ≤ 100000
def RG (g : Grp) : Prop := ∀ p l fr tu s, tu ≤ 1024 → RI s → RI (g p l fr tu s).2
def RN (n : Option Grp) : Prop := ∀ g, n = some g → RG g
theorem ri_item (p : Bs) (n : Int) (x : Itm) {s : Sst} (h : RI s) : RI (itemS p n x s).2 := by
  unfold itemS
  split
  · exact h
  · split
    · exact h
    · exact h
theorem lines_le (d : Bs) : (linesS d).1.length ≤ 1024 := by
  unfold linesS
  split
  · simp
  · split
    · simp
    · show (splitS 10 d).length ≤ 1024
      rw [split_len]; omega
theorem ri_head (t : List Fil) {nest : Option Grp} (hn : RN nest) (p : Bs) (l : List Bs) (i : Nat) (x : Hd) (hx : i + 1 + x.n.toNat ≤ 1024) {s : Sst} (h : RI s) : RI (doHead t nest p l i x s).2 := by
  unfold doHead
  simp only
  split
  · unfold inclS
    simp only
    split
    · exact h
    · split
      · exact h
      · split
        · exact h
        · rename_i d hd
          split
          · exact h
          · split
            · exact h
            · rename_i g
              exact hn g rfl _ _ _ _ { s with files := setM s.files _ true, opn := s.opn ++ [_] } (lines_le d) h
  · split
    · split
      · exact h
      · split
        · exact h
        · exact h
    · split
      · split
        · exact h
        · exact h
      · split
        · split
          · exact h
          · split
            · exact h
            · rename_i g
              exact hn g rfl _ _ _ _ _ hx h
        · split
          · exact ri_item _ _ _ h
          · split
            · exact ri_item _ _ _ h
            · split
              · exact ri_item _ _ _ h
              · exact h
theorem ri_loop (t : List Fil) {nest : Option Grp} (hn : RN nest) (p : Bs) (l : List Bs) (tu : Nat) (hto : tu ≤ 1024) : ∀ f i (s : Sst), RI s → RI (loopS t nest p l tu f i s).2 := by
  intro f
  induction f with
  | zero => intro i s h; exact h
  | succ f ih =>
    intro i s h
    unfold loopS
    split
    · exact h
    · split
      · exact h
      · have h2 : RI { s with count := s.count + 1, heads := setM s.heads ⟨p, i⟩ true } := by
          intro x hx
          rcases (keys_setM _ _ _ _).1 hx with rfl | hx
          · exact ⟨by show (0 : Int) ≤ (i : Int); omega, by show (i : Int) ≤ 100000; omega⟩
          · exact h x hx
        simp only
        split
        · exact h2
        · rename_i he
          split
          · exact h2
          · have hp := (parse_n (l := l.getD i []) (by omega)).1
            have h3 := ri_head t hn p l i (parseH (l.getD i [])).1 (by omega) h2
            split
            · exact h3
            · exact ih _ _ h3
theorem ri_group (t : List Fil) : ∀ d, RG (groupS t d) := by
  intro d
  induction d with
  | zero => intro p l fr tu s hto h; exact ri_loop t (fun g hg => by cases hg) p l tu hto _ _ s h
  | succ d ih => intro p l fr tu s hto h; exact ri_loop t (fun g hg => by injection hg with hg; subst hg; exact ih) p l tu hto _ _ s h
theorem scan_fin (t : List Fil) (p : Bs) (ls : List Bs) (fl : List Bs) (hl : 0 < ls.length) (hl2 : ls.length ≤ 1024) {s2 : Sst} (h : fileS (groupS t 24) p ls (st0 fl) = (true, s2)) :
    (s2.macros.map (·.2)).Nodup ∧ (∀ x ∈ s2.macros.map (·.2), ∀ y ∈ s2.macros.map (·.2), x.name = y.name → x = y) ∧ s2.heads ≠ [] ∧ s2.heads.length ≤ 2048 ∧ s2.files.length ≤ 2049 ∧ s2.flags.length ≤ fl.length ∧ s2.macros.length ≤ 128 ∧ (∀ x ∈ s2.heads.map (·.1), 0 ≤ x.n ∧ x.n ≤ 100000) ∧ s2.items.length ≤ 128 := by
  have hag : ∃ r, Agr s2 r := by
    rcases file_agr (group_agr t 24) p ls (st0_agr fl) with ⟨_, _, h3⟩ | ⟨h1, _, _⟩
    · rw [h] at h3; exact ⟨_, h3⟩
    · rw [h] at h1; cases h1
  obtain ⟨r, hag⟩ := hag
  have hfl : (st0 fl).flags.length ≤ fl.length := by
    have : ∀ (fl : List Bs) (m : List (Bs × Bool)), (fl.foldl (fun m f => setM m f true) m).length ≤ m.length + fl.length := by
      intro fl
      induction fl with
      | nil => intro m; simp
      | cons f r ih =>
        intro m
        have h1 := ih (setM m f true)
        have h2 := len_setM m f true
        simp only [List.foldl_cons, List.length_cons]
        omega
    simpa [st0] using this fl []
  have hci := ci_file (ci_group t 24) p ls (s := st0 fl) (N := fl.length) ⟨Nat.zero_le _, Nat.zero_le _, hfl⟩ (Nat.zero_le _)
  have hst := (keep_file (keep_group t 24) p ls (s := st0 fl) ⟨Nat.zero_le _, Nat.zero_le _, Nat.zero_le _⟩).1
  rw [h] at hci hst
  obtain ⟨c1, c2, c3⟩ := hci
  simp only at c1 c2 c3
  have hco := hst.co
  simp only at hco
  refine ⟨vals_nodup hag.mky hag.mn, fun x hx y hy e => ?_, ?_, by omega, by omega, c3, hst.ma, fun x hx => ?_, hst.it⟩
  · obtain ⟨a, ha, rfl⟩ := List.mem_map.1 hx
    obtain ⟨b, hb, rfl⟩ := List.mem_map.1 hy
    rw [key_inj hag.mn ha hb (by rw [hag.mky a ha, hag.mky b hb, e])]
  · have h0 := (group_fil t 24) p ls 0 ls.length { st0 fl with files := setM (st0 fl).files p true, opn := (st0 fl).opn ++ [p] }
    unfold fileS at h
    cases hr : groupS t 24 p ls 0 ls.length { st0 fl with files := setM (st0 fl).files p true, opn := (st0 fl).opn ++ [p] } with
    | mk b s3 =>
      rw [hr] at h
      injection h with e1 e2
      simp only at e1
      subst e1
      have := (h0 s3 hr).2.1 hl
      rw [← e2]
      intro e
      unfold keysH at this
      simp only at e
      rw [e] at this
      cases this
  · have h0 := (ri_group t 24) p ls 0 ls.length { st0 fl with files := setM (st0 fl).files p true, opn := (st0 fl).opn ++ [p] } hl2 (fun x hx => by cases hx)
    have e : s2 = { (groupS t 24 p ls 0 ls.length { st0 fl with files := setM (st0 fl).files p true, opn := (st0 fl).opn ++ [p] }).2 with opn := s2.opn } := by
      unfold fileS at h
      rw [← (Prod.mk.inj h).2]
    rw [e] at hx
    exact h0 x hx
end Go.Proofs.YtpeamehplhpcjaaGreatDoor
namespace Go.Proofs.YtpeamehplhpcjaaGreatDoor
def NE (l : List Bs) : Prop := ∀ q ∈ l, q ≠ []
structure PN (s : Sst) : Prop where
  it : ∀ x ∈ s.items, NE x.params
  ma : ∀ x ∈ s.macros, NE x.2.params
def PG (g : Grp) : Prop := ∀ p l fr tu s, PN s → PN (g p l fr tu s).2
def PNn (n : Option Grp) : Prop := ∀ g, n = some g → PG g
theorem parse_ne {l : Bs} (h0 : (parseH l).2 = 0) : NE (parseH l).1.params := by
  have h := h0
  unfold parseH at h ⊢
  split
  · exact fun q hq => by cases hq
  · rename_i he
    rw [if_neg he] at h
    simp only at h ⊢
    split
    · exact fun q hq => by cases hq
    · rename_i h2
      rw [if_neg h2] at h
      split
      · exact fun q hq => by cases hq
      · rename_i h3
        have h4 : headE (shapeS (splitS 32 l)).1 = 0 := by omega
        unfold headE at h4
        split at h4; cases h4
        split at h4; cases h4
        split at h4; cases h4
        rename_i h5
        intro q hq e
        apply h5
        rw [List.any_eq_true]
        exact ⟨q, hq, by rw [e]; rfl⟩
theorem pn_file {g : Grp} (hg : PG g) (p : Bs) (l : List Bs) {s : Sst} (h : PN s) : PN (fileS g p l s).2 := by
  have h2 : PN { s with files := setM s.files p true, opn := s.opn ++ [p] } := ⟨h.it, h.ma⟩
  have h3 := hg p l 0 l.length _ h2
  exact ⟨h3.it, h3.ma⟩
theorem pn_item (p : Bs) (n : Int) (x : Itm) (hx : NE x.params) {s : Sst} (h : PN s) : PN (itemS p n x s).2 := by
  unfold itemS
  split
  · exact ⟨h.it, h.ma⟩
  · split
    · exact ⟨h.it, h.ma⟩
    · refine ⟨fun y hy => ?_, h.ma⟩
      rcases List.mem_append.1 hy with hy | hy
      · exact h.it y hy
      · rw [List.mem_singleton.1 hy]; exact hx
theorem pn_head (t : List Fil) {nest : Option Grp} (hn : PNn nest) (p : Bs) (l : List Bs) (i : Nat) (x : Hd) (hx : NE x.params) {s : Sst} (h : PN s) : PN (doHead t nest p l i x s).2 := by
  unfold doHead
  simp only
  split
  · unfold inclS
    simp only
    split
    · exact ⟨h.it, h.ma⟩
    · split
      · exact ⟨h.it, h.ma⟩
      · split
        · exact ⟨h.it, h.ma⟩
        · split
          · exact ⟨h.it, h.ma⟩
          · split
            · exact ⟨h.it, h.ma⟩
            · rename_i g
              exact pn_file (hn g rfl) _ _ h
  · split
    · split
      · exact ⟨h.it, h.ma⟩
      · split
        · exact ⟨h.it, h.ma⟩
        · refine ⟨h.it, fun y hy => ?_⟩
          rcases mem_setM _ _ _ _ hy with rfl | hy
          · exact hx
          · exact h.ma y hy
    · split
      · split
        · exact ⟨h.it, fun y hy => h.ma y (List.mem_filter.1 hy).1⟩
        · exact ⟨h.it, h.ma⟩
      · split
        · split
          · exact h
          · split
            · exact ⟨h.it, h.ma⟩
            · rename_i g
              exact hn g rfl _ _ _ _ _ h
        · split
          · exact pn_item _ _ _ hx h
          · split
            · exact pn_item _ _ _ hx h
            · split
              · exact pn_item _ _ _ hx h
              · exact h
theorem pn_loop (t : List Fil) {nest : Option Grp} (hn : PNn nest) (p : Bs) (l : List Bs) (tu : Nat) : ∀ f i (s : Sst), PN s → PN (loopS t nest p l tu f i s).2 := by
  intro f
  induction f with
  | zero => intro i s h; exact h
  | succ f ih =>
    intro i s h
    unfold loopS
    split
    · exact h
    · split
      · exact ⟨h.it, h.ma⟩
      · have h2 : PN { s with count := s.count + 1, heads := setM s.heads ⟨p, i⟩ true } := ⟨h.it, h.ma⟩
        simp only
        split
        · exact ⟨h.it, h.ma⟩
        · rename_i he
          split
          · exact ⟨h.it, h.ma⟩
          · have h3 := pn_head t hn p l i (parseH (l.getD i [])).1 (parse_ne (by omega)) h2
            split
            · exact h3
            · exact ih _ _ h3
theorem pn_group (t : List Fil) : ∀ d, PG (groupS t d) := by
  intro d
  induction d with
  | zero => intro p l fr tu s h; exact pn_loop t (fun g hg => by cases hg) p l tu _ _ s h
  | succ d ih => intro p l fr tu s h; exact pn_loop t (fun g hg => by injection hg with hg; subst hg; exact ih) p l tu _ _ s h
theorem scan_ne (t : List Fil) (p : Bs) (ls : List Bs) (fl : List Bs) {ok : Bool} {s2 : Sst} (h : fileS (groupS t 24) p ls (st0 fl) = (ok, s2)) : (∀ x ∈ s2.items, NE x.params) ∧ ∀ x ∈ s2.macros.map (·.2), NE x.params := by
  have h1 := pn_file (pn_group t 24) p ls (s := st0 fl) (by
    constructor
    · intro x hx; cases hx
    · intro x hx; cases hx)
  rw [h] at h1
  refine ⟨h1.it, fun x hx => ?_⟩
  obtain ⟨y, hy, rfl⟩ := List.mem_map.1 hx
  exact h1.ma y hy
end Go.Proofs.YtpeamehplhpcjaaGreatDoor
namespace Go.Proofs.YtpeamehplhpcjaaGreatDoor
open Go.RowKit
section
variable {W : World} {w0 : Nat} {S : Nat → Prop} {A : Option Addr} {n c : Nat}
def Zer (W : World) (w0 : Nat) : Prop := W.heap[w0]? = some (.cells #[.string ⟨#[]⟩, .slice none 0 0, .slice none 0 0, .slice none 0 0, .slice none 0 0, .slice none 0 0] 36 (0, 0)) ∧ W.heap[w0 + 1]? = some (.cells #[.int .i64 0, .int .i64 0, .int .i64 0, .string ⟨#[]⟩, .int .i64 0] 40 (0, 0))
theorem zer_cell (h : Zer W w0) {b o : Nat} {x : Bs} (hc : W.cell? ⟨b, o, none⟩ = some (.string ⟨x.toArray⟩)) (hx : x ≠ []) : b ≠ w0 ∧ b ≠ w0 + 1 := by
  refine ⟨fun e => ?_, fun e => ?_⟩
  · subst e
    rw [cell_blk h.1] at hc
    match o with
    | 0 => simp at hc; exact hx hc
    | 1 => simp at hc
    | 2 => simp at hc
    | 3 => simp at hc
    | 4 => simp at hc
    | 5 => simp at hc
    | k + 6 => simp at hc
  · subst e
    rw [cell_blk h.2] at hc
    match o with
    | 0 => simp at hc
    | 1 => simp at hc
    | 2 => simp at hc
    | 3 => simp at hc; exact hx hc
    | 4 => simp at hc
    | k + 5 => simp at hc
theorem clean_str (hz : Zer W w0) {xs : List Bs} (h : Sl W S A n c xs) (hne : NE xs) : Sl W (fun k => k ≠ w0 ∧ k ≠ w0 + 1) A n c xs := by
  refine ⟨h.1, h.2.1, h.2.2.1, fun i hi => ?_⟩
  obtain ⟨ad, hA, hS, g, hc, hr⟩ := h.2.2.2 i hi
  obtain ⟨b, o, hA', -, -, hcell⟩ := h.str hi
  rw [hA] at hA'
  injection hA' with hA'
  subst hA'
  exact ⟨_, hA, zer_cell hz hcell (hne _ (List.getElem_mem hi)), g, hc, hr⟩
theorem clean_itm (hz : Zer W w0) {xs : List Itm} (h : Sl W S A n c xs) (hA0 : ∀ k, A.map Addr.block = some k → k ≠ w0 ∧ k ≠ w0 + 1) (hne : ∀ x ∈ xs, NE x.params) : Sl W (fun k => k ≠ w0 ∧ k ≠ w0 + 1) A n c xs := by
  refine ⟨h.1, h.2.1, h.2.2.1, fun i hi => ?_⟩
  obtain ⟨ad, hA, hS, g, hc, h0, h1, h2, h4, h5, h6, A1, n1, c1, e, hs⟩ := h.2.2.2 i hi
  exact ⟨ad, hA, hA0 _ (by rw [hA]; rfl), g, hc, h0, h1, h2, h4, h5, h6, A1, n1, c1, e, clean_str hz hs (hne _ (List.getElem_mem hi))⟩
theorem clean_mac (hz : Zer W w0) {xs : List Mac} (h : Sl W S A n c xs) (hA0 : ∀ k, A.map Addr.block = some k → k ≠ w0 ∧ k ≠ w0 + 1) (hne : ∀ x ∈ xs, NE x.params) : Sl W (fun k => k ≠ w0 ∧ k ≠ w0 + 1) A n c xs := by
  refine ⟨h.1, h.2.1, h.2.2.1, fun i hi => ?_⟩
  obtain ⟨ad, hA, hS, g, hc, h0, h2, h3, h4, A1, n1, c1, e, hs⟩ := h.2.2.2 i hi
  exact ⟨ad, hA, hA0 _ (by rw [hA]; rfl), g, hc, h0, h2, h3, h4, A1, n1, c1, e, clean_str hz hs (hne _ (List.getElem_mem hi))⟩
end
end Go.Proofs.YtpeamehplhpcjaaGreatDoor
