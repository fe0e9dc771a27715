/- A part of the proofs of the laws of one package; see the law's own text, which comes last in 'order'. No conditions of its own. -/
import Derived.DeepKeys4
import Derived.Test.YtpeamehplhpcjaaGreatDoorZ03
import Derived.Test.YtpeamehplhpcjaaGreatDoorZ11
set_option linter.unusedVariables false
set_option linter.unusedSimpArgs false
namespace Go.Proofs.YtpeamehplhpcjaaGreatDoor
open Go.RowKit
set_option maxHeartbeats 400000 in
theorem unnam_any (s : Bs) (w : World) (hs : s.length ≤ 4294967000) :
    Calls Tryz.prog 83 #[.string ⟨s.toArray⟩] w fun e w' => e = .returned (.bool (!nameT s)) ∧ Below w.heap.size w w' := by
  have HN := Lib.hid (name_any s w (by omega))
  go_enter Tryz.func83, Tryz.ntmps83
  go_wp2_with (first | (go_at_call 84; refine HN.out.mono ?_; rintro e w1 ⟨rfl, hb⟩))
  go_ret
  exact ⟨rfl, hb⟩
structure StW (w W : World) (p : Bs) : Prop where
  bl : Below w.heap.size w W
  res : W.heap[w.heap.size]? = some (.cells #[.string ⟨#[]⟩, .int .i64 0] 38 (0, 0))
  non : W.heap[w.heap.size + 1]? = some (.cells #[.string ⟨#[]⟩, .int .i64 (-1)] 38 (0, 0))
  at_ : W.heap[w.heap.size + 2]? = some (.cells #[.string ⟨p.toArray⟩, .int .i64 (-1)] 38 (0, 0))
theorem StW.below {w W W' : World} {p : Bs} (H : StW w W p) (hb : Below W.heap.size W W') : StW w W' p := ⟨H.bl.trans (hb.mono H.bl.size), keptBlk hb H.res, keptBlk hb H.non, keptBlk hb H.at_⟩
theorem StW.drew {w W : World} {p : Bs} (H : StW w W p) : StW w W.drew p := H.below (Below.refl _ _).drew
theorem StW.fin {w W : World} {p : Bs} (H : StW w W p) (a0 a1 : Value) : Below w.heap.size w ((W.setCell ⟨w.heap.size, 0, none⟩ a0).setCell ⟨w.heap.size, 1, none⟩ a1) :=
  (H.bl.setCell (p := ⟨w.heap.size, 0, none⟩) (Nat.le_refl _) a0).setCell (p := ⟨w.heap.size, 1, none⟩) (Nat.le_refl _) a1
theorem StW.set_non {w W : World} {p : Bs} (H : StW w W p) (a0 a1 : Value) : ((W.setCell ⟨w.heap.size, 0, none⟩ a0).setCell ⟨w.heap.size, 1, none⟩ a1).heap[w.heap.size + 1]? = some (.cells #[.string ⟨#[]⟩, .int .i64 (-1)] 38 (0, 0)) :=
  (set_other _ _ _ _ _ (by omega)).trans ((set_other _ _ _ _ _ (by omega)).trans H.non)
theorem StW.set_at {w W : World} {p : Bs} (H : StW w W p) (a0 a1 : Value) : ((W.setCell ⟨w.heap.size, 0, none⟩ a0).setCell ⟨w.heap.size, 1, none⟩ a1).heap[w.heap.size + 2]? = some (.cells #[.string ⟨p.toArray⟩, .int .i64 (-1)] 38 (0, 0)) :=
  (set_other _ _ _ _ _ (by omega)).trans ((set_other _ _ _ _ _ (by omega)).trans H.at_)
theorem StW.set_res {w W : World} {p : Bs} (H : StW w W p) (a0 a1 : Value) : ((W.setCell ⟨w.heap.size, 0, none⟩ a0).setCell ⟨w.heap.size, 1, none⟩ a1).heap[w.heap.size]? = some (.cells #[a0, a1] 38 (0, 0)) :=
  Blk.set _ (Blk.set _ H.res 0 a0) 1 a1
def StPost (w : World) (R : List Bs × Ln × Int) (e : Ending) (w' : World) : Prop := ∃ A n c, e = .returned (.tuple #[.slice A n c, .agg #[.string ⟨R.2.1.path.toArray⟩, .int .i64 R.2.1.n], .int .i64 R.2.2]) ∧ Sl w' (fun b => w.heap.size ≤ b) A n c R.1 ∧ Below w.heap.size w w'
set_option maxHeartbeats 4000000 in
theorem start_any (A : Option Addr) (n c : Nat) (A2 : Option Addr) (n2 c2 : Nat) (w : World) (S S2 : Nat → Prop) (t : List Fil) (p : Bs) (fl : List Bs) (hl : Sl w S A n c t) (hl2 : Sl w S2 A2 n2 c2 fl) (hL : LS w)
    (hs : ∀ f ∈ t, f.path.length ≤ 4294967000) (hsd : treeS t = 0 → ∀ f ∈ t, f.data.length ≤ 4294967000) (hs1 : p.length ≤ 4294967000) (hs2 : ∀ s ∈ fl, s.length ≤ 4294967000) :
    Calls Tryz.prog 46 #[.slice A n c, .string ⟨p.toArray⟩, .slice A2 n2 c2] w (StPost w (startS t p fl)) := by
  have hn2 := hl2.len
  have hnc2 := hl2.2.1
  have hlen2 := hl2.le
  subst hn2
  obtain ⟨R, hR⟩ : ∃ R, R = startS t p fl := ⟨_, rfl⟩
  rw [← hR]
  have hck := fun W h => checkT_any A n c W S t h
  have HL := Lib.hid hL; have HT := Lib.hid hl; have HF := Lib.hid hl2; have HS := Lib.hid hs; have HS2 := Lib.hid hs2; have HR := Lib.hid hR
  have HSD := Lib.hid hsd
  clear hR hck hl hl2 hL hs hs2 hsd
  go_enter Tryz.func46, Tryz.ntmps46
  go_upto_region 2 with fail
  have hW : StW w (((w.alloc (.cells #[.string ⟨#[]⟩, .int .i64 0] 38)).alloc (.cells #[.string ⟨#[]⟩, .int .i64 (-1)] 38)).alloc (.cells #[.string ⟨p.toArray⟩, .int .i64 (-1)] 38)) p :=
    ⟨by ((repeat (first | (with_reducible exact Below.refl _ _) | (with_reducible refine belowA ?_ _) | (with_reducible refine belowD ?_) | (with_reducible refine belowS ?_ (Nat.le_refl _) _ _) | (with_reducible refine next ?_ (by assumption) (Nat.le_refl _)))); done), blkOld (blkOld (blkAt _ _ rfl) _) _, blkOld (blkAt _ _ (by simp)) _, blkAt _ _ (by simp)⟩
  generalize (((w.alloc (.cells #[.string ⟨#[]⟩, .int .i64 0] 38)).alloc (.cells #[.string ⟨#[]⟩, .int .i64 (-1)] 38)).alloc (.cells #[.string ⟨p.toArray⟩, .int .i64 (-1)] 38)) = W at *
  have HW := Lib.hid hW; clear hW
  have hck := checkT_any A n c W S t (HT.out.below HW.out.bl) (HL.out.below HW.out.bl) HS.out
  have HCK := Lib.hid hck; clear hck
  have hR := HR.out
  unfold startS at hR
  generalize treeS t = E at *
  by_cases hE : E ≠ 0
  · rw [if_pos hE] at hR
    have HR2 := Lib.hid hR
    have hEb : (E != 0) = true := by rw [bne_iff_ne]; exact hE
    clear hR HR hE
    go_wp2_with fail
    refine HCK.out.mono ?_
    rintro e w1 ⟨rfl, hb1⟩
    have HW1 := Lib.hid (HW.out.below hb1)
    clear hb1 HCK
    go_upto_region 3 with fail
    (have hg1 := HW1.out.non; have HX := Lib.hid (fun (z : World) (hz : z.heap[w.heap.size + 1]? = some (.cells #[.string ⟨#[]⟩, .int .i64 (-1)] 38 (0, 0))) => And.intro ((cell_blk hz 0).trans rfl) ((cell_blk hz 1).trans rfl)); refine wpH_region (fun z => z.heap[w.heap.size + 1]? = some (.cells #[.string ⟨#[]⟩, .int .i64 (-1)] 38 (0, 0))) (by kernel_rfl) ?_; have hS := blkDrw hg1; have HZ := Lib.hid HW1.out.drew); (generalize w1.drew = W2 at *); (have r0 := (cell_blk HZ.out.res 0).trans rfl; have r1 := (cell_blk HZ.out.res 1).trans rfl; have f0 := frz_blk HZ.out.res 0; have f1 := frz_blk HZ.out.res 1); ((refine tkW 0 (v := ?_) hS ?_ ?_; rotate_left; (focus (intro x hx; have fx := HX.out x hx; go_simp; (try with_reducible rfl); done)); (try simp only [Act.put, lsa, lsz, lss]))); ((refine wpAnyH_one 1 (by kernel_rfl) rfl ?_; intro K' hK'; go_simp; refine hK'.out _ _ hS ?_; clear hK' K')); ((refine wpAnyH_one 2 (by kernel_rfl) rfl ?_; intro K' hK'; go_simp; refine hK'.out _ _ (HZ.out.set_non _ _) ?_; clear hK' K')); ((refine wpAnyH_one 3 (by kernel_rfl) rfl ?_; intro K' hK'; go_simp; refine hK'.out _ _ (HZ.out.set_non _ _) ?_; clear hK' K')); (refine wpAnyH_done (by kernel_rfl) ?_ _); (go_wp2_with fail); (have hRF := HZ.out.set_res (.string ⟨#[]⟩) (.int .i64 (-1)); have q0 := (cell_blk hRF 0).trans rfl; have q1 := (cell_blk hRF 1).trans rfl; refine bodyPost_ret (v := .tuple #[.slice none 0 0, .agg #[.string ⟨#[]⟩, .int .i64 (-1)], .int .i64 1]) (by simp [results, Tryz.results46, go_sem, q0, q1]) rfl ?_; exact ⟨none, 0, 0, by (rw [HR2.out]; try rfl), by rw [HR2.out]; exact Sl.nil _ _ _ _ (by decide), HZ.out.fin _ _⟩)
  · have hE0 : E = 0 := by omega
    subst hE0
    rw [if_neg (by simp)] at hR
    have hpa := fun w h => path_any p w h hs1
    have hct := fun w h => contains1_any 47 p w h hs1
    have hcf := fun w1 hb => conB_any A2 _ c2 w1 _ _ (HF.out.below hb) 83 #[] (fun _ _ => by kernel_rfl) (fun x => !nameT x) (fun x hx w2 _ => unnam_any x w2 (HS2.out x hx))
    generalize pathS p = q1 at *
    generalize p.contains 47 = q2 at *
    generalize (fl.any fun x => !nameT x) = q3 at *
    have HPA := Lib.hid hpa; have HCT := Lib.hid hct; have HCF := Lib.hid hcf; have HRR := Lib.hid hR
    clear hpa hct hcf hR HR hE
    go_wp2_with fail
    refine HCK.out.mono ?_
    rintro e w1 ⟨rfl, hb1⟩
    have HW1 := Lib.hid (HW.out.below hb1)
    clear hb1 HCK HW
    go_wp2_with fail
    refine (HPA.out w1 (HL.out.below HW1.out.bl)).mono ?_
    rintro e w2 ⟨rfl, hb2⟩
    have HW2 := Lib.hid (HW1.out.below hb2)
    clear hb2 HW1
    unfold errB
    cases q1 with
    | false =>
      have HR2 := Lib.hid (show R = ([], ⟨[], -1⟩, 2) from HRR.out)
      go_upto_region 5 with fail
      (have hg1 := HW2.out.non; have HX := Lib.hid (fun (z : World) (hz : z.heap[w.heap.size + 1]? = some (.cells #[.string ⟨#[]⟩, .int .i64 (-1)] 38 (0, 0))) => And.intro ((cell_blk hz 0).trans rfl) ((cell_blk hz 1).trans rfl)); refine wpH_region (fun z => z.heap[w.heap.size + 1]? = some (.cells #[.string ⟨#[]⟩, .int .i64 (-1)] 38 (0, 0))) (by kernel_rfl) ?_; have hS := blkDrw hg1; have HZ := Lib.hid HW2.out.drew); (generalize w2.drew = W2 at *); (have r0 := (cell_blk HZ.out.res 0).trans rfl; have r1 := (cell_blk HZ.out.res 1).trans rfl; have f0 := frz_blk HZ.out.res 0; have f1 := frz_blk HZ.out.res 1); ((refine tkW 0 (v := ?_) hS ?_ ?_; rotate_left; (focus (intro x hx; have fx := HX.out x hx; go_simp; (try with_reducible rfl); done)); (try simp only [Act.put, lsa, lsz, lss]))); ((refine wpAnyH_one 1 (by kernel_rfl) rfl ?_; intro K' hK'; go_simp; refine hK'.out _ _ hS ?_; clear hK' K')); ((refine wpAnyH_one 2 (by kernel_rfl) rfl ?_; intro K' hK'; go_simp; refine hK'.out _ _ (HZ.out.set_non _ _) ?_; clear hK' K')); ((refine wpAnyH_one 3 (by kernel_rfl) rfl ?_; intro K' hK'; go_simp; refine hK'.out _ _ (HZ.out.set_non _ _) ?_; clear hK' K')); (refine wpAnyH_done (by kernel_rfl) ?_ _); (go_wp2_with fail); (have hRF := HZ.out.set_res (.string ⟨#[]⟩) (.int .i64 (-1)); have q0 := (cell_blk hRF 0).trans rfl; have q1 := (cell_blk hRF 1).trans rfl; refine bodyPost_ret (v := .tuple #[.slice none 0 0, .agg #[.string ⟨#[]⟩, .int .i64 (-1)], .int .i64 2]) (by simp [results, Tryz.results46, go_sem, q0, q1]) rfl ?_; exact ⟨none, 0, 0, by (rw [HR2.out]; try rfl), by rw [HR2.out]; exact Sl.nil _ _ _ _ (by decide), HZ.out.fin _ _⟩)
    | true =>
      go_wp2_with fail
      refine (HCT.out w2 (HL.out.below HW2.out.bl)).mono ?_
      rintro e w3 ⟨rfl, rfl⟩
      cases q2 with
      | false =>
        have HR2 := Lib.hid (show R = ([], ⟨[], -1⟩, 2) from HRR.out)
        go_upto_region 5 with fail
        (have hg1 := HW2.out.non; have HX := Lib.hid (fun (z : World) (hz : z.heap[w.heap.size + 1]? = some (.cells #[.string ⟨#[]⟩, .int .i64 (-1)] 38 (0, 0))) => And.intro ((cell_blk hz 0).trans rfl) ((cell_blk hz 1).trans rfl)); refine wpH_region (fun z => z.heap[w.heap.size + 1]? = some (.cells #[.string ⟨#[]⟩, .int .i64 (-1)] 38 (0, 0))) (by kernel_rfl) ?_; have hS := blkDrw hg1; have HZ := Lib.hid HW2.out.drew); (generalize w3.drew = W2 at *); (have r0 := (cell_blk HZ.out.res 0).trans rfl; have r1 := (cell_blk HZ.out.res 1).trans rfl; have f0 := frz_blk HZ.out.res 0; have f1 := frz_blk HZ.out.res 1); ((refine tkW 0 (v := ?_) hS ?_ ?_; rotate_left; (focus (intro x hx; have fx := HX.out x hx; go_simp; (try with_reducible rfl); done)); (try simp only [Act.put, lsa, lsz, lss]))); ((refine wpAnyH_one 1 (by kernel_rfl) rfl ?_; intro K' hK'; go_simp; refine hK'.out _ _ hS ?_; clear hK' K')); ((refine wpAnyH_one 2 (by kernel_rfl) rfl ?_; intro K' hK'; go_simp; refine hK'.out _ _ (HZ.out.set_non _ _) ?_; clear hK' K')); ((refine wpAnyH_one 3 (by kernel_rfl) rfl ?_; intro K' hK'; go_simp; refine hK'.out _ _ (HZ.out.set_non _ _) ?_; clear hK' K')); (refine wpAnyH_done (by kernel_rfl) ?_ _); (go_wp2_with fail); (have hRF := HZ.out.set_res (.string ⟨#[]⟩) (.int .i64 (-1)); have q0 := (cell_blk hRF 0).trans rfl; have q1 := (cell_blk hRF 1).trans rfl; refine bodyPost_ret (v := .tuple #[.slice none 0 0, .agg #[.string ⟨#[]⟩, .int .i64 (-1)], .int .i64 2]) (by simp [results, Tryz.results46, go_sem, q0, q1]) rfl ?_; exact ⟨none, 0, 0, by (rw [HR2.out]; try rfl), by rw [HR2.out]; exact Sl.nil _ _ _ _ (by decide), HZ.out.fin _ _⟩)
      | true =>
        go_wp2_with fail
        refine (HCF.out w3 HW2.out.bl).mono ?_
        rintro e w4 ⟨rfl, hb4⟩
        have HW4 := Lib.hid (HW2.out.below hb4)
        clear hb4 HW2 HPA HCT HCF
        cases q3 with
        | true =>
          have HR2 := Lib.hid (show R = ([], ⟨[], -1⟩, 2) from HRR.out)
          go_upto_region 5 with fail
          (have hg1 := HW4.out.non; have HX := Lib.hid (fun (z : World) (hz : z.heap[w.heap.size + 1]? = some (.cells #[.string ⟨#[]⟩, .int .i64 (-1)] 38 (0, 0))) => And.intro ((cell_blk hz 0).trans rfl) ((cell_blk hz 1).trans rfl)); refine wpH_region (fun z => z.heap[w.heap.size + 1]? = some (.cells #[.string ⟨#[]⟩, .int .i64 (-1)] 38 (0, 0))) (by kernel_rfl) ?_; have hS := blkDrw hg1; have HZ := Lib.hid HW4.out.drew); (generalize w4.drew = W2 at *); (have r0 := (cell_blk HZ.out.res 0).trans rfl; have r1 := (cell_blk HZ.out.res 1).trans rfl; have f0 := frz_blk HZ.out.res 0; have f1 := frz_blk HZ.out.res 1); ((refine tkW 0 (v := ?_) hS ?_ ?_; rotate_left; (focus (intro x hx; have fx := HX.out x hx; go_simp; (try with_reducible rfl); done)); (try simp only [Act.put, lsa, lsz, lss]))); ((refine wpAnyH_one 1 (by kernel_rfl) rfl ?_; intro K' hK'; go_simp; refine hK'.out _ _ hS ?_; clear hK' K')); ((refine wpAnyH_one 2 (by kernel_rfl) rfl ?_; intro K' hK'; go_simp; refine hK'.out _ _ (HZ.out.set_non _ _) ?_; clear hK' K')); ((refine wpAnyH_one 3 (by kernel_rfl) rfl ?_; intro K' hK'; go_simp; refine hK'.out _ _ (HZ.out.set_non _ _) ?_; clear hK' K')); (refine wpAnyH_done (by kernel_rfl) ?_ _); (go_wp2_with fail); (have hRF := HZ.out.set_res (.string ⟨#[]⟩) (.int .i64 (-1)); have q0 := (cell_blk hRF 0).trans rfl; have q1 := (cell_blk hRF 1).trans rfl; refine bodyPost_ret (v := .tuple #[.slice none 0 0, .agg #[.string ⟨#[]⟩, .int .i64 (-1)], .int .i64 2]) (by simp [results, Tryz.results46, go_sem, q0, q1]) rfl ?_; exact ⟨none, 0, 0, by (rw [HR2.out]; try rfl), by rw [HR2.out]; exact Sl.nil _ _ _ _ (by decide), HZ.out.fin _ _⟩)
        | false =>
          obtain ⟨R3, hR3⟩ : ∃ R3 : List Bs × Ln × Int, R3 = if 128 < fl.length then ([], ⟨[], -1⟩, 10) else match findT t p with | none => ([], ⟨p, -1⟩, 7) | some d => ((linesS d).1, ⟨p, -1⟩, (linesS d).2) := ⟨_, rfl⟩
          have hf0 : R = if dupS (fl.take 0) (fl.drop 0) then ([], ⟨[], -1⟩, 6) else R3 := by rw [hR3]; exact HRR.out
          have Hf := Lib.hid hf0
          have HR3 := Lib.hid hR3
          clear hf0 hR3 HRR
          go_wp2_with fail
          go_loopw [39] (fun i wr => ∃ j : Nat, j ≤ fl.length ∧ i = .int .i64 j ∧ wr = w4 ∧ Hid (R = if dupS (fl.take j) (fl.drop j) then ([], ⟨[], -1⟩, 6) else R3)) (fun i _ => fl.length - (intOf i).toNat)
          case atStart => exact ⟨0, by omega, rfl, rfl, Hf⟩
          case round =>
            obtain ⟨j, hj, rfl, rfl, hf⟩ := hrel
            by_cases hlt : j < fl.length
            · obtain ⟨b, o, rfl, -, hbs, c0⟩ := (HF.out.below HW4.out.bl).str hlt
              have c0 : wr.cell? ⟨b, o + j, none⟩ = some (.string ⟨fl[j].toArray⟩) := by simpa using c0
              have hd := hf.out
              rw [drop_get hlt, dupS] at hd
              have hcn := contains_any _ j c2 wr _ (fl.take j) fl[j] ((HF.out.below HW4.out.bl).take (by omega))
              have htk : fl.take j ++ [fl[j]] = fl.take (j + 1) := by rw [List.take_succ_eq_append_getElem hlt]
              rw [htk] at hd
              generalize (fl.take j).contains fl[j] = q at *
              generalize fl[j] = x at *
              have HD := Lib.hid hd; have HC := Lib.hid hcn
              clear hd hcn hf htk
              have hjc : (j : Int) ≤ (c2 : Int) := by omega
              go_wp2_with fail
              refine HC.out.mono ?_
              rintro e w1 ⟨rfl, rfl⟩
              cases q with
              | true =>
                have HR2 := Lib.hid (show R = ([], ⟨[], -1⟩, 6) from HD.out)
                go_upto_region 10 with fail
                (have hg1 := HW4.out.non; have HX := Lib.hid (fun (z : World) (hz : z.heap[w.heap.size + 1]? = some (.cells #[.string ⟨#[]⟩, .int .i64 (-1)] 38 (0, 0))) => And.intro ((cell_blk hz 0).trans rfl) ((cell_blk hz 1).trans rfl)); refine wpH_region (fun z => z.heap[w.heap.size + 1]? = some (.cells #[.string ⟨#[]⟩, .int .i64 (-1)] 38 (0, 0))) (by kernel_rfl) ?_; have hS := blkDrw hg1; have HZ := Lib.hid HW4.out.drew); (generalize wr.drew = W2 at *); (have r0 := (cell_blk HZ.out.res 0).trans rfl; have r1 := (cell_blk HZ.out.res 1).trans rfl; have f0 := frz_blk HZ.out.res 0; have f1 := frz_blk HZ.out.res 1); ((refine tkW 0 (v := ?_) hS ?_ ?_; rotate_left; (focus (intro x hx; have fx := HX.out x hx; go_simp; (try with_reducible rfl); done)); (try simp only [Act.put, lsa, lsz, lss]))); ((refine wpAnyH_one 1 (by kernel_rfl) rfl ?_; intro K' hK'; go_simp; refine hK'.out _ _ hS ?_; clear hK' K')); ((refine wpAnyH_one 2 (by kernel_rfl) rfl ?_; intro K' hK'; go_simp; refine hK'.out _ _ (HZ.out.set_non _ _) ?_; clear hK' K')); ((refine wpAnyH_one 3 (by kernel_rfl) rfl ?_; intro K' hK'; go_simp; refine hK'.out _ _ (HZ.out.set_non _ _) ?_; clear hK' K')); (refine wpAnyH_done (by kernel_rfl) ?_ _); (go_wp2_with fail); (have hRF := HZ.out.set_res (.string ⟨#[]⟩) (.int .i64 (-1)); have q0 := (cell_blk hRF 0).trans rfl; have q1 := (cell_blk hRF 1).trans rfl; refine bodyPost_ret (v := .tuple #[.slice none 0 0, .agg #[.string ⟨#[]⟩, .int .i64 (-1)], .int .i64 6]) (by simp [results, Tryz.results46, go_sem, q0, q1]) rfl ?_; exact ⟨none, 0, 0, by (rw [HR2.out]; try rfl), by rw [HR2.out]; exact Sl.nil _ _ _ _ (by decide), HZ.out.fin _ _⟩)
              | false =>
                go_wp2_with fail
                go_roundw
                case rel => exact ⟨j + 1, by omega, by go_num, by first | rfl | trivial, HD⟩
                case measure => simp [intOf]; omega
            · have hd : R = R3 := by
                have := hf.out
                rw [drop_end hlt, dupS] at this
                exact this
              subst hd
              have h3 := HR3.out
              clear hf Hf
              by_cases h128 : (128 : Int) < (fl.length : Int)
              · have HR2 := Lib.hid (show R = ([], ⟨[], -1⟩, 10) from h3.trans (if_pos (by omega)))
                clear h3 HR3
                go_upto_region 13 with fail
                (have hg1 := HW4.out.non; have HX := Lib.hid (fun (z : World) (hz : z.heap[w.heap.size + 1]? = some (.cells #[.string ⟨#[]⟩, .int .i64 (-1)] 38 (0, 0))) => And.intro ((cell_blk hz 0).trans rfl) ((cell_blk hz 1).trans rfl)); refine wpH_region (fun z => z.heap[w.heap.size + 1]? = some (.cells #[.string ⟨#[]⟩, .int .i64 (-1)] 38 (0, 0))) (by kernel_rfl) ?_; have hS := blkDrw hg1; have HZ := Lib.hid HW4.out.drew); (generalize wr.drew = W2 at *); (have r0 := (cell_blk HZ.out.res 0).trans rfl; have r1 := (cell_blk HZ.out.res 1).trans rfl; have f0 := frz_blk HZ.out.res 0; have f1 := frz_blk HZ.out.res 1); ((refine tkW 0 (v := ?_) hS ?_ ?_; rotate_left; (focus (intro x hx; have fx := HX.out x hx; go_simp; (try with_reducible rfl); done)); (try simp only [Act.put, lsa, lsz, lss]))); ((refine wpAnyH_one 1 (by kernel_rfl) rfl ?_; intro K' hK'; go_simp; refine hK'.out _ _ hS ?_; clear hK' K')); ((refine wpAnyH_one 2 (by kernel_rfl) rfl ?_; intro K' hK'; go_simp; refine hK'.out _ _ (HZ.out.set_non _ _) ?_; clear hK' K')); ((refine wpAnyH_one 3 (by kernel_rfl) rfl ?_; intro K' hK'; go_simp; refine hK'.out _ _ (HZ.out.set_non _ _) ?_; clear hK' K')); (refine wpAnyH_done (by kernel_rfl) ?_ _); (go_wp2_with fail); (have hRF := HZ.out.set_res (.string ⟨#[]⟩) (.int .i64 (-1)); have q0 := (cell_blk hRF 0).trans rfl; have q1 := (cell_blk hRF 1).trans rfl; refine bodyPost_ret (v := .tuple #[.slice none 0 0, .agg #[.string ⟨#[]⟩, .int .i64 (-1)], .int .i64 10]) (by simp [results, Tryz.results46, go_sem, q0, q1]) rfl ?_; exact ⟨none, 0, 0, by (rw [HR2.out]; try rfl), by rw [HR2.out]; exact Sl.nil _ _ _ _ (by decide), HZ.out.fin _ _⟩)
              · rw [if_neg (by omega)] at h3
                have HH := Lib.hid h3
                have hfi := findT_any A n c wr S t (HT.out.below HW4.out.bl) p
                have HFI := Lib.hid hfi
                clear h3 HR3 hfi
                have hfd : ∀ d, findT t p = some d → d.length ≤ 4294967000 := fun d h => by
                  unfold findT at h
                  cases hx : t.find? (fun f => f.path == p) with
                  | none => rw [hx] at h; cases h
                  | some f => rw [hx] at h; injection h with h; rw [← h]; exact HSD.out (by first | trivial | rfl | omega) f (List.mem_of_find?_eq_some hx)
                generalize findT t p = o at *
                cases o with
                | none =>
                  have HR2 := Lib.hid (show R = ([], ⟨p, -1⟩, 7) from HH.out)
                  clear HH
                  go_wp2_with fail
                  refine HFI.out.mono ?_
                  rintro e w5 ⟨rfl, hb5⟩
                  have HW5 := Lib.hid (HW4.out.below hb5)
                  clear hb5 HFI hfd
                  unfold findV
                  go_upto_region 16 with fail
                  have hg1 := HW5.out.at_; have HX := Lib.hid (fun (z : World) (hz : z.heap[w.heap.size + 2]? = some (.cells #[.string ⟨p.toArray⟩, .int .i64 (-1)] 38 (0, 0))) => And.intro ((cell_blk hz 0).trans rfl) ((cell_blk hz 1).trans rfl)); refine wpH_region (fun z => z.heap[w.heap.size + 2]? = some (.cells #[.string ⟨p.toArray⟩, .int .i64 (-1)] 38 (0, 0))) (by kernel_rfl) ?_; have hS := blkDrw hg1; have HZ := Lib.hid HW5.out.drew
                  generalize w5.drew = W2 at *
                  have r0 := (cell_blk HZ.out.res 0).trans rfl; have r1 := (cell_blk HZ.out.res 1).trans rfl; have f0 := frz_blk HZ.out.res 0; have f1 := frz_blk HZ.out.res 1
                  (refine tkW 0 (v := ?_) hS ?_ ?_; rotate_left; (focus (intro x hx; have fx := HX.out x hx; go_simp; (try with_reducible rfl); done)); (try simp only [Act.put, lsa, lsz, lss]))
                  (refine wpAnyH_one 1 (by kernel_rfl) rfl ?_; intro K' hK'; go_simp; refine hK'.out _ _ hS ?_; clear hK' K')
                  (refine wpAnyH_one 2 (by kernel_rfl) rfl ?_; intro K' hK'; go_simp; refine hK'.out _ _ (HZ.out.set_at _ _) ?_; clear hK' K')
                  (refine wpAnyH_one 3 (by kernel_rfl) rfl ?_; intro K' hK'; go_simp; refine hK'.out _ _ (HZ.out.set_at _ _) ?_; clear hK' K')
                  refine wpAnyH_done (by kernel_rfl) ?_ _
                  go_wp2_with fail
                  have hRF := HZ.out.set_res (.string ⟨p.toArray⟩) (.int .i64 (-1)); have q0 := (cell_blk hRF 0).trans rfl; have q1 := (cell_blk hRF 1).trans rfl; refine bodyPost_ret (v := .tuple #[.slice none 0 0, .agg #[.string ⟨p.toArray⟩, .int .i64 (-1)], .int .i64 7]) (by simp [results, Tryz.results46, go_sem, q0, q1]) rfl ?_
                  exact ⟨none, 0, 0, by (rw [HR2.out]; try rfl), by rw [HR2.out]; exact Sl.nil _ _ _ _ (by decide), HZ.out.fin _ _⟩
                | some d =>
                  have HR2 := Lib.hid (show R = ((linesS d).1, ⟨p, -1⟩, (linesS d).2) from HH.out)
                  have hli := fun w h => linesT_any d w h (hfd d rfl)
                  have HLI := Lib.hid hli
                  clear HH hli hfd
                  generalize linesS d = X at *
                  obtain ⟨ls, ec⟩ := X
                  go_wp2_with fail
                  refine HFI.out.mono ?_
                  rintro e w5 ⟨rfl, hb5⟩
                  have HW5 := Lib.hid (HW4.out.below hb5)
                  clear hb5 HFI
                  unfold findV
                  go_wp2_with fail
                  refine (HLI.out w5 (HL.out.below HW5.out.bl)).mono ?_
                  rintro e w6 ⟨A6, n6, c6, rfl, hs6, hb6⟩
                  have HW6 := Lib.hid (HW5.out.below hb6)
                  have hlt5 : w.heap.size + 3 ≤ w5.heap.size := (Array.getElem?_eq_some_iff.1 HW5.out.at_).1
                  have HS6 := Lib.hid hs6
                  clear hb6 hs6 HLI HW5
                  go_upto_region 18 with fail
                  have hg1 := HW6.out.at_; have HX := Lib.hid (fun (z : World) (hz : z.heap[w.heap.size + 2]? = some (.cells #[.string ⟨p.toArray⟩, .int .i64 (-1)] 38 (0, 0))) => And.intro ((cell_blk hz 0).trans rfl) ((cell_blk hz 1).trans rfl)); refine wpH_region (fun z => z.heap[w.heap.size + 2]? = some (.cells #[.string ⟨p.toArray⟩, .int .i64 (-1)] 38 (0, 0))) (by kernel_rfl) ?_; have hS := blkDrw hg1; have HZ := Lib.hid HW6.out.drew
                  generalize hw62 : w6.drew = W2 at *
                  have r0 := (cell_blk HZ.out.res 0).trans rfl; have r1 := (cell_blk HZ.out.res 1).trans rfl; have f0 := frz_blk HZ.out.res 0; have f1 := frz_blk HZ.out.res 1
                  (refine tkW 0 (v := ?_) hS ?_ ?_; rotate_left; (focus (intro x hx; have fx := HX.out x hx; go_simp; (try with_reducible rfl); done)); (try simp only [Act.put, lsa, lsz, lss]))
                  (refine tkW 1 (v := ?_) hS ?_ ?_; rotate_left; (focus (intro x hx; have fx := HX.out x hx; go_simp; (try with_reducible rfl); done)); (try simp only [Act.put, lsa, lsz, lss]))
                  (refine tkW 2 (v := ?_) hS ?_ ?_; rotate_left; (focus (intro x hx; have fx := HX.out x hx; go_simp; (try with_reducible rfl); done)); (try simp only [Act.put, lsa, lsz, lss]))
                  (refine wpAnyH_one 3 (by kernel_rfl) rfl ?_; intro K' hK'; go_simp; refine hK'.out _ _ hS ?_; clear hK' K')
                  (refine wpAnyH_one 4 (by kernel_rfl) rfl ?_; intro K' hK'; go_simp; refine hK'.out _ _ (HZ.out.set_at _ _) ?_; clear hK' K')
                  (refine wpAnyH_one 5 (by kernel_rfl) rfl ?_; intro K' hK'; go_simp; refine hK'.out _ _ (HZ.out.set_at _ _) ?_; clear hK' K')
                  refine wpAnyH_done (by kernel_rfl) ?_ _
                  go_wp2_with fail
                  have hRF := HZ.out.set_res (.string ⟨p.toArray⟩) (.int .i64 (-1)); have q0 := (cell_blk hRF 0).trans rfl; have q1 := (cell_blk hRF 1).trans rfl; refine bodyPost_ret (v := .tuple #[.slice A6 n6 c6, .agg #[.string ⟨p.toArray⟩, .int .i64 (-1)], .int .i64 ec]) (by simp [results, Tryz.results46, go_sem, q0, q1]) rfl ?_
                  exact ⟨A6, n6, c6, by (rw [HR2.out]; try rfl), by rw [HR2.out, ← hw62]; exact ((HS6.out.keep (w' := w6.drew) (fun q _ _ => rfl)).keep (fun q _ hq => (set_other _ _ _ _ _ (by omega)).trans (set_other _ _ _ _ _ (by omega)))).wide (fun q _ hq => by omega) (by decide), HZ.out.fin _ _⟩
end Go.Proofs.YtpeamehplhpcjaaGreatDoor
namespace Go.Proofs.YtpeamehplhpcjaaGreatDoor
open Go.RowKit Go.ChangeShapes Go.WideShapes
def vLn (p : Ln) : Value := .agg #[.string ⟨p.path.toArray⟩, .int .i64 p.n]
def In64 (n : Int) : Prop := -9223372036854775808 ≤ n ∧ n ≤ 9223372036854775807
def OkLn (p : Ln) : Prop := p.path.length ≤ 9223372036854775807 ∧ In64 p.n
theorem wf64 {n : Int} (h : In64 n) : (Lit.int .i64 n).wf = true := WalkArith.wf_i64 h
theorem keyLit_str {d : Nat} {s : Bs} (h : s.length ≤ 9223372036854775807) : Tryz.prog.keyLits (d + 1) 9 [.string ⟨s.toArray⟩] = some [.string s] := by
  have hs : (⟨s.toArray⟩ : ByteArray).size ≤ maxLen := by simpa [ByteArray.size, maxLen] using h
  unfold Program.keyLits
  rw [Tryz.underlying9]
  simp [hs]
theorem keyLit_int {d : Nat} {n : Int} (h : In64 n) : Tryz.prog.keyLits (d + 1) 3 [.int .i64 n] = some [.int .i64 n] := by
  unfold Program.keyLits
  rw [Tryz.underlying3]
  simp [wf64 h]
theorem ln_lit (p : Ln) (h : OkLn p) : ∃ l, keyOf Tryz.prog 38 (vLn p) = some l := by
  obtain ⟨nm, n⟩ := p
  obtain ⟨h1, h3⟩ := h
  simp only at h1 h3
  have hkt : Tryz.prog.keyType 38 = true := by kernel_rfl
  have hfm : (vLn ⟨nm, n⟩).formed Tryz.prog 38 = true := by
    unfold vLn Value.formed
    rw [Tryz.underlying38]
    simp only [beq_iff_eq]
    kernel_rfl
  unfold keyOf
  rw [Tryz.underlying38]
  simp only [hkt, hfm, Bool.and_self, if_true]
  have hsz : ∃ d, Tryz.prog.types.size + 1 = d + 1 + 1 := ⟨Tryz.prog.types.size - 1, by have : 0 < Tryz.prog.types.size := of_decide_eq_true (by kernel_rfl); omega⟩
  obtain ⟨d, hd⟩ := hsz
  rw [hd]
  refine Option.isSome_iff_exists.1 ?_
  rw [Option.isSome_map]
  unfold Program.keyLits
  rw [Tryz.underlying38]
  have hc : Tryz.prog.cellsOf 38 = 2 := by kernel_rfl
  have hcs : Tryz.prog.cellsOf 9 = 1 := by kernel_rfl
  have hci : Tryz.prog.cellsOf 3 = 1 := by kernel_rfl
  simp [vLn, Value.cells, hc, hcs, hci, keyLit_str h1, keyLit_int h3]
theorem str_inj {a b : Bs} (h : (⟨a.toArray⟩ : ByteArray) = ⟨b.toArray⟩) : a = b := by
  injection h with h
  simpa using congrArg Array.toList h
def TLn : KeyT Ln where
  K := 38
  kv := vLn
  law := deep_law_laid (m := 3) (by kernel_rfl) (by omega) (of_decide_eq_true (by kernel_rfl)) (by kernel_rfl) (by rw [Tryz.underlying38])
  ok := OkLn
  lit := ln_lit
  inj := fun a b h => by
    obtain ⟨a1, a2⟩ := a
    obtain ⟨b1, b2⟩ := b
    simp only [vLn, Value.agg.injEq, Array.mk.injEq, List.cons.injEq, Value.string.injEq, Value.int.injEq, and_true] at h
    obtain ⟨h1, h2⟩ := h
    rw [str_inj h1, h2.2]
end Go.Proofs.YtpeamehplhpcjaaGreatDoor
namespace Go.Proofs.YtpeamehplhpcjaaGreatDoor
open Go.RowKit
def VMac (w : World) (M : Nat → Prop) (v : Value) (x : Mac) : Prop := ∃ A n c, v = .agg #[.string ⟨x.name.toArray⟩, .slice A n c, .string ⟨x.body.path.toArray⟩, .int .i64 x.body.fr, .int .i64 x.body.tu] ∧ Sl w (fun k => ¬ M k) A n c x.params
def VMacs (w : World) (M : Nat → Prop) : List (Bs × Value) → List (Bs × Mac) → Prop
  | [], [] => True
  | p :: r, q :: t => p.1 = q.1 ∧ VMac w M p.2 q.2 ∧ VMacs w M r t
  | _, _ => False
def vFlags (m : List (Bs × Bool)) : List (Bs × Value) := m.map fun p => (p.1, .bool p.2)
def vHeads (m : List (Ln × Bool)) : List (Ln × Value) := m.map fun p => (p.1, .bool p.2)
def scC (tA : Option Addr) (tn tc mf mm : Nat) (iA : Option Addr) (ic mh ml : Nat) (oA : Option Addr) (oc : Nat) (s : Sst) : Array Value :=
  #[.slice tA tn tc, .map (some mf), .map (some mm), .slice iA s.items.length ic, .map (some mh), .map (some ml), .slice oA s.opn.length oc, .int .i64 s.count, .int .i64 s.fault.err, .int .i64 s.fault.pkg, .int .i64 s.fault.step, .string ⟨s.fault.ln.path.toArray⟩, .int .i64 s.fault.ln.n]
structure ScB (W : World) (M : Nat → Prop) (B g : Nat) (tA : Option Addr) (tn tc : Nat) (mf mm mh ml : Nat) (iA : Option Addr) (ic : Nat) (oA : Option Addr) (oc : Nat) (mv : List (Bs × Value)) (t : List Fil) (s : Sst) : Prop where
  cells : W.heap[g]? = some (.cells (scC tA tn tc mf mm iA ic mh ml oA oc s) 96 (0, 0))
  tree : Sl W (fun k => k < B) tA tn tc t
  flags : MapV TS W mf (vFlags s.flags)
  mval : MapV TS W mm mv
  macs : VMacs W M mv s.macros
  items : Own W (fun k => ¬ M k) B 48 iA ic s.items
  heads : MapV TLn W mh (vHeads s.heads)
  files : MapV TS W ml (vFlags s.files)
  opn : Own W (fun _ => False) B 9 oA oc s.opn
  own : ∀ k, (k = g ∨ k = mf ∨ k = mm ∨ k = mh ∨ k = ml ∨ iA.map Addr.block = some k ∨ oA.map Addr.block = some k) → M k
  old : ∀ k, M k → B ≤ k
  lt : ∀ k, M k → k < W.heap.size
  dif : g ≠ mf ∧ g ≠ mm ∧ g ≠ mh ∧ g ≠ ml ∧ mf ≠ mm ∧ mf ≠ mh ∧ mf ≠ ml ∧ mm ≠ mh ∧ mm ≠ ml ∧ mh ≠ ml
  difi : ∀ k, iA.map Addr.block = some k → k ≠ g ∧ k ≠ mf ∧ k ≠ mm ∧ k ≠ mh ∧ k ≠ ml ∧ oA.map Addr.block ≠ some k
  difo : ∀ k, oA.map Addr.block = some k → k ≠ g ∧ k ≠ mf ∧ k ≠ mm ∧ k ≠ mh ∧ k ≠ ml
def ScOut (W : World) (M : Nat → Prop) (w' : World) (M' : Nat → Prop) : Prop := (∀ k, M' k → M k ∨ W.heap.size ≤ k) ∧ Frm M W w'
theorem VMacs.keep {w w' : World} {M : Nat → Prop} (hk : ∀ k, k < w.heap.size → ¬ M k → w'.heap[k]? = w.heap[k]?) : ∀ {mv : List (Bs × Value)} {ms : List (Bs × Mac)}, VMacs w M mv ms → VMacs w' M mv ms
  | [], [], _ => trivial
  | p :: r, q :: t, h => by
    obtain ⟨h1, ⟨A, n, c, e, hs⟩, h2⟩ := h
    exact ⟨h1, ⟨A, n, c, e, hs.keep hk⟩, VMacs.keep hk h2⟩
  | [], _ :: _, h => h.elim
  | _ :: _, [], h => h.elim
theorem ScB.below {W W' : World} {M : Nat → Prop} {B g : Nat} {tA : Option Addr} {tn tc mf mm mh ml : Nat} {iA : Option Addr} {ic : Nat} {oA : Option Addr} {oc : Nat} {mv : List (Bs × Value)} {t : List Fil} {s : Sst}
    (H : ScB W M B g tA tn tc mf mm mh ml iA ic oA oc mv t s) (hb : Below W.heap.size W W') : ScB W' M B g tA tn tc mf mm mh ml iA ic oA oc mv t s where
  cells := keptBlk hb H.cells
  tree := H.tree.below hb
  flags := H.flags.below hb
  mval := H.mval.below hb
  macs := H.macs.keep fun k hk _ => hb.block k hk
  items := H.items.below hb
  heads := H.heads.below hb
  files := H.files.below hb
  opn := H.opn.below hb
  own := H.own
  old := H.old
  lt := fun k hk => Nat.lt_of_lt_of_le (H.lt k hk) hb.size
  dif := H.dif
  difi := H.difi
  difo := H.difo
theorem ScB.touch {W W' : World} {M : Nat → Prop} {B g : Nat} {tA : Option Addr} {tn tc mf mm mh ml : Nat} {iA : Option Addr} {ic : Nat} {oA : Option Addr} {oc : Nat} {mv : List (Bs × Value)} {t : List Fil} {s : Sst}
    (H : ScB W M B g tA tn tc mf mm mh ml iA ic oA oc mv t s) (n : Nat) (f : Flt)
    (hc : W'.heap[g]? = some (.cells (scC tA tn tc mf mm iA ic mh ml oA oc { s with count := n, fault := f }) 96 (0, 0))) (hk : ∀ k, k ≠ g → W'.heap[k]? = W.heap[k]?) (hz : W.heap.size ≤ W'.heap.size) :
    ScB W' M B g tA tn tc mf mm mh ml iA ic oA oc mv t { s with count := n, fault := f } where
  cells := hc
  tree := H.tree.keep fun k _ hb => hk k (fun e => by have := H.old g (H.own g (.inl rfl)); have hb : k < B := hb; omega)
  flags := H.flags.keep (hk mf (Ne.symm H.dif.1))
  mval := H.mval.keep (hk mm (Ne.symm H.dif.2.1))
  macs := H.macs.keep fun k _ hM => hk k (fun e => hM (e ▸ H.own g (.inl rfl)))
  items := H.items.keep fun k _ hb => hk k (fun e => by
    subst e
    rcases hb with hb | hb
    · exact hb (H.own k (.inl rfl))
    · exact (H.difi k hb).1 rfl)
  heads := H.heads.keep (hk mh (Ne.symm H.dif.2.2.1))
  files := H.files.keep (hk ml (Ne.symm H.dif.2.2.2.1))
  opn := H.opn.keep fun k _ hb => hk k (fun e => by
    subst e
    rcases hb with hb | hb
    · exact hb
    · exact (H.difo k hb).1 rfl)
  own := H.own
  old := H.old
  lt := fun k hk => Nat.lt_of_lt_of_le (H.lt k hk) hz
  dif := H.dif
  difi := H.difi
  difo := H.difo
end Go.Proofs.YtpeamehplhpcjaaGreatDoor
