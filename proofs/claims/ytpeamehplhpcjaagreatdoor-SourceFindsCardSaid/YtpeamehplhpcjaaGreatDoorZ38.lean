/- A part of the proofs of the laws of one package; see the law's own text, which comes last in 'order'. No conditions of its own. -/
import Derived.Test.YtpeamehplhpcjaaGreatDoorZ20
import Derived.Test.YtpeamehplhpcjaaGreatDoorZ37
set_option linter.unusedVariables false
set_option linter.unusedSimpArgs false
namespace Go.Proofs.YtpeamehplhpcjaaGreatDoor
open Go.RowKit
theorem RcB.opn' {W : World} {M : Nat → Prop} {B g : Nat} {q : RcP} {t : List Fil} {p0 : Bs} {s : Rst} {o : Obj} {w7 : World}
    (H : RcB W M B g q t p0 s) (p : Bs) {O' : Option Addr} {d' : Nat} (ho : Own w7 (fun _ => False) B 9 O' d' (s.opn ++ [p])) (hg : (W.alloc o).grownBy w7 (q.oA.map Addr.block))
    (hat : O'.map Addr.block = q.oA.map Addr.block ∨ O'.map Addr.block = some (W.alloc o).heap.size) :
    ∃ M', RcB (w7.setCell ⟨g, 7, none⟩ (.slice O' (s.opn.length + 1) d')) M' B g { q with oA := O', oc := d' } t p0 { s with opn := s.opn ++ [p] } ∧ RcT W M g q (w7.setCell ⟨g, 7, none⟩ (.slice O' (s.opn.length + 1) d')) M' { q with oA := O', oc := d' } := by
  have hM := H.own g (.inl rfl)
  have hlt := H.lt g hM
  have hat' : O'.map Addr.block = q.oA.map Addr.block ∨ ∃ z, O'.map Addr.block = some z ∧ W.heap.size ≤ z := hat.imp id fun h => ⟨_, h, by simp⟩
  have hsc7 := grownBlk hg (blkOld H.cells o) (fun e => (H.difo g e) rfl)
  exact H.opened (s.opn ++ [p]) (W' := w7.setCell ⟨g, 7, none⟩ (.slice O' (s.opn.length + 1) d')) (by simpa [rcC] using Blk.set _ hsc7 7 (.slice O' (s.opn.length + 1) d'))
    (ho.keep fun k _ hk => set_other _ _ _ _ _ (fun e => by
      subst e
      rcases hk with hk | hk
      · exact hk
      · rcases hat' with h | ⟨z, h, hq⟩
        · exact (H.difo k (h ▸ hk)) rfl
        · rw [h] at hk; injection hk with hk; omega))
    ((((Frm.refl _ W).alloc o).grown hg (fun k e _ => .inr e)).setCell (p := ⟨g, 7, none⟩) (fun _ => .inl rfl) _) hat'
theorem RcB.shut {W : World} {M : Nat → Prop} {B g : Nat} {q : RcP} {t : List Fil} {p0 : Bs} {s : Rst}
    (H : RcB W M B g q t p0 s) (k : Nat) (hk : k ≤ s.opn.length) :
    ∃ M', RcB (W.setCell ⟨g, 7, none⟩ (.slice q.oA k q.oc)) M' B g q t p0 { s with opn := s.opn.take k } ∧ RcT W M g q (W.setCell ⟨g, 7, none⟩ (.slice q.oA k q.oc)) M' q := by
  have hl : (s.opn.take k).length = k := by rw [List.length_take]; omega
  exact H.opened (s.opn.take k) (W' := W.setCell ⟨g, 7, none⟩ (.slice q.oA k q.oc)) (O' := q.oA) (d' := q.oc) (by simpa [rcC, Nat.min_eq_left hk] using Blk.set _ H.cells 7 (.slice q.oA k q.oc))
    ((H.opn.take k).keep fun j _ hj => set_other _ _ _ _ _ (fun e => by
      subst e
      rcases hj with hj | hj
      · exact hj
      · exact (H.difo j hj) rfl))
    ((Frm.refl _ W).setCell (p := ⟨g, 7, none⟩) (fun _ => .inl rfl) _) (.inl rfl)
set_option maxRecDepth 100000 in
set_option maxHeartbeats 8000000 in
theorem rfile_any (d : Nat) (t : List Fil) (B : Nat) (hgr : RGrpOk d t B) : RFileOk d t B := by
  intro W M g p0 s q p A n c l H hst hfl hop hp hl hlo
  obtain ⟨R, hR⟩ : ∃ R, R = rfile (rgroup t d) p l s := ⟨_, rfl⟩
  rw [← hR]
  unfold rfile at hR
  simp only at hR
  have hri : RIv { s with files := rins s.files p, opn := s.opn ++ [p] } := ⟨hst.fl, hst.ma, hst.he, by have := len_rins s.files p; show (rins s.files p).length ≤ s.count + 1; omega, hst.co⟩
  have hkp := rkeep_group t d p l 0 l.length { s with files := rins s.files p, opn := s.opn ++ [p] } hri
  have hgrp := fun W' M' q' h1 h3 => hgr W' M' g p0 { s with files := rins s.files p, opn := s.opn ++ [p] } q' p A n c l 0 l.length h1 hri (by simp; omega) hp h3 hlo (Nat.zero_le _) (Nat.le_refl _)
  rw [show ((0 : Nat) : Int) = 0 from rfl] at hgrp
  generalize rgroup t d p l 0 l.length { s with files := rins s.files p, opn := s.opn ++ [p] } = Y at *
  obtain ⟨⟨fe, fk, fs, ⟨fp, fn9⟩⟩, s2⟩ := Y
  unfold vFlt at hgrp
  simp only at hR hgrp
  have hop2 : s2.opn = s.opn ++ [p] := hkp.2
  obtain ⟨D, hD⟩ : ∃ D : Int, D = 24 - (d : Int) := ⟨_, rfl⟩
  rw [← hD] at hgrp ⊢
  have hln := hl.len
  subst hln
  have hle := hl.le
  have HR := Lib.hid hR; have HLI := Lib.hid hl; have HG := Lib.hid hgrp; have HOP := Lib.hid hop2; have HH := Lib.hid H
  have hol : s.opn.length ≤ 24 := by omega
  have hfi : s.files.length ≤ 1000000 := by have := hst.co; omega
  clear hR hl hgrp hop2 hkp H hD hri hst
  go_enter Tryz.func61, Tryz.ntmps61
  go_upto_region 1 with fail
  have hG0 : GrR W M B g q t p0 s (W.alloc (.cells #[.int .i64 0, .int .i64 0, .int .i64 0, .string ⟨#[]⟩, .int .i64 0] 40)) (fun k => M k ∨ k = W.heap.size) q s := GrR.start HH.out
  generalize (W.alloc (.cells #[.int .i64 0, .int .i64 0, .int .i64 0, .string ⟨#[]⟩, .int .i64 0] 40)) = W0 at *
  generalize hM0 : (fun k => M k ∨ k = W.heap.size) = M0 at *
  clear hM0
  have hcc := hG0.rc.cells
  unfold rcC at hcc
  have c6 := (cell_blk hcc 6).trans rfl
  have hin := rins_any q.lA q.ln q.lc W0 _ s.files hG0.rc.files p hfi
  have HG0 := Lib.hid hG0; have HIN := Lib.hid hin
  clear hG0 hin hcc
  go_wp2_with fail
  refine HIN.out.mono ?_
  rintro e w1 ⟨A1, n1, c1, rfl, hs1, hb1⟩
  have HG1 := Lib.hid (HG0.out.below hb1)
  have hs1' : Sl w1 (fun j => ¬ M0 j) A1 n1 c1 (rins s.files p) := hs1.wide (fun j _ hj hm => by have := HG0.out.rc.lt j hm; omega) (by decide)
  have HS1 := Lib.hid hs1'
  clear hs1 hs1' hb1 c6 HIN HG0
  have hcc := HG1.out.rc.cells
  unfold rcC at hcc
  have c6 := (cell_blk hcc 6).trans rfl
  have f6 := frz_blk hcc 6
  clear hcc
  go_upto_region 2 with fail
  have hH := HG1.out.rc.files' _ HS1.out
  have hG2 := HG1.out.step hH.1 hH.2
  clear c6 f6 hH HG1 HS1
  generalize (w1.setCell ⟨g, 6, none⟩ (.slice A1 n1 c1)) = w2 at *
  generalize ({ q with lA := A1, ln := n1, lc := c1 } : RcP) = q2 at *
  have HG2 := Lib.hid hG2
  clear hG2
  have hcc := HG2.out.rc.cells
  unfold rcC at hcc
  have c7 := (cell_blk hcc 7).trans rfl
  have HC2 := Lib.hid hcc
  have hB2 : B ≤ w2.heap.size := by have := HG2.out.rc.lt g (HG2.out.rc.own g (.inl rfl)); have := HG2.out.rc.old g (HG2.out.rc.own g (.inl rfl)); omega
  clear hcc
  go_upto_region 3 with (at_builtin; go_loud (refine wpList_app1 rfl _ _ eltStr rfl (by decide) rfl rfl rfl (HG2.out.rc.opn.alloc _) rfl [.string ⟨p.toArray⟩] p (blkAt _ _ rfl) rfl rfl (by show s.opn.length + 1 ≤ _; omega) (by show (s.opn.length + 1) * 16 ≤ _; omega) (by simp; omega) ?_); intro A' c' w3 hown' hg3 hat; have hb3 := grownBlk hg3 (blkOld HC2.out _) (fun e => (HG2.out.rc.difo g e) rfl); have z7 := (cell_blk hb3 7).trans rfl; have f7 := frz_blk hb3 7; have HOW := Lib.hid hown'; have HG3 := Lib.hid hg3; have HAT := Lib.hid hat; clear hown' hg3 hat hb3)
  obtain ⟨M3, h31, h32⟩ := HG2.out.rc.opn' p HOW.out HG3.out HAT.out
  have hG4 := HG2.out.step h31 h32
  simp only at hG4
  clear h31 h32 z7 f7 HOW HG3 HAT HC2 HG2 c7
  generalize (w3.setCell ⟨g, 7, none⟩ (.slice A' (s.opn.length + 1) c')) = w4 at *
  generalize ({ q2 with oA := A', oc := c' } : RcP) = q4 at *
  have HG4 := Lib.hid hG4
  clear hG4
  have hgq := HG.out w4 M3 q4 HG4.out.rc (HG4.out.lines HLI.out (by decide))
  have HGQ := Lib.hid hgq
  clear hgq HG HLI
  go_wp2_with fail
  refine HGQ.out.mono ?_
  rintro e wB ⟨rfl, M', q', hr, ht⟩
  have HGB := Lib.hid (HG4.out.step hr ht)
  clear hr ht HG4 HGQ
  go_upto_region 4 with fail
  have hbx : Below wB.heap.size wB (wB.alloc (.cells #[.int .i64 fe, .int .i64 fk, .int .i64 fs, .string ⟨fp.toArray⟩, .int .i64 fn9] 40)) := boxed
  have hfx := blkAt wB (.cells #[.int .i64 fe, .int .i64 fk, .int .i64 fs, .string ⟨fp.toArray⟩, .int .i64 fn9] 40) rfl
  have hgf : ¬ M' wB.heap.size := fun hm => by have := HGB.out.rc.lt _ hm; omega
  generalize (wB.alloc (.cells #[.int .i64 fe, .int .i64 fk, .int .i64 fs, .string ⟨fp.toArray⟩, .int .i64 fn9] 40)) = wC at *
  have HGC := Lib.hid ((HGB.out.below hbx).below (Below.refl _ _).drew)
  have HFX := Lib.hid (blkDrw hfx)
  clear hbx hfx HGB
  generalize wB.heap.size = gf at *
  have hl2 : s2.opn.length = s.opn.length + 1 := by rw [HOP.out]; simp
  have hcap := HGC.out.rc.opn.cap
  obtain ⟨M5, h51, h52⟩ := HGC.out.rc.shut (s2.opn.length - 1) (by omega)
  have hG5 := HGC.out.step h51 h52
  have hfx5 := h52.out.blk HFX.out hgf
  have HG5 := Lib.hid hG5; have HF5 := Lib.hid hfx5
  have hc4 := HGC.out.rc.cells
  clear h51 h52 hG5 hfx5 HFX
  refine wpY_region (fun z => z.heap[g]? = some (.cells (rcC q' p0 s2) 106 (0, 0))) 14 (by kernel_rfl) ?_
  have hS := hc4
  have HX := Lib.hid (fun (z : World) (hz : z.heap[g]? = some (.cells (rcC q' p0 s2) 106 (0, 0))) => (show z.cell? ⟨g, 7, none⟩ = some (.slice q'.oA s2.opn.length q'.oc) from (cell_blk hz 7).trans rfl))
  rw [hl2] at HX HG5 HF5 hcap
  clear hc4 HGC
  generalize wC.drew = wE at *
  (refine wpAnyY_takeW 0 rfl rfl (by kernel_rfl) (by kernel_rfl) (by kernel_rfl) (by kernel_rfl) (fun _ _ _ h => h) (v := ?_) (by kernel_rfl) hS ?_ ?_; rotate_left; (focus (intro x hx; have fx := HX.out x hx; go_simp; (try with_reducible rfl); done)); (try simp only [Act.put, lsa, lsz, lss]))
  (refine wpAnyY_takeW 1 rfl rfl (by kernel_rfl) (by kernel_rfl) (by kernel_rfl) (by kernel_rfl) (fun _ _ _ h => h) (v := ?_) (by kernel_rfl) hS ?_ ?_; rotate_left; (focus (intro x hx; have fx := HX.out x hx; go_simp; (try with_reducible rfl); done)); (try simp only [Act.put, lsa, lsz, lss]))
  (refine wpAnyY_takeW 2 rfl rfl (by kernel_rfl) (by kernel_rfl) (by kernel_rfl) (by kernel_rfl) (fun _ _ _ h => h) (v := ?_) (by kernel_rfl) hS ?_ ?_; rotate_left; (focus (intro x hx; have fx := HX.out x hx; go_simp; (try with_reducible rfl); done)); (try simp only [Act.put, lsa, lsz, lss]))
  (refine wpAnyY_takeW 3 rfl rfl (by kernel_rfl) (by kernel_rfl) (by kernel_rfl) (by kernel_rfl) (fun _ _ _ h => h) (v := ?_) (by kernel_rfl) hS ?_ ?_; rotate_left; (focus (intro x hx; have fx := HX.out x hx; go_simp; (try with_reducible rfl); done)); (try simp only [Act.put, lsa, lsz, lss]))
  (refine wpAnyY_takeW 4 rfl rfl (by kernel_rfl) (by kernel_rfl) (by kernel_rfl) (by kernel_rfl) (fun _ _ _ h => h) (v := ?_) (by kernel_rfl) hS ?_ ?_; rotate_left; (focus (intro x hx; have fx := HX.out x hx; go_simp; (try with_reducible rfl); done)); (try simp only [Act.put, lsa, lsz, lss]))
  (refine wpAnyY_takeW 5 rfl rfl (by kernel_rfl) (by kernel_rfl) (by kernel_rfl) (by kernel_rfl) (fun _ _ _ h => h) (v := ?_) (by kernel_rfl) hS ?_ ?_; rotate_left; (focus (intro x hx; have fx := HX.out x hx; go_simp; (try with_reducible rfl); done)); (try simp only [Act.put, lsa, lsz, lss]))
  (refine wpAnyY_takeW 6 rfl rfl (by kernel_rfl) (by kernel_rfl) (by kernel_rfl) (by kernel_rfl) (fun _ _ _ h => h) (v := ?_) (by kernel_rfl) hS ?_ ?_; rotate_left; (focus (intro x hx; have fx := HX.out x hx; go_simp; (try with_reducible rfl); done)); (try simp only [Act.put, lsa, lsz, lss]))
  (refine wpAnyY_takeW 7 rfl rfl (by kernel_rfl) (by kernel_rfl) (by kernel_rfl) (by kernel_rfl) (fun _ _ _ h => h) (v := ?_) (by kernel_rfl) hS ?_ ?_; rotate_left; (focus (intro x hx; have fx := HX.out x hx; go_simp; (try with_reducible rfl); done)); (try simp only [Act.put, lsa, lsz, lss]))
  (refine wpAnyY_takeW 8 rfl rfl (by kernel_rfl) (by kernel_rfl) (by kernel_rfl) (by kernel_rfl) (fun _ _ _ h => h) (v := ?_) (by kernel_rfl) hS ?_ ?_; rotate_left; (focus (intro x hx; have fx := HX.out x hx; go_simp; (try with_reducible rfl); done)); (try simp only [Act.put, lsa, lsz, lss]))
  (refine wpAnyY_takeW 9 rfl rfl (by kernel_rfl) (by kernel_rfl) (by kernel_rfl) (by kernel_rfl) (fun _ _ _ h => h) (v := ?_) (by kernel_rfl) hS ?_ ?_; rotate_left; (focus (intro x hx; have fx := HX.out x hx; go_simp; (try with_reducible rfl); done)); (try simp only [Act.put, lsa, lsz, lss]))
  have hwr : IntKind.i64.wrap (s.opn.length : Int) = (s.opn.length : Int) := IntWalk.i64_in _ (by omega)
  have hle1 : (s.opn.length : Int) ≤ (q'.oc : Int) := by omega
  (refine wpAnyY_takeW 10 rfl rfl (by kernel_rfl) (by kernel_rfl) (by kernel_rfl) (by kernel_rfl) (fun _ _ _ h => h) (v := ?_) (by kernel_rfl) hS ?_ ?_; rotate_left; (focus (intro x hx; have fx := HX.out x hx; go_simp; (try with_reducible rfl); done)); (try simp only [Act.put, lsa, lsz, lss]))
  (refine wpAnyY_takeW 11 rfl rfl (by kernel_rfl) (by kernel_rfl) (by kernel_rfl) (by kernel_rfl) (fun _ _ _ h => h) (v := ?_) (by kernel_rfl) hS ?_ ?_; rotate_left; (focus (intro x hx; have fx := HX.out x hx; go_simp; (try with_reducible rfl); done)); (try simp only [Act.put, lsa, lsz, lss]))
  (refine wpAnyY_one 12 (by kernel_rfl) rfl ?_; intro K' hK'; go_simp; refine hK'.out _ _ (fun _ => hS) ?_; clear hK' K')
  (refine wpAnyY_one 13 (by kernel_rfl) rfl ?_; intro K' hK'; go_simp; refine hK'.out _ _ (fun _ => hS) ?_; clear hK' K')
  have c7 : wE.cell? ⟨g, 7, none⟩ = some (.slice q'.oA (s.opn.length + 1) q'.oc) := HX.out _ hS
  have f7 := frz_blk hS 7
  (refine wpAnyY_one 14 (by kernel_rfl) rfl ?_; intro K' hK'; go_simp; refine hK'.out _ _ (fun h => absurd rfl h) ?_; clear hK' K'; refine wpAnyY_done (by kernel_rfl) ?_ _)
  simp only [Nat.add_sub_cancel] at HG5 HF5
  have HR2 := Lib.hid (show R = (⟨fe, fk, fs, ⟨fp, fn9⟩⟩, { s2 with opn := s2.opn.take s.opn.length }) by rw [HR.out, hl2]; rfl)
  clear c7 f7 HX hS HR
  generalize (wE.setCell ⟨g, 7, none⟩ (.slice q'.oA s.opn.length q'.oc)) = wD at *
  have x0 := (cell_blk HF5.out 0).trans rfl
  have x1 := (cell_blk HF5.out 1).trans rfl
  have x2 := (cell_blk HF5.out 2).trans rfl
  have x3 := (cell_blk HF5.out 3).trans rfl
  have x4 := (cell_blk HF5.out 4).trans rfl
  (have hzz := HG5.out.res); (unfold oFlt at hzz); (have z0 := (cell_blk hzz 0).trans rfl); (have z1 := (cell_blk hzz 1).trans rfl); (have z2 := (cell_blk hzz 2).trans rfl); (have z3 := (cell_blk hzz 3).trans rfl); (have z4 := (cell_blk hzz 4).trans rfl); (have fz0 := frz_blk hzz 0); (have fz1 := frz_blk hzz 1); (have fz2 := frz_blk hzz 2); (have fz3 := frz_blk hzz 3); (have fz4 := frz_blk hzz 4); (have HZZ := Lib.hid hzz); (clear hzz)
  go_wp2_with fail
  (have hRF := set5' _ HZZ.out 0 1 2 3 4 (.int .i64 fe) (.int .i64 fk) (.int .i64 fs) (.string ⟨fp.toArray⟩) (.int .i64 fn9)); (have q0 := (cell_blk hRF 0).trans rfl); (have q1 := (cell_blk hRF 1).trans rfl); (have q2 := (cell_blk hRF 2).trans rfl); (have q3 := (cell_blk hRF 3).trans rfl); (have q4 := (cell_blk hRF 4).trans rfl); (refine bodyPost_ret (v := .agg #[.int .i64 fe, .int .i64 fk, .int .i64 fs, .string ⟨fp.toArray⟩, .int .i64 fn9]) (by simp [results, Tryz.results61, go_sem, q0, q1, q2, q3, q4]) rfl ?_); (obtain ⟨M', q', h1, h2⟩ := HG5.out.fin (.int .i64 fe) (.int .i64 fk) (.int .i64 fs) (.string ⟨fp.toArray⟩) (.int .i64 fn9))
  exact ⟨by rw [HR2.out]; rfl, M', q', by rw [HR2.out]; exact h1, h2⟩
theorem rscan_all (t : List Fil) (B : Nat) (hT : TOk t) : ∀ d, d ≤ 24 → RGrpOk d t B ∧ RFileOk d t B := by
  intro d
  induction d with
  | zero =>
    intro h
    have := rgrp_any 0 t B (fun e he => by omega) (fun e he => by omega) hT h
    exact ⟨this, rfile_any 0 t B this⟩
  | succ d ih =>
    intro h
    obtain ⟨h1, h2⟩ := ih (by omega)
    have := rgrp_any (d + 1) t B (fun e he => by injection he with he; subst he; exact h2) (fun e he => by injection he with he; subst he; exact h1) hT h
    exact ⟨this, rfile_any (d + 1) t B this⟩
end Go.Proofs.YtpeamehplhpcjaaGreatDoor
