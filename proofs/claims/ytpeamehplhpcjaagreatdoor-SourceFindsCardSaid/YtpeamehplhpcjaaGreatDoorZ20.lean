/- A part of the proofs of the laws of one package; see the law's own text, which comes last in 'order'. No conditions of its own. -/
import Derived.Shelf.SlSortCmp.WholeK
import Derived.Ground.SlsfProg
import Derived.Test.YtpeamehplhpcjaaGreatDoorProg
import Derived.Test.YtpeamehplhpcjaaGreatDoorZ19
set_option linter.unusedVariables false
set_option linter.unusedSimpArgs false
namespace Go.Proofs.YtpeamehplhpcjaaGreatDoor
open Go.RowKit
theorem ScB.opn' {W : World} {M : Nat → Prop} {B g : Nat} {tA : Option Addr} {tn tc mf mm mh ml : Nat} {iA : Option Addr} {ic : Nat} {oA : Option Addr} {oc : Nat} {mv : List (Bs × Value)} {t : List Fil} {s : Sst} {o : Obj} {w7 : World}
    (H : ScB W M B g tA tn tc mf mm mh ml iA ic oA oc mv t s) (p : Bs) {O' : Option Addr} {d' : Nat} (ho : Own w7 (fun _ => False) B 9 O' d' (s.opn ++ [p])) (hg : (W.alloc o).grownBy w7 (oA.map Addr.block))
    (hat : O'.map Addr.block = oA.map Addr.block ∨ O'.map Addr.block = some (W.alloc o).heap.size) :
    ∃ M', ScW (w7.setCell ⟨g, 6, none⟩ (.slice O' (s.opn.length + 1) d')) M' B g t { s with opn := s.opn ++ [p] } ∧ ScOut W M (w7.setCell ⟨g, 6, none⟩ (.slice O' (s.opn.length + 1) d')) M' := by
  have hM := H.own g (.inl rfl)
  have hlt := H.lt g hM
  have hat' : O'.map Addr.block = oA.map Addr.block ∨ ∃ q, O'.map Addr.block = some q ∧ W.heap.size ≤ q := hat.imp id fun h => ⟨_, h, by simp⟩
  have hsc7 := grownBlk hg (blkOld H.cells o) (fun e => (H.difo g e).1 rfl)
  obtain ⟨M', h1, h2⟩ := H.opened (s.opn ++ [p]) (W' := w7.setCell ⟨g, 6, none⟩ (.slice O' (s.opn.length + 1) d')) (by simpa [scC] using Blk.set _ hsc7 6 (.slice O' (s.opn.length + 1) d'))
    (ho.keep fun k _ hk => set_other _ _ _ _ _ (fun e => by
      subst e
      rcases hk with hk | hk
      · exact hk
      · rcases hat' with h | ⟨q, h, hq⟩
        · exact (H.difo k (h ▸ hk)).1 rfl
        · rw [h] at hk; injection hk with hk; omega))
    ((((Frm.refl _ W).alloc o).grown hg (fun k e _ => .inr e)).setCell (p := ⟨g, 6, none⟩) (fun _ => .inl rfl) _) hat'
  exact ⟨M', ⟨_, _, _, _, _, _, _, _, _, _, _, _, h1⟩, h2⟩
theorem ScB.shut {W : World} {M : Nat → Prop} {B g : Nat} {tA : Option Addr} {tn tc mf mm mh ml : Nat} {iA : Option Addr} {ic : Nat} {oA : Option Addr} {oc : Nat} {mv : List (Bs × Value)} {t : List Fil} {s : Sst}
    (H : ScB W M B g tA tn tc mf mm mh ml iA ic oA oc mv t s) (k : Nat) (hk : k ≤ s.opn.length) :
    ∃ M', ScW (W.setCell ⟨g, 6, none⟩ (.slice oA k oc)) M' B g t { s with opn := s.opn.take k } ∧ ScOut W M (W.setCell ⟨g, 6, none⟩ (.slice oA k oc)) M' := by
  have hl : (s.opn.take k).length = k := by rw [List.length_take]; omega
  obtain ⟨M', h1, h2⟩ := H.opened (s.opn.take k) (W' := W.setCell ⟨g, 6, none⟩ (.slice oA k oc)) (O' := oA) (d' := oc) (by simpa [scC, Nat.min_eq_left hk] using Blk.set _ H.cells 6 (.slice oA k oc))
    ((H.opn.take k).keep fun j _ hj => set_other _ _ _ _ _ (fun e => by
      subst e
      rcases hj with hj | hj
      · exact hj
      · exact (H.difo j hj).1 rfl))
    ((Frm.refl _ W).setCell (p := ⟨g, 6, none⟩) (fun _ => .inl rfl) _) (.inl rfl)
  exact ⟨M', ⟨_, _, _, _, _, _, _, _, _, _, _, _, h1⟩, h2⟩
set_option maxRecDepth 100000 in
set_option maxHeartbeats 8000000 in
theorem file_any (d : Nat) (t : List Fil) (B : Nat) (hgr : GrpOk d t B) (hB : gMx < B) : FileOk d t B := by
  intro W M g s p A n c l H hst hop hL hp hl hlo
  obtain ⟨R, hR⟩ : ∃ R, R = fileS (groupS t d) p l s := ⟨_, rfl⟩
  rw [← hR]
  unfold fileS at hR
  simp only at hR
  have hkp := keep_group t d p l 0 l.length { s with files := setM s.files p true, opn := s.opn ++ [p] } ⟨hst.it, hst.ma, hst.co⟩
  have hgrp := fun W' M' h1 h2 h3 => hgr W' M' g { s with files := setM s.files p true, opn := s.opn ++ [p] } p A n c l 0 l.length h1 ⟨hst.it, hst.ma, hst.co⟩ (by simp; omega) h2 hp h3 hlo (Nat.zero_le _) (Nat.le_refl _)
  rw [show ((0 : Nat) : Int) = 0 from rfl] at hgrp
  generalize groupS t d p l 0 l.length { s with files := setM s.files p true, opn := s.opn ++ [p] } = Y at *
  obtain ⟨ok, s2⟩ := Y
  simp only at hR
  have hop2 : s2.opn = s.opn ++ [p] := hkp.2.1
  obtain ⟨D, hD⟩ : ∃ D : Int, D = 24 - (d : Int) := ⟨_, rfl⟩
  rw [← hD] at hgrp ⊢
  have hln := hl.len
  subst hln
  have hle := hl.le
  have HR := Lib.hid hR; have HL := Lib.hid hL; have HLI := Lib.hid hl; have HG := Lib.hid hgrp; have HOP := Lib.hid hop2; have HH := Lib.hid H
  have hpk : TS.ok p := by show p.length ≤ 9223372036854775807; omega
  obtain ⟨tA, tn, tc, mf, mm, mh, ml, iA, ic, oA, oc, mv, H⟩ := H
  have hcs := H.cells
  unfold scC at hcs
  have c5 := (cell_blk hcs 5).trans rfl
  have H0 := Lib.hid H
  have hol : s.opn.length ≤ 24 := by omega
  clear hR hL hl hgrp hop2 hkp H hcs hD
  go_enter Tryz.func47, Tryz.ntmps47
  go_upto_region 2 with (at_mapUpdate; go_loud (refine wpList_updV rfl _ _ _ rfl Tryz.underlying92 rfl p rfl (.bool true) rfl H0.out.files hpk ?_); intro w1 hm1 hg1; have HM1 := Lib.hid hm1; have HG1 := Lib.hid hg1; clear hm1 hg1)
  obtain ⟨h11, h12⟩ := H0.out.opens HM1.out HG1.out
  have hcs1 := h11.cells
  unfold scC at hcs1
  have c6 := (cell_blk hcs1 6).trans rfl
  have H1 := Lib.hid h11; have HO1 := Lib.hid h12; have HC1 := Lib.hid hcs1
  have hB1 : B ≤ w1.heap.size := by have := H1.out.lt g (H1.out.own g (.inl rfl)); have := H1.out.old g (H1.out.own g (.inl rfl)); omega
  clear h11 h12 c5 hcs1 HM1 HG1 H0
  go_upto_region 3 with (at_builtin; go_loud (refine wpList_app1 rfl _ _ eltStr rfl (by decide) rfl rfl rfl (H1.out.opn.alloc _) rfl [.string ⟨p.toArray⟩] p (blkAt _ _ rfl) rfl rfl (by show s.opn.length + 1 ≤ _; omega) (by show (s.opn.length + 1) * 16 ≤ _; omega) (by simp; omega) ?_); intro A' c' w2 hown' hg2 hat; have hb2 := grownBlk hg2 (blkOld HC1.out _) (fun e => (H1.out.difo g e).1 rfl); have z6 := (cell_blk hb2 6).trans rfl; have f6 := frz_blk hb2 6; have HOW := Lib.hid hown'; have HG2 := Lib.hid hg2; have HAT := Lib.hid hat; clear hown' hg2 hat hb2)
  obtain ⟨M3, h31, h32⟩ := H1.out.opn' p HOW.out HG2.out HAT.out
  have hS3 : Sl (w2.setCell ⟨g, 6, none⟩ (.slice A' (s.opn.length + 1) c')) (fun k => ¬ M3 k) A l.length c l := (HO1.out.trans h32).slN HLI.out (by decide)
  have HW3 := Lib.hid h31; have HO3 := Lib.hid (HO1.out.trans h32); have HS3 := Lib.hid hS3
  have hL3 := HL.out.out hB (fun j hj => (HH.out.old j hj).1) HO3.out
  clear h31 h32 hS3 z6 f6 HOW HG2 HAT HC1 H1 HO1 c6
  simp only at HW3 HO3 HS3 hL3
  generalize (w2.setCell ⟨g, 6, none⟩ (.slice A' (s.opn.length + 1) c')) = W3 at *
  have hg3 := HG.out W3 M3 HW3.out hL3 HS3.out
  have HG3 := Lib.hid hg3
  clear hg3 hL3 HG HS3
  go_wp2_with fail
  refine HG3.out.mono ?_
  rintro e w4 ⟨rfl, M4, hs4, ho4⟩
  simp only at hs4
  have HO4 := Lib.hid (HO3.out.trans ho4)
  clear ho4 HG3 HW3 HO3
  obtain ⟨uA, un, uc, nf, nm, nh, nl, jA, jc, qA, qc, nv, H4⟩ := hs4
  have hl2 : s2.opn.length = s.opn.length + 1 := by rw [HOP.out]; simp
  have hcap := H4.opn.cap
  have H4d := Lib.hid (H4.below (Below.refl _ _).drew)
  have hsd := H4d.out.shut (s2.opn.length - 1) (by omega)
  have HSD := Lib.hid hsd; have HOD := Lib.hid (HO4.out.trans (ScOut.below M4 (Below.refl _ _).drew))
  have hc4 := H4d.out.cells
  clear hsd H4 HO4 H4d
  go_upto_region 4 with fail
  refine wpY_region (fun z => z.heap[g]? = some (.cells (scC uA un uc nf nm jA jc nh nl qA qc s2) 96 (0, 0))) 14 (by kernel_rfl) ?_
  have hS := hc4
  have HX := Lib.hid (fun (z : World) (hz : z.heap[g]? = some (.cells (scC uA un uc nf nm jA jc nh nl qA qc s2) 96 (0, 0))) => (show z.cell? ⟨g, 6, none⟩ = some (.slice qA s2.opn.length qc) from (cell_blk hz 6).trans rfl))
  rw [hl2] at HX HSD hcap
  (refine wpAnyY_takeW 0 rfl rfl (by kernel_rfl) (by kernel_rfl) (by kernel_rfl) (by kernel_rfl) (fun _ _ _ h => h) (v := ?_) (by kernel_rfl) hS ?_ ?_; rotate_left; (focus (intro x hx; have fx := HX.out x hx; go_simp; (try with_reducible rfl); done)); (try simp only [Act.put, lsa, lsz, lss]))
  (refine wpAnyY_takeW 1 rfl rfl (by kernel_rfl) (by kernel_rfl) (by kernel_rfl) (by kernel_rfl) (fun _ _ _ h => h) (v := ?_) (by kernel_rfl) hS ?_ ?_; rotate_left; (focus (intro x hx; have fx := HX.out x hx; go_simp; (try with_reducible rfl); done)); (try simp only [Act.put, lsa, lsz, lss]))
  (refine wpAnyY_takeW 2 rfl rfl (by kernel_rfl) (by kernel_rfl) (by kernel_rfl) (by kernel_rfl) (fun _ _ _ h => h) (v := ?_) (by kernel_rfl) hS ?_ ?_; rotate_left; (focus (intro x hx; have fx := HX.out x hx; go_simp; (try with_reducible rfl); done)); (try simp only [Act.put, lsa, lsz, lss]))
  (refine wpAnyY_takeW 3 rfl rfl (by kernel_rfl) (by kernel_rfl) (by kernel_rfl) (by kernel_rfl) (fun _ _ _ h => h) (v := ?_) (by kernel_rfl) hS ?_ ?_; rotate_left; (focus (intro x hx; have fx := HX.out x hx; go_simp; (try with_reducible rfl); done)); (try simp only [Act.put, lsa, lsz, lss]))
  (refine wpAnyY_takeW 4 rfl rfl (by kernel_rfl) (by kernel_rfl) (by kernel_rfl) (by kernel_rfl) (fun _ _ _ h => h) (v := ?_) (by kernel_rfl) hS ?_ ?_; rotate_left; (focus (intro x hx; have fx := HX.out x hx; go_simp; (try with_reducible rfl); done)); (try simp only [Act.put, lsa, lsz, lss]))
  (refine wpAnyY_takeW 5 rfl rfl (by kernel_rfl) (by kernel_rfl) (by kernel_rfl) (by kernel_rfl) (fun _ _ _ h => h) (v := ?_) (by kernel_rfl) hS ?_ ?_; rotate_left; (focus (intro x hx; have fx := HX.out x hx; go_simp; (try with_reducible rfl); done)); (try simp only [Act.put, lsa, lsz, lss]))
  (refine wpAnyY_takeW 6 rfl rfl (by kernel_rfl) (by kernel_rfl) (by kernel_rfl) (by kernel_rfl) (fun _ _ _ h => h) (v := ?_) (by kernel_rfl) hS ?_ ?_; rotate_left; (focus (intro x hx; have fx := HX.out x hx; go_simp; (try with_reducible rfl); done)); (try simp only [Act.put, lsa, lsz, lss]))
  (refine wpAnyY_takeW 7 rfl rfl (by kernel_rfl) (by kernel_rfl) (by kernel_rfl) (by kernel_rfl) (fun _ _ _ h => h) (v := ?_) (by kernel_rfl) hS ?_ ?_; rotate_left; (focus (intro x hx; have fx := HX.out x hx; go_simp; (try with_reducible rfl); done)); (try simp only [Act.put, lsa, lsz, lss]))
  (refine wpAnyY_takeW 8 rfl rfl (by kernel_rfl) (by kernel_rfl) (by kernel_rfl) (by kernel_rfl) (fun _ _ _ h => h) (v := ?_) (by kernel_rfl) hS ?_ ?_; rotate_left; (focus (intro x hx; have fx := HX.out x hx; go_simp; (try with_reducible rfl); done)); (try simp only [Act.put, lsa, lsz, lss]))
  (refine wpAnyY_takeW 9 rfl rfl (by kernel_rfl) (by kernel_rfl) (by kernel_rfl) (by kernel_rfl) (fun _ _ _ h => h) (v := ?_) (by kernel_rfl) hS ?_ ?_; rotate_left; (focus (intro x hx; have fx := HX.out x hx; go_simp; (try with_reducible rfl); done)); (try simp only [Act.put, lsa, lsz, lss]))
  (refine wpAnyY_takeW 10 rfl rfl (by kernel_rfl) (by kernel_rfl) (by kernel_rfl) (by kernel_rfl) (fun _ _ _ h => h) (v := ?_) (by kernel_rfl) hS ?_ ?_; rotate_left; (focus (intro x hx; have fx := HX.out x hx; go_simp; (try with_reducible rfl); done)); (try simp only [Act.put, lsa, lsz, lss]))
  have hwr : IntKind.i64.wrap (s.opn.length : Int) = (s.opn.length : Int) := IntWalk.i64_in _ (by omega)
  have hle1 : (s.opn.length : Int) ≤ (qc : Int) := by omega
  (refine wpAnyY_takeW 11 rfl rfl (by kernel_rfl) (by kernel_rfl) (by kernel_rfl) (by kernel_rfl) (fun _ _ _ h => h) (v := ?_) (by kernel_rfl) hS ?_ ?_; rotate_left; (focus (intro x hx; have fx := HX.out x hx; go_simp; (try with_reducible rfl); done)); (try simp only [Act.put, lsa, lsz, lss]))
  (refine wpAnyY_one 12 (by kernel_rfl) rfl ?_; intro K' hK'; go_simp; refine hK'.out _ _ (fun _ => hS) ?_; clear hK' K')
  (refine wpAnyY_one 13 (by kernel_rfl) rfl ?_; intro K' hK'; go_simp; refine hK'.out _ _ (fun _ => hS) ?_; clear hK' K')
  have c6 : w4.drew.cell? ⟨g, 6, none⟩ = some (.slice qA (s.opn.length + 1) qc) := HX.out _ hS
  have f6 := frz_blk hS 6
  (refine wpAnyY_one 14 (by kernel_rfl) rfl ?_; intro K' hK'; go_simp; refine hK'.out _ _ (fun h => absurd rfl h) ?_; clear hK' K'; refine wpAnyY_done (by kernel_rfl) ?_ _)
  go_wp2_with fail
  go_ret
  obtain ⟨M5, h51, h52⟩ := HSD.out
  have hR2 : R = (ok, { s2 with opn := s2.opn.take (s.opn.length + 1 - 1) }) := by rw [HR.out, hl2]
  exact ⟨by rw [hR2]; rfl, M5, by rw [hR2]; exact h51, HOD.out.trans h52⟩
theorem scan_all (t : List Fil) (B : Nat) (hT : TOk t) (hB : gMx < B) : ∀ d, d ≤ 24 → GrpOk d t B ∧ FileOk d t B := by
  intro d
  induction d with
  | zero =>
    intro h
    have := grp_any 0 t B (fun e he => by omega) (fun e he => by omega) hT hB h
    exact ⟨this, file_any 0 t B this hB⟩
  | succ d ih =>
    intro h
    obtain ⟨h1, h2⟩ := ih (by omega)
    have := grp_any (d + 1) t B (fun e he => by injection he with he; subst he; exact h2) (fun e he => by injection he with he; subst he; exact h1) hT hB h
    exact ⟨this, file_any (d + 1) t B this hB⟩
end Go.Proofs.YtpeamehplhpcjaaGreatDoor
namespace Go.Proofs
open Go.Shelf
def Tryz.sortT50_ren : Go.Shelf.Ren := ⟨fun | 6 => 50 | 15 => 91 | 14 => 92 | 28 => 124 | 29 => 125 | 20 => 126 | 21 => 127 | 22 => 128 | 23 => 129 | 24 => 130 | 25 => 131 | 26 => 132 | 27 => 133 | 46 => 171 | 47 => 167 | 48 => 168 | 49 => 172 | 50 => 173 | 57 => 201 | n => n, fun | 22 => 31 | 24 => 63 | 25 => 101 | 3 => 3 | 39 => 130 | 0 => 0 | 53 => 154 | 55 => 156 | 4 => 4 | 46 => 147 | 45 => 146 | 50 => 151 | 5 => 5 | 9 => 9 | 66 => 185 | 70 => 189 | 76 => 216 | 77 => 217 | n => n, fun | n => n⟩
theorem Tryz.sortT50 : Go.Proofs.SlLaysF0.n6 Tryz.prog Tryz.sortT50_ren := {
  mixed := by kernel_rfl
  f6 := ⟨Tryz.f50.name, by decide, Tryz.func50.trans (congrArg some (by kernel_rfl))⟩
  f14 := ⟨Tryz.f92.name, by decide, Tryz.func92.trans (congrArg some (by kernel_rfl))⟩
  f15 := Tryz.func91.trans (congrArg some (by kernel_rfl))
  f20 := ⟨Tryz.f126.name, by decide, Tryz.func126.trans (congrArg some (by kernel_rfl))⟩
  f21 := ⟨Tryz.f127.name, by decide, Tryz.func127.trans (congrArg some (by kernel_rfl))⟩
  f22 := ⟨Tryz.f128.name, by decide, Tryz.func128.trans (congrArg some (by kernel_rfl))⟩
  f23 := ⟨Tryz.f129.name, by decide, Tryz.func129.trans (congrArg some (by kernel_rfl))⟩
  f24 := ⟨Tryz.f130.name, by decide, Tryz.func130.trans (congrArg some (by kernel_rfl))⟩
  f25 := ⟨Tryz.f131.name, by decide, Tryz.func131.trans (congrArg some (by kernel_rfl))⟩
  f26 := ⟨Tryz.f132.name, by decide, Tryz.func132.trans (congrArg some (by kernel_rfl))⟩
  f27 := ⟨Tryz.f133.name, by decide, Tryz.func133.trans (congrArg some (by kernel_rfl))⟩
  f28 := Tryz.func124.trans (congrArg some (by kernel_rfl))
  f29 := Tryz.func125.trans (congrArg some (by kernel_rfl))
  f46 := ⟨Tryz.f171.name, by decide, Tryz.func171.trans (congrArg some (by kernel_rfl))⟩
  f47 := Tryz.func167.trans (congrArg some (by kernel_rfl))
  f48 := Tryz.func168.trans (congrArg some (by kernel_rfl))
  f49 := ⟨Tryz.f172.name, by decide, Tryz.func172.trans (congrArg some (by kernel_rfl))⟩
  f50 := ⟨Tryz.f173.name, by decide, Tryz.func173.trans (congrArg some (by kernel_rfl))⟩
  f57 := ⟨Tryz.f201.name, by decide, Tryz.func201.trans (congrArg some (by kernel_rfl))⟩
  t0 := Tryz.underlying0
  a0 := Tryz.isAgg0
  z0 := Tryz.sizeOf0
  v0 := Tryz.zeroValue0
  t3 := Tryz.underlying3
  a3 := Tryz.isAgg3
  z3 := Tryz.sizeOf3
  v3 := Tryz.zeroValue3
  t4 := Tryz.underlying4
  a4 := Tryz.isAgg4
  z4 := Tryz.sizeOf4
  v4 := Tryz.zeroValue4
  t5 := Tryz.underlying5
  a5 := Tryz.isAgg5
  z5 := Tryz.sizeOf5
  v5 := Tryz.zeroValue5
  t9 := Tryz.underlying9
  a9 := Tryz.isAgg9
  z9 := Tryz.sizeOf9
  v9 := Tryz.zeroValue9
  t22 := Tryz.underlying31
  a22 := Tryz.isAgg31
  z22 := Tryz.sizeOf31
  v22 := Tryz.zeroValue31
  t25 := Tryz.underlying101
  a25 := Tryz.isAgg101
  z25 := Tryz.sizeOf101
  v25 := Tryz.zeroValue101
  t39 := Tryz.underlying130
  a39 := Tryz.isAgg130
  z39 := Tryz.sizeOf130
  v39 := Tryz.zeroValue130
  t45 := Tryz.underlying146
  a45 := Tryz.isAgg146
  z45 := Tryz.sizeOf146
  v45 := Tryz.zeroValue146
  t46 := Tryz.underlying147
  a46 := Tryz.isAgg147
  z46 := Tryz.sizeOf147
  v46 := Tryz.zeroValue147
  t50 := Tryz.underlying151
  a50 := Tryz.isAgg151
  z50 := Tryz.sizeOf151
  v50 := Tryz.zeroValue151
  t53 := Tryz.underlying154
  a53 := Tryz.isAgg154
  z53 := Tryz.sizeOf154
  v53 := Tryz.zeroValue154
  t55 := Tryz.underlying156
  a55 := Tryz.isAgg156
  z55 := Tryz.sizeOf156
  v55 := Tryz.zeroValue156
  t66 := Tryz.underlying185
  a66 := Tryz.isAgg185
  z66 := Tryz.sizeOf185
  v66 := Tryz.zeroValue185
  t70 := Tryz.underlying189
  a70 := Tryz.isAgg189
  z70 := Tryz.sizeOf189
  v70 := Tryz.zeroValue189
  t76 := Tryz.underlying216
  a76 := Tryz.isAgg216
  z76 := Tryz.sizeOf216
  v76 := Tryz.zeroValue216
  t77 := Tryz.underlying217
  a77 := Tryz.isAgg217
  z77 := Tryz.sizeOf217
  v77 := Tryz.zeroValue217 }
def Tryz.sortT88_ren : Go.Shelf.Ren := ⟨fun | 6 => 88 | 15 => 91 | 14 => 115 | 28 => 124 | 29 => 125 | 20 => 158 | 21 => 159 | 22 => 160 | 23 => 161 | 24 => 162 | 25 => 163 | 26 => 164 | 27 => 165 | 46 => 197 | 47 => 167 | 48 => 168 | 49 => 198 | 50 => 199 | 57 => 214 | n => n, fun | 22 => 125 | 24 => 38 | 25 => 127 | 3 => 3 | 39 => 130 | 0 => 0 | 53 => 154 | 55 => 156 | 4 => 4 | 46 => 147 | 45 => 146 | 50 => 151 | 5 => 5 | 9 => 9 | 66 => 185 | 70 => 189 | 76 => 216 | 77 => 217 | n => n, fun | n => n⟩
theorem Tryz.sortT88 : Go.Proofs.SlLaysF0.n6 Tryz.prog Tryz.sortT88_ren := {
  mixed := by kernel_rfl
  f6 := ⟨Tryz.f88.name, by decide, Tryz.func88.trans (congrArg some (by kernel_rfl))⟩
  f14 := ⟨Tryz.f115.name, by decide, Tryz.func115.trans (congrArg some (by kernel_rfl))⟩
  f15 := Tryz.func91.trans (congrArg some (by kernel_rfl))
  f20 := ⟨Tryz.f158.name, by decide, Tryz.func158.trans (congrArg some (by kernel_rfl))⟩
  f21 := ⟨Tryz.f159.name, by decide, Tryz.func159.trans (congrArg some (by kernel_rfl))⟩
  f22 := ⟨Tryz.f160.name, by decide, Tryz.func160.trans (congrArg some (by kernel_rfl))⟩
  f23 := ⟨Tryz.f161.name, by decide, Tryz.func161.trans (congrArg some (by kernel_rfl))⟩
  f24 := ⟨Tryz.f162.name, by decide, Tryz.func162.trans (congrArg some (by kernel_rfl))⟩
  f25 := ⟨Tryz.f163.name, by decide, Tryz.func163.trans (congrArg some (by kernel_rfl))⟩
  f26 := ⟨Tryz.f164.name, by decide, Tryz.func164.trans (congrArg some (by kernel_rfl))⟩
  f27 := ⟨Tryz.f165.name, by decide, Tryz.func165.trans (congrArg some (by kernel_rfl))⟩
  f28 := Tryz.func124.trans (congrArg some (by kernel_rfl))
  f29 := Tryz.func125.trans (congrArg some (by kernel_rfl))
  f46 := ⟨Tryz.f197.name, by decide, Tryz.func197.trans (congrArg some (by kernel_rfl))⟩
  f47 := Tryz.func167.trans (congrArg some (by kernel_rfl))
  f48 := Tryz.func168.trans (congrArg some (by kernel_rfl))
  f49 := ⟨Tryz.f198.name, by decide, Tryz.func198.trans (congrArg some (by kernel_rfl))⟩
  f50 := ⟨Tryz.f199.name, by decide, Tryz.func199.trans (congrArg some (by kernel_rfl))⟩
  f57 := ⟨Tryz.f214.name, by decide, Tryz.func214.trans (congrArg some (by kernel_rfl))⟩
  t0 := Tryz.underlying0
  a0 := Tryz.isAgg0
  z0 := Tryz.sizeOf0
  v0 := Tryz.zeroValue0
  t3 := Tryz.underlying3
  a3 := Tryz.isAgg3
  z3 := Tryz.sizeOf3
  v3 := Tryz.zeroValue3
  t4 := Tryz.underlying4
  a4 := Tryz.isAgg4
  z4 := Tryz.sizeOf4
  v4 := Tryz.zeroValue4
  t5 := Tryz.underlying5
  a5 := Tryz.isAgg5
  z5 := Tryz.sizeOf5
  v5 := Tryz.zeroValue5
  t9 := Tryz.underlying9
  a9 := Tryz.isAgg9
  z9 := Tryz.sizeOf9
  v9 := Tryz.zeroValue9
  t22 := Tryz.underlying125
  a22 := Tryz.isAgg125
  z22 := Tryz.sizeOf125
  v22 := Tryz.zeroValue125
  t25 := Tryz.underlying127
  a25 := Tryz.isAgg127
  z25 := Tryz.sizeOf127
  v25 := Tryz.zeroValue127
  t39 := Tryz.underlying130
  a39 := Tryz.isAgg130
  z39 := Tryz.sizeOf130
  v39 := Tryz.zeroValue130
  t45 := Tryz.underlying146
  a45 := Tryz.isAgg146
  z45 := Tryz.sizeOf146
  v45 := Tryz.zeroValue146
  t46 := Tryz.underlying147
  a46 := Tryz.isAgg147
  z46 := Tryz.sizeOf147
  v46 := Tryz.zeroValue147
  t50 := Tryz.underlying151
  a50 := Tryz.isAgg151
  z50 := Tryz.sizeOf151
  v50 := Tryz.zeroValue151
  t53 := Tryz.underlying154
  a53 := Tryz.isAgg154
  z53 := Tryz.sizeOf154
  v53 := Tryz.zeroValue154
  t55 := Tryz.underlying156
  a55 := Tryz.isAgg156
  z55 := Tryz.sizeOf156
  v55 := Tryz.zeroValue156
  t66 := Tryz.underlying185
  a66 := Tryz.isAgg185
  z66 := Tryz.sizeOf185
  v66 := Tryz.zeroValue185
  t70 := Tryz.underlying189
  a70 := Tryz.isAgg189
  z70 := Tryz.sizeOf189
  v70 := Tryz.zeroValue189
  t76 := Tryz.underlying216
  a76 := Tryz.isAgg216
  z76 := Tryz.sizeOf216
  v76 := Tryz.zeroValue216
  t77 := Tryz.underlying217
  a77 := Tryz.isAgg217
  z77 := Tryz.sizeOf217
  v77 := Tryz.zeroValue217 }
end Go.Proofs
