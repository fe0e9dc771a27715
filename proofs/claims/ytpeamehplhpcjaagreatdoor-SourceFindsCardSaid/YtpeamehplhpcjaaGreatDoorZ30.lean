/- A part of the proofs of the laws of one package; see the law's own text, which comes last in 'order'. No conditions of its own. -/
import Derived.Test.YtpeamehplhpcjaaGreatDoorZ13
import Derived.Test.YtpeamehplhpcjaaGreatDoorZ29
set_option linter.unusedVariables false
set_option linter.unusedSimpArgs false
namespace Go.Proofs.YtpeamehplhpcjaaGreatDoor
open Go.RowKit
structure RiA (W : World) (g q : Nat) (cs : Array Value) (x : Itm) (A : Option Addr) (n c : Nat) : Prop where
  sc : W.heap[g]? = some (.cells cs 106 (0, 0))
  it : W.heap[q]? = some (.cells #[.string ⟨x.name.toArray⟩, .int .i64 x.kind, .int .i64 x.mode, .slice A n c, .string ⟨x.body.path.toArray⟩, .int .i64 x.body.fr, .int .i64 x.body.tu] 48 (0, 0))
theorem RiA.facts {W : World} {g q : Nat} {cs : Array Value} {x : Itm} {A : Option Addr} {n c : Nat} (h : RiA W g q cs x A n c) {v : Value} (h4 : cs[4]? = some v) : W.cell? ⟨g, 4, none⟩ = some v ∧ W.cell? ⟨q, 0, none⟩ = some (.string ⟨x.name.toArray⟩) ∧ W.cell? ⟨q, 1, none⟩ = some (.int .i64 x.kind) ∧ W.cell? ⟨q, 2, none⟩ = some (.int .i64 x.mode) ∧ W.cell? ⟨q, 3, none⟩ = some (.slice A n c) ∧
    W.cell? ⟨q, 4, none⟩ = some (.string ⟨x.body.path.toArray⟩) ∧ W.cell? ⟨q, 5, none⟩ = some (.int .i64 x.body.fr) ∧ W.cell? ⟨q, 6, none⟩ = some (.int .i64 x.body.tu) ∧ W.frozen? ⟨g, 4, none⟩ = false :=
  ⟨(cell_blk h.sc 4).trans h4, (cell_blk h.it 0).trans rfl, (cell_blk h.it 1).trans rfl, (cell_blk h.it 2).trans rfl, (cell_blk h.it 3).trans rfl, (cell_blk h.it 4).trans rfl, (cell_blk h.it 5).trans rfl, (cell_blk h.it 6).trans rfl, frz_blk h.sc 4⟩
theorem RcB.app' {W : World} {M : Nat → Prop} {B g : Nat} {q : RcP} {t : List Fil} {p : Bs} {s : Rst} {o : Obj} {w7 : World}
    (H : RcB W M B g q t p s) (x : Itm) {A' : Option Addr} {c' : Nat} (ho : Own w7 (fun k => ¬ M k) B 48 A' c' (s.items ++ [x])) (hg : (W.drew.alloc o).grownBy w7 (q.iA.map Addr.block))
    (hat : A'.map Addr.block = q.iA.map Addr.block ∨ A'.map Addr.block = some (W.drew.alloc o).heap.size) :
    ∃ M' q', RcB (w7.setCell ⟨g, 4, none⟩ (.slice A' (s.items.length + 1) c')) M' B g q' t p { s with items := s.items ++ [x] } ∧ RcT W M g q (w7.setCell ⟨g, 4, none⟩ (.slice A' (s.items.length + 1) c')) M' q' := by
  have hM := H.own g (.inl rfl)
  have hlt := H.lt g hM
  have hat' : A'.map Addr.block = q.iA.map Addr.block ∨ ∃ z, A'.map Addr.block = some z ∧ W.heap.size ≤ z := hat.imp id fun h => ⟨_, h, by simp⟩
  have hsc := H.cells
  have hsc7 := grownBlk hg (blkOld (blkDrw hsc) o) (fun e => (H.difi g e).1 rfl)
  obtain ⟨M', h1, h2⟩ := H.app x (W' := w7.setCell ⟨g, 4, none⟩ (.slice A' (s.items.length + 1) c')) (by simpa [rcC] using Blk.set _ hsc7 4 (.slice A' (s.items.length + 1) c'))
    (ho.keep fun k _ hk => set_other _ _ _ _ _ (fun e => by
      subst e
      rcases hk with hk | hk
      · exact hk hM
      · rcases hat' with h | ⟨z, h, hq⟩
        · exact (H.difi k (h ▸ hk)).1 rfl
        · rw [h] at hk; injection hk with hk; omega))
    (((((Frm.refl _ W).drew).alloc o).grown hg (fun k e _ => .inr e)).setCell (p := ⟨g, 4, none⟩) (fun _ => .inl rfl) _) hat'
  exact ⟨M', _, h1, h2⟩
set_option maxRecDepth 100000 in
set_option maxHeartbeats 2000000 in
theorem ritem_any (W : World) (M : Nat → Prop) (B g : Nat) (t : List Fil) (p : Bs) (s : Rst) (q : RcP) (H : RcB W M B g q t p s) (x : Itm) (A0 : Option Addr) (n0 e0 : Nat) (hp0 : Sl W (fun k => ¬ M k) A0 n0 e0 x.params) :
    Calls Tryz.prog 143 #[.pointer (some ⟨g, 0, none⟩), .agg #[.string ⟨x.name.toArray⟩, .int .i64 x.kind, .int .i64 x.mode, .slice A0 n0 e0, .string ⟨x.body.path.toArray⟩, .int .i64 x.body.fr, .int .i64 x.body.tu]] W fun e w' => RcR W M B g q t p (.int .i64 (ritem s x).2) (ritem s x).1 e w' := by
  have hg := H.lt g (H.own g (.inl rfl))
  obtain ⟨V, hV⟩ : ∃ V, V = ritem s x := ⟨_, rfl⟩
  rw [← hV]
  unfold ritem at hV
  have HH := Lib.hid H; have HP0 := Lib.hid hp0; have HV := Lib.hid hV
  have hcc := H.cells
  have hit := H.items.sl (by decide)
  unfold rcC at hcc
  have hfi := fun w1 (hb : Below W.heap.size W w1) => rfind_any p q.fA q.fn q.fc q.mA q.mn q.mc q.iA s.items.length q.ic q.hA q.hn q.hc q.lA q.ln q.lc s.items w1 _ (hit.below hb) x.name
  have hsome : (s.items.find? (fun y => y.name == x.name)).isSome = s.items.any (fun y => y.name == x.name) := by
    rw [Bool.eq_iff_iff, List.find?_isSome, List.any_eq_true]
  generalize s.items.find? (fun y => y.name == x.name) = fo at *
  have HC := Lib.hid hcc; have HFI := Lib.hid hfi; have HSO := Lib.hid hsome
  clear hcc hfi hsome H hp0 hV hit
  go_enter Tryz.func143, Tryz.ntmps143
  go_upto_region 1 with fail
  have hb0 : Below W.heap.size W (W.alloc (.cells #[.string ⟨x.name.toArray⟩, .int .i64 x.kind, .int .i64 x.mode, .slice A0 n0 e0, .string ⟨x.body.path.toArray⟩, .int .i64 x.body.fr, .int .i64 x.body.tu] 48)) := boxed
  have hg0 := blkAt W (.cells #[.string ⟨x.name.toArray⟩, .int .i64 x.kind, .int .i64 x.mode, .slice A0 n0 e0, .string ⟨x.body.path.toArray⟩, .int .i64 x.body.fr, .int .i64 x.body.tu] 48) rfl
  generalize (W.alloc (.cells #[.string ⟨x.name.toArray⟩, .int .i64 x.kind, .int .i64 x.mode, .slice A0 n0 e0, .string ⟨x.body.path.toArray⟩, .int .i64 x.body.fr, .int .i64 x.body.tu] 48)) = W0 at *
  have HB0 := Lib.hid hb0; have HG0 := Lib.hid hg0; have HC0 := Lib.hid (keptBlk hb0 HC.out)
  have hgW := (Array.getElem?_eq_some_iff.1 hg0).1
  clear hb0 hg0
  go_cut [6] from 8 to 17 (fun xa wx => xa = .bool fo.isSome ∧ Below W0.heap.size W0 wx)
  case first =>
    have HX := Lib.hid (fun (z : World) (hz : Below W0.heap.size W0 z) => And.intro ((cell_blk (keptBlk hz HC0.out) 1).trans rfl) (And.intro ((cell_blk (keptBlk hz HC0.out) 2).trans rfl) (And.intro ((cell_blk (keptBlk hz HC0.out) 3).trans rfl) (And.intro ((cell_blk (keptBlk hz HC0.out) 4).trans rfl) (And.intro ((cell_blk (keptBlk hz HC0.out) 5).trans rfl) (And.intro ((cell_blk (keptBlk hz HC0.out) 6).trans rfl) ((cell_blk (keptBlk hz HG0.out) 0).trans rfl)))))))
    refine wpH_region (fun z => Below W0.heap.size W0 z) (by kernel_rfl) ?_
    have hS : Below W0.heap.size W0 W0.drew := (Below.refl _ _).drew
    (refine tkW 0 (v := ?_) hS ?_ ?_; rotate_left; (focus (intro x hx; have fx := HX.out x hx; go_simp; (try with_reducible rfl); done)); (try simp only [Act.put, lsa, lsz, lss]))
    (refine tkW 1 (v := ?_) hS ?_ ?_; rotate_left; (focus (intro x hx; have fx := HX.out x hx; go_simp; (try with_reducible rfl); done)); (try simp only [Act.put, lsa, lsz, lss]))
    (refine tkW 2 (v := ?_) hS ?_ ?_; rotate_left; (focus (intro x hx; have fx := HX.out x hx; go_simp; (try with_reducible rfl); done)); (try simp only [Act.put, lsa, lsz, lss]))
    (refine tkW 3 (v := ?_) hS ?_ ?_; rotate_left; (focus (intro x hx; have fx := HX.out x hx; go_simp; (try with_reducible rfl); done)); (try simp only [Act.put, lsa, lsz, lss]))
    (refine tkW 4 (v := ?_) hS ?_ ?_; rotate_left; (focus (intro x hx; have fx := HX.out x hx; go_simp; (try with_reducible rfl); done)); (try simp only [Act.put, lsa, lsz, lss]))
    (refine tkW 5 (v := ?_) hS ?_ ?_; rotate_left; (focus (intro x hx; have fx := HX.out x hx; go_simp; (try with_reducible rfl); done)); (try simp only [Act.put, lsa, lsz, lss]))
    generalize W0.drew = X0 at *
    refine wpAnyH_two 6 10 (by kernel_rfl) rfl rfl ?x1 ?x2
    case x1 =>
      intro K' hK'
      go_simp
      refine (HFI.out _ (HB0.out.trans (hS.mono HB0.out.size))).mono ?_
      rintro e w1 ⟨v', rfl, ⟨A9, n9, c9, rfl, -⟩, hb1⟩
      have hSn := hS.trans (hb1.mono hS.size)
      refine hK'.out _ _ hSn ?_
      clear hK' K' hS
      have hS := hSn
      clear hSn
      (refine tkW 7 (v := ?_) hS ?_ ?_; rotate_left; (focus (intro x hx; have fx := HX.out x hx; go_simp; (try with_reducible rfl); done)); (try simp only [Act.put, lsa, lsz, lss]))
      (refine tkW 8 (v := ?_) hS ?_ ?_; rotate_left; (focus (intro x hx; have fx := HX.out x hx; go_simp; (try with_reducible rfl); done)); (try simp only [Act.put, lsa, lsz, lss]))
      (refine tkW 9 (v := ?_) hS ?_ ?_; rotate_left; (focus (intro x hx; have fx := HX.out x hx; go_simp; (try with_reducible rfl); done)); (try simp only [Act.put, lsa, lsz, lss]))
      refine wpAnyH_one 10 (by kernel_rfl) rfl ?_
      intro K' hK'
      go_simp
      have hbA : Below w1.heap.size w1 (w1.alloc (.cells #[.string ⟨#[]⟩, .int .i64 0, .int .i64 0, .slice none 0 0, .string ⟨#[]⟩, .int .i64 0, .int .i64 0] 48)) := boxed
      have hnew := blkAt w1 (.cells #[.string ⟨#[]⟩, .int .i64 0, .int .i64 0, .slice none 0 0, .string ⟨#[]⟩, .int .i64 0, .int .i64 0] 48) rfl
      have hgn := hS.size
      have hSn := hS.trans (hbA.mono hS.size)
      refine hK'.out _ _ hSn ?_
      clear hK' K' hS
      have hS := hSn
      clear hSn hbA
      generalize w1.alloc (.cells #[.string ⟨#[]⟩, .int .i64 0, .int .i64 0, .slice none 0 0, .string ⟨#[]⟩, .int .i64 0, .int .i64 0] 48) = w2 at *
      generalize w1.heap.size = gn at *
      have HN := Lib.hid hnew
      clear hnew
      have r0 := (cell_blk HN.out 0).trans rfl; have f0 := frz_blk HN.out 0; have r1 := (cell_blk HN.out 1).trans rfl; have f1 := frz_blk HN.out 1; have r2 := (cell_blk HN.out 2).trans rfl; have f2 := frz_blk HN.out 2; have r3 := (cell_blk HN.out 3).trans rfl; have f3 := frz_blk HN.out 3; have r4 := (cell_blk HN.out 4).trans rfl; have f4 := frz_blk HN.out 4; have r5 := (cell_blk HN.out 5).trans rfl; have f5 := frz_blk HN.out 5; have r6 := (cell_blk HN.out 6).trans rfl; have f6 := frz_blk HN.out 6
      refine wpAnyH_one 11 (by kernel_rfl) rfl ?_
      intro K' hK'
      go_simp
      refine hK'.out _ _ (belowS (belowS (belowS (belowS (belowS (belowS (belowS (hS) hgn _ _) hgn _ _) hgn _ _) hgn _ _) hgn _ _) hgn _ _) hgn _ _) ?_
      clear hK' K'
      refine wpAnyH_one 12 (by kernel_rfl) rfl ?_
      intro K' hK'
      go_simp
      refine hK'.out _ _ (belowS (belowS (belowS (belowS (belowS (belowS (belowS (hS) hgn _ _) hgn _ _) hgn _ _) hgn _ _) hgn _ _) hgn _ _) hgn _ _) ?_
      clear hK' K'
      refine wpAnyH_done (by kernel_rfl) ?_ _
      go_wp2_with fail
      go_meet
      exact ⟨rfl, belowS (belowS (belowS (belowS (belowS (belowS (belowS (hS) hgn _ _) hgn _ _) hgn _ _) hgn _ _) hgn _ _) hgn _ _) hgn _ _⟩
    case x2 =>
      intro K' hK'
      go_simp
      have hbA : Below X0.heap.size X0 (X0.alloc (.cells #[.string ⟨#[]⟩, .int .i64 0, .int .i64 0, .slice none 0 0, .string ⟨#[]⟩, .int .i64 0, .int .i64 0] 48)) := boxed
      have hnew := blkAt X0 (.cells #[.string ⟨#[]⟩, .int .i64 0, .int .i64 0, .slice none 0 0, .string ⟨#[]⟩, .int .i64 0, .int .i64 0] 48) rfl
      have hgn := hS.size
      have hSn := hS.trans (hbA.mono hS.size)
      refine hK'.out _ _ hSn ?_
      clear hK' K' hS
      have hS := hSn
      clear hSn hbA
      generalize X0.alloc (.cells #[.string ⟨#[]⟩, .int .i64 0, .int .i64 0, .slice none 0 0, .string ⟨#[]⟩, .int .i64 0, .int .i64 0] 48) = w1 at *
      generalize X0.heap.size = gn at *
      have HN := Lib.hid hnew
      clear hnew
      refine wpAnyH_one 6 (by kernel_rfl) rfl ?_
      intro K' hK'
      go_simp
      refine (HFI.out _ (HB0.out.trans (hS.mono HB0.out.size))).mono ?_
      rintro e w2 ⟨v', rfl, ⟨A9, n9, c9, rfl, -⟩, hb1⟩
      have hSn := hS.trans (hb1.mono hS.size)
      replace HN := Lib.hid (keptBlk hb1 HN.out)
      refine hK'.out _ _ hSn ?_
      clear hK' K' hS
      have hS := hSn
      clear hSn
      (refine tkW 7 (v := ?_) hS ?_ ?_; rotate_left; (focus (intro x hx; have fx := HX.out x hx; go_simp; (try with_reducible rfl); done)); (try simp only [Act.put, lsa, lsz, lss]))
      (refine tkW 8 (v := ?_) hS ?_ ?_; rotate_left; (focus (intro x hx; have fx := HX.out x hx; go_simp; (try with_reducible rfl); done)); (try simp only [Act.put, lsa, lsz, lss]))
      (refine tkW 9 (v := ?_) hS ?_ ?_; rotate_left; (focus (intro x hx; have fx := HX.out x hx; go_simp; (try with_reducible rfl); done)); (try simp only [Act.put, lsa, lsz, lss]))
      have r0 := (cell_blk HN.out 0).trans rfl; have f0 := frz_blk HN.out 0; have r1 := (cell_blk HN.out 1).trans rfl; have f1 := frz_blk HN.out 1; have r2 := (cell_blk HN.out 2).trans rfl; have f2 := frz_blk HN.out 2; have r3 := (cell_blk HN.out 3).trans rfl; have f3 := frz_blk HN.out 3; have r4 := (cell_blk HN.out 4).trans rfl; have f4 := frz_blk HN.out 4; have r5 := (cell_blk HN.out 5).trans rfl; have f5 := frz_blk HN.out 5; have r6 := (cell_blk HN.out 6).trans rfl; have f6 := frz_blk HN.out 6
      refine wpAnyH_one 11 (by kernel_rfl) rfl ?_
      intro K' hK'
      go_simp
      refine hK'.out _ _ (belowS (belowS (belowS (belowS (belowS (belowS (belowS (hS) hgn _ _) hgn _ _) hgn _ _) hgn _ _) hgn _ _) hgn _ _) hgn _ _) ?_
      clear hK' K'
      refine wpAnyH_one 12 (by kernel_rfl) rfl ?_
      intro K' hK'
      go_simp
      refine hK'.out _ _ (belowS (belowS (belowS (belowS (belowS (belowS (belowS (hS) hgn _ _) hgn _ _) hgn _ _) hgn _ _) hgn _ _) hgn _ _) hgn _ _) ?_
      clear hK' K'
      refine wpAnyH_done (by kernel_rfl) ?_ _
      go_wp2_with fail
      go_meet
      exact ⟨rfl, belowS (belowS (belowS (belowS (belowS (belowS (belowS (hS) hgn _ _) hgn _ _) hgn _ _) hgn _ _) hgn _ _) hgn _ _) hgn _ _⟩
  case rest =>
    obtain ⟨rfl, hb⟩ := hcut
    have HBW := Lib.hid (HB0.out.trans (hb.mono HB0.out.size))
    have HG1 := Lib.hid (keptBlk hb HG0.out)
    clear hb
    rw [HSO.out]
    cases ha : s.items.any (fun y => y.name == x.name) with
    | true =>
      have HV2 := Lib.hid (show V = (s, 6) by rw [HV.out, ha]; rfl)
      go_wp2_with fail
      go_ret
      rw [HV2.out]
      exact ⟨rfl, M, q, HH.out.below HBW.out, RcT.below M g q HBW.out⟩
    | false =>
      have hv2 : V = if 128 ≤ s.items.length then (s, 10) else ({ s with items := s.items ++ [x] }, 0) := by rw [HV.out, ha]; rfl
      have c4 := (cell_blk (keptBlk HBW.out HC.out) 4).trans rfl
      by_cases h128 : 128 ≤ s.items.length
      · have hI : (128 : Int) ≤ (s.items.length : Int) := by omega
        have HV2 := Lib.hid (hv2.trans (if_pos h128))
        clear hv2
        go_wp2_with fail
        go_ret
        rw [HV2.out]
        exact ⟨rfl, M, q, HH.out.below HBW.out, RcT.below M g q HBW.out⟩
      · have hI : ¬ (128 : Int) ≤ (s.items.length : Int) := by omega
        have HV2 := Lib.hid (hv2.trans (if_neg h128))
        clear hv2
        go_upto_region 6 with fail
        clear c4
        have H6 := Lib.hid (HH.out.below HBW.out)
        have HPS6 := Lib.hid (HP0.out.below HBW.out)
        have hS0 : RiA wc g W.heap.size (rcC q p s) x A0 n0 e0 := ⟨H6.out.cells, HG1.out⟩
        have HLT := Lib.hid (show ∀ k, M k → k ≠ W.heap.size from fun k hk e => by have := HH.out.lt k hk; omega)
        refine wpY_region (fun z => RiA z g W.heap.size (rcC q p s) x A0 n0 e0) 12 (by kernel_rfl) ?_
        have hS : RiA wc.drew g W.heap.size (rcC q p s) x A0 n0 e0 := ⟨hS0.sc, hS0.it⟩
        have HX := Lib.hid (fun (z : World) (hz : RiA z g W.heap.size (rcC q p s) x A0 n0 e0) => RiA.facts hz rfl)
        clear hS0
        (refine wpAnyY_takeW 0 rfl rfl (by kernel_rfl) (by kernel_rfl) (by kernel_rfl) (by kernel_rfl) (fun _ _ _ h => h) (v := ?_) (by kernel_rfl) hS ?_ ?_; rotate_left; (focus (intro x hx; have fx := HX.out x hx; go_simp; (try with_reducible rfl); done)); (try simp only [Act.put, lsa, lsz, lss]))
        (refine wpAnyY_takeW 1 rfl rfl (by kernel_rfl) (by kernel_rfl) (by kernel_rfl) (by kernel_rfl) (fun _ _ _ h => h) (v := ?_) (by kernel_rfl) hS ?_ ?_; rotate_left; (focus (intro x hx; have fx := HX.out x hx; go_simp; (try with_reducible rfl); done)); (try simp only [Act.put, lsa, lsz, lss]))
        (refine wpAnyY_takeW 2 rfl rfl (by kernel_rfl) (by kernel_rfl) (by kernel_rfl) (by kernel_rfl) (fun _ _ _ h => h) (v := ?_) (by kernel_rfl) hS ?_ ?_; rotate_left; (focus (intro x hx; have fx := HX.out x hx; go_simp; (try with_reducible rfl); done)); (try simp only [Act.put, lsa, lsz, lss]))
        (refine wpAnyY_takeW 3 rfl rfl (by kernel_rfl) (by kernel_rfl) (by kernel_rfl) (by kernel_rfl) (fun _ _ _ h => h) (v := ?_) (by kernel_rfl) hS ?_ ?_; rotate_left; (focus (intro x hx; have fx := HX.out x hx; go_simp; (try with_reducible rfl); done)); (try simp only [Act.put, lsa, lsz, lss]))
        (refine wpAnyY_takeW 4 rfl rfl (by kernel_rfl) (by kernel_rfl) (by kernel_rfl) (by kernel_rfl) (fun _ _ _ h => h) (v := ?_) (by kernel_rfl) hS ?_ ?_; rotate_left; (focus (intro x hx; have fx := HX.out x hx; go_simp; (try with_reducible rfl); done)); (try simp only [Act.put, lsa, lsz, lss]))
        (refine wpAnyY_takeW 5 rfl rfl (by kernel_rfl) (by kernel_rfl) (by kernel_rfl) (by kernel_rfl) (fun _ _ _ h => h) (v := ?_) (by kernel_rfl) hS ?_ ?_; rotate_left; (focus (intro x hx; have fx := HX.out x hx; go_simp; (try with_reducible rfl); done)); (try simp only [Act.put, lsa, lsz, lss]))
        (refine wpAnyY_takeW 6 rfl rfl (by kernel_rfl) (by kernel_rfl) (by kernel_rfl) (by kernel_rfl) (fun _ _ _ h => h) (v := ?_) (by kernel_rfl) hS ?_ ?_; rotate_left; (focus (intro x hx; have fx := HX.out x hx; go_simp; (try with_reducible rfl); done)); (try simp only [Act.put, lsa, lsz, lss]))
        (refine wpAnyY_one 7 (by kernel_rfl) rfl ?_; intro K' hK'; go_simp; refine hK'.out _ _ (fun _ => (⟨blkOld hS.sc _, blkOld hS.it _⟩)) ?_; clear hK' K')
        refine wpAnyY_one 8 (by kernel_rfl) rfl ?_
        intro K' hK'
        refine step_app1 (T := fun k => ¬ M k) (base := B) (xs := s.items) rfl _ _ eltItm rfl (by decide) rfl rfl rfl (H6.out.items.drew.alloc _) rfl [.string ⟨x.name.toArray⟩, .int .i64 x.kind, .int .i64 x.mode, .slice A0 n0 e0, .string ⟨x.body.path.toArray⟩, .int .i64 x.body.fr, .int .i64 x.body.tu] x (blkAt _ _ rfl) rfl ⟨rfl, rfl, rfl, rfl, rfl, rfl, A0, n0, e0, rfl, ((HPS6.out.wide (fun k _ hk => ⟨hk, fun e => hk (H6.out.own k (.inr (.inl e)))⟩) (by decide)).drew.alloc _)⟩ (by omega) (by omega) (by have := H6.out.lt g (H6.out.own g (.inl rfl)); have := H6.out.old g (H6.out.own g (.inl rfl)); simp; omega) ?_
        intro A' c' w7 hown hg7 hat7
        have HAPP := Lib.hid (H6.out.app' _ hown hg7 hat7)
        have hS7 : RiA w7 g W.heap.size (rcC q p s) x A0 n0 e0 := ⟨grownBlk hg7 (blkOld hS.sc _) (fun e => (H6.out.difi g e).1 rfl), grownBlk hg7 (blkOld hS.it _) (fun e => HLT.out _ (H6.out.own _ (.inr (.inl e))) rfl)⟩
        clear hown hg7 hat7 hS
        refine hK'.out _ _ (fun _ => hS7) ?_
        clear hK' K'
        (refine wpAnyY_one 9 (by kernel_rfl) rfl ?_; intro K' hK'; go_simp; refine hK'.out _ _ (fun _ => hS7) ?_; clear hK' K')
        (refine wpAnyY_one 10 (by kernel_rfl) rfl ?_; intro K' hK'; go_simp; refine hK'.out _ _ (fun _ => hS7) ?_; clear hK' K')
        (refine wpAnyY_one 11 (by kernel_rfl) rfl ?_; intro K' hK'; go_simp; refine hK'.out _ _ (fun _ => hS7) ?_; clear hK' K')
        have f4 := frz_blk hS7.sc 4
        have c47 := (cell_blk hS7.sc 4).trans rfl
        (refine wpAnyY_one 12 (by kernel_rfl) rfl ?_; intro K' hK'; go_simp; refine hK'.out _ _ (fun h => absurd rfl h) ?_; clear hK' K'; refine wpAnyY_done (by kernel_rfl) ?_ _)
        go_wp2_with fail
        go_ret
        obtain ⟨M', q', h1, h2⟩ := HAPP.out
        rw [HV2.out]
        exact ⟨rfl, M', q', h1, (RcT.below M g q HBW.out).trans h2⟩
end Go.Proofs.YtpeamehplhpcjaaGreatDoor
namespace Go.Proofs.YtpeamehplhpcjaaGreatDoor
def rdigGo : Bs → Nat → Int
  | [], n => n
  | c :: r, n => if !digC c then -1 else rdigGo r (min (10 * n + (c.toNat - 48)) 1025)
def rdigits (s : Bs) : Int := if s.isEmpty || (decide (1 < s.length) && s.headD 0 == 48) then -1 else rdigGo s 0
theorem rdigGo_bad : ∀ (s : Bs) (n : Nat), s.all digC = false → rdigGo s n = -1 := by
  intro s
  induction s with
  | nil => intro n h; cases h
  | cons c r ih =>
    intro n h
    unfold rdigGo
    cases hc : digC c with
    | false => rfl
    | true =>
      rw [List.all_cons, hc, Bool.true_and] at h
      simp only [Bool.not_true, Bool.false_eq_true, if_false]
      exact ih _ h
theorem rdigGo_ok : ∀ (s : Bs) (n m : Nat), s.all digC = true → min n 1025 = min m 1025 → rdigGo s (min n 1025) = ((min (valN s m) 1025 : Nat) : Int) := by
  intro s
  induction s with
  | nil => intro n m _ h; unfold rdigGo valN; rw [h]
  | cons c r ih =>
    intro n m h e
    rw [List.all_cons, Bool.and_eq_true] at h
    unfold rdigGo valN
    rw [h.1]
    simp only [Bool.not_true, Bool.false_eq_true, if_false]
    exact ih _ _ h.2 (by omega)
theorem valN_ge : ∀ (s : Bs) (n : Nat), n * 10 ^ s.length ≤ valN s n := by
  intro s
  induction s with
  | nil => intro n; simp [valN]
  | cons c r ih =>
    intro n
    unfold valN
    refine Nat.le_trans ?_ (ih _)
    rw [List.length_cons, Nat.pow_succ, Nat.mul_comm (10 ^ r.length) 10, ← Nat.mul_assoc]
    exact Nat.mul_le_mul_right _ (by omega)
theorem digits_eq (s : Bs) : (numberS s < 0 ↔ rdigits s < 0) ∧ (1024 < numberS s ↔ 1024 < rdigits s) ∧ (0 ≤ numberS s → numberS s ≤ 1024 → rdigits s = numberS s) := by
  unfold numberS rdigits
  cases he : s.isEmpty with
  | true => simp
  | false =>
    simp only [Bool.false_or]
    cases hz : (decide (1 < s.length) && s.headD 0 == 48) with
    | true => simp
    | false =>
      simp only [Bool.or_false, Bool.false_eq_true, if_false]
      cases hd : s.all digC with
      | false => rw [rdigGo_bad s 0 hd]; simp
      | true =>
        have h1 := rdigGo_ok s 0 0 hd rfl
        have e0 : min 0 1025 = 0 := rfl
        rw [e0] at h1
        rw [h1]
        simp only [Bool.not_true, Bool.false_eq_true, if_false]
        by_cases h9 : 9 < s.length
        · rw [if_pos h9]
          have hv : 1025 ≤ valN s 0 := by
            cases s with
            | nil => cases he
            | cons c r =>
              unfold valN
              rw [List.all_cons, Bool.and_eq_true] at hd
              have hc := hd.1
              unfold digC at hc
              simp only [decide_eq_true_eq] at hc
              have hc0 : c ≠ 48 := by
                intro e
                simp only [List.length_cons] at h9
                simp only [List.headD_cons, e, List.length_cons, beq_self_eq_true, Bool.and_true, decide_eq_false_iff_not] at hz
                omega
              have hcn : c.toNat ≠ 48 := fun e => hc0 (UInt8.toNat_inj.1 e)
              have := valN_ge r (10 * 0 + (c.toNat - 48))
              refine Nat.le_trans ?_ this
              have hl : 9 ≤ r.length := by simp only [List.length_cons] at h9; omega
              have h10 : 10 ^ 4 ≤ 10 ^ r.length := Nat.pow_le_pow_right (by decide) (by omega)
              have h1c : 1 ≤ 10 * 0 + (c.toNat - 48) := by omega
              calc 1025 ≤ 1 * 10 ^ 4 := by decide
                _ ≤ (10 * 0 + (c.toNat - 48)) * 10 ^ r.length := Nat.mul_le_mul h1c h10
          have e : min (valN s 0) 1025 = 1025 := by omega
          rw [e]
          exact ⟨by decide, by decide, fun _ h => absurd h (by decide)⟩
        · rw [if_neg h9]
          refine ⟨by omega, by omega, by omega⟩
def rmodeS (w : List Bs) : Int × List Bs :=
  match w with
  | a :: b :: r => if a = wExport ∨ a = wWeak then (if a = wWeak then 2 else 1, b :: r) else (0, w)
  | _ => (0, w)
def rwords : List Bs := words.drop 1
def rwordS (s : Bs) : Int := match rwords.findIdx? (· == s) with | some i => (i : Int) + 1 | none => -1
def rerr (h : Hd) (named params : Bool) : Int :=
  if named && (if h.word = 1 then !isRefS h.name else !name5 h.name) then 2
  else if params && h.params.any (fun p => !name5 p) then 2
  else if params && dupS [] h.params then 6
  else if params && decide (8 < h.params.length) then 10
  else if 1024 < h.n then 3
  else 0
def rparseH (s : Bs) : Hd × Int :=
  if s.isEmpty then (noHd, 0)
  else
    let m := rmodeS (splitS 32 s)
    let l := m.2
    let w := rwordS (l.headD [])
    let named := decide (w ≠ 6)
    let counted := decide (w ≠ 1 ∧ w ≠ 3 ∧ w ≠ 7)
    let least := 1 + (if named then 1 else 0) + (if counted then 1 else 0)
    let params := decide (w = 2 ∨ w = 8)
    if l.contains [] then (noHd, 4)
    else if w < 0 ∨ (m.1 ≠ 0 ∧ w ≠ 8 ∧ w ≠ 9) ∨ l.length < least ∨ (least < l.length ∧ params = false) then (noHd, 4)
    else
      let n := if counted then rdigits (l.getLastD []) else 0
      if n < 0 then (noHd, 4)
      else
        let h : Hd := ⟨w, m.1, if named then l.getD 1 [] else [], if params then (l.drop 2).take (l.length - 3) else [], n⟩
        if rerr h named params ≠ 0 then (noHd, rerr h named params) else (h, 0)
end Go.Proofs.YtpeamehplhpcjaaGreatDoor
