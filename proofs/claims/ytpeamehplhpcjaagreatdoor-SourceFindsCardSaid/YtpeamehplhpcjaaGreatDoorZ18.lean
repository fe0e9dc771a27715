/- A part of the proofs of the laws of one package; see the law's own text, which comes last in 'order'. No conditions of its own. -/
import Derived.Test.YtpeamehplhpcjaaGreatDoorZ14
import Derived.Test.YtpeamehplhpcjaaGreatDoorZ17
set_option linter.unusedVariables false
set_option linter.unusedSimpArgs false
namespace Go.Proofs.YtpeamehplhpcjaaGreatDoor
open Go.RowKit
structure HdA (z : World) (g q : Nat) (cs : Array Value) (p : Bs) (i : Nat) (k m : Int) (nm : Bs) (A : Option Addr) (n c : Nat) (N : Int) : Prop where
  sc : z.heap[g]? = some (.cells cs 96 (0, 0))
  at_ : z.heap[q]? = some (.cells #[.string ⟨p.toArray⟩, .int .i64 i] 38 (0, 0))
  hd : z.heap[q + 1]? = some (.cells #[.int .i64 k, .int .i64 m, .string ⟨nm.toArray⟩, .slice A n c, .int .i64 N] 79 (0, 0))
  bd : z.heap[q + 2]? = some (.cells #[.string ⟨p.toArray⟩, .int .i64 ((i : Int) + 1), .int .i64 ((i : Int) + 1 + N)] 46 (0, 0))
section
variable {z z' : World} {g q : Nat} {cs : Array Value} {p : Bs} {i : Nat} {k m : Int} {nm : Bs} {A : Option Addr} {n c : Nat} {N : Int}
theorem HdA.below (h : HdA z g q cs p i k m nm A n c N) (hb : Below z.heap.size z z') : HdA z' g q cs p i k m nm A n c N := ⟨keptBlk hb h.sc, keptBlk hb h.at_, keptBlk hb h.hd, keptBlk hb h.bd⟩
theorem HdA.drew (h : HdA z g q cs p i k m nm A n c N) : HdA z.drew g q cs p i k m nm A n c N := ⟨h.sc, h.at_, h.hd, h.bd⟩
theorem HdA.grown {b : Nat} (h : HdA z g q cs p i k m nm A n c N) (hg : z.grownBy z' (some b)) (h1 : b ≠ g) (h2 : b < q) : HdA z' g q cs p i k m nm A n c N :=
  ⟨grownBlk hg h.sc (fun e => h1 (by injection e)), grownBlk hg h.at_ (fun e => by injection e with e; omega), grownBlk hg h.hd (fun e => by injection e with e; omega), grownBlk hg h.bd (fun e => by injection e with e; omega)⟩
theorem HdA.facts (h : HdA z g q cs p i k m nm A n c N) : z.cell? ⟨q, 0, none⟩ = some (.string ⟨p.toArray⟩) ∧ z.cell? ⟨q, 1, none⟩ = some (.int .i64 i) ∧ z.cell? ⟨q + 1, 0, none⟩ = some (.int .i64 k) ∧ z.cell? ⟨q + 1, 1, none⟩ = some (.int .i64 m) ∧ z.cell? ⟨q + 1, 2, none⟩ = some (.string ⟨nm.toArray⟩) ∧ z.cell? ⟨q + 1, 3, none⟩ = some (.slice A n c) ∧ z.cell? ⟨q + 1, 4, none⟩ = some (.int .i64 N) ∧
    z.cell? ⟨q + 2, 0, none⟩ = some (.string ⟨p.toArray⟩) ∧ z.cell? ⟨q + 2, 1, none⟩ = some (.int .i64 ((i : Int) + 1)) ∧ z.cell? ⟨q + 2, 2, none⟩ = some (.int .i64 ((i : Int) + 1 + N)) :=
  ⟨(cell_blk h.at_ 0).trans rfl, (cell_blk h.at_ 1).trans rfl, (cell_blk h.hd 0).trans rfl, (cell_blk h.hd 1).trans rfl, (cell_blk h.hd 2).trans rfl, (cell_blk h.hd 3).trans rfl, (cell_blk h.hd 4).trans rfl, (cell_blk h.bd 0).trans rfl, (cell_blk h.bd 1).trans rfl, (cell_blk h.bd 2).trans rfl⟩
end
set_option maxRecDepth 100000 in
set_option maxHeartbeats 8000000 in
theorem head_any (d : Nat) (t : List Fil) (B : Nat) (hf : ∀ e, d = e + 1 → FileOk e t B) (hgr : ∀ e, d = e + 1 → GrpOk e t B) (hT : TOk t) (hB : gMx < B) (hd : d ≤ 24) (W : World) (M : Nat → Prop) (g : Nat) (s : Sst) (p : Bs) (i : Nat) (k m : Int) (nm : Bs) (Ah : Option Addr) (nh ch : Nat) (ps : List Bs) (N : Int) (A : Option Addr) (n c : Nat) (l : List Bs)
    (H : ScW W M B g t s) (hst : StI s) (hop : s.opn.length + d ≤ 25) (hL : LS W) (hp : p.length ≤ 1000) (hnm : nm.length ≤ 65536) (hps : Sl W (fun k => ¬ M k) Ah nh ch ps) (hl : Sl W (fun k => ¬ M k) A n c l) (hlo : LOk l) (hN : 0 ≤ N) (hfit : i + 1 + N.toNat ≤ l.length) :
    Calls Tryz.prog 114 #[.pointer (some ⟨g, 0, none⟩), .agg #[.string ⟨p.toArray⟩, .int .i64 i], .agg #[.int .i64 k, .int .i64 m, .string ⟨nm.toArray⟩, .slice Ah nh ch, .int .i64 N], .slice A n c, .int .i64 (24 - (d : Int))] W (ScR W M B g t (doHead t (nestS t d) p l i ⟨k, m, nm, ps, N⟩ s)) := by
  obtain ⟨R, hR⟩ : ∃ R, R = doHead t (nestS t d) p l i ⟨k, m, nm, ps, N⟩ s := ⟨_, rfl⟩
  rw [← hR]
  unfold doHead at hR
  simp only at hR
  obtain ⟨D, hD⟩ : ∃ D : Int, D = 24 - (d : Int) := ⟨_, rfl⟩
  rw [← hD]
  have hlo1 := hlo.1
  have hi1 : (i : Int) ≤ 1024 := by omega
  have hN1 : N ≤ 1024 := by omega
  have hincl := fun W' h1 h2 => incl_any d t B hf hT hB hd W' M g s p i nm h1 hst hop h2 hp hnm
  rw [← hD] at hincl
  have HR := Lib.hid hR; have HH := Lib.hid H; have HL := Lib.hid hL; have HDD := Lib.hid hD; have HG := Lib.hid hgr; have HIN := Lib.hid hincl; have HPS := Lib.hid hps; have HLI := Lib.hid hl; have HFIT := Lib.hid hfit; have HLO := Lib.hid hlo
  clear hR H hL hf hD hgr hincl hps hl hfit hlo hlo1
  go_enter Tryz.func114, Tryz.ntmps114
  go_upto_region 2 with fail
  have hb3 : Below W.heap.size W (((W.alloc (.cells #[.string ⟨p.toArray⟩, .int .i64 i] 38)).alloc (.cells #[.int .i64 k, .int .i64 m, .string ⟨nm.toArray⟩, .slice Ah nh ch, .int .i64 N] 79)).alloc (.cells #[.string ⟨p.toArray⟩, .int .i64 ((i : Int) + 1), .int .i64 ((i : Int) + 1 + N)] 46)) := by ((repeat (first | (with_reducible exact Below.refl _ _) | (with_reducible refine belowA ?_ _) | (with_reducible refine belowD ?_) | (with_reducible refine belowS ?_ (Nat.le_refl _) _ _) | (with_reducible refine next ?_ (by assumption) (Nat.le_refl _)))); done)
  have q0 : (((W.alloc (.cells #[.string ⟨p.toArray⟩, .int .i64 i] 38)).alloc (.cells #[.int .i64 k, .int .i64 m, .string ⟨nm.toArray⟩, .slice Ah nh ch, .int .i64 N] 79)).alloc (.cells #[.string ⟨p.toArray⟩, .int .i64 ((i : Int) + 1), .int .i64 ((i : Int) + 1 + N)] 46)).heap[W.heap.size]? = some (.cells #[.string ⟨p.toArray⟩, .int .i64 i] 38 (0, 0)) := by ((repeat (first | (with_reducible assumption) | ((with_reducible refine blkAt2 ?_ ?_); (focus (simp; done)); rfl) | (with_reducible refine blkOld ?_ _) | (with_reducible refine keptBlk (by assumption) ?_) | (with_reducible refine grownBlk (by assumption) ?_ (by simp; omega)) | (with_reducible refine blkDrw ?_))); done)
  have q1 : (((W.alloc (.cells #[.string ⟨p.toArray⟩, .int .i64 i] 38)).alloc (.cells #[.int .i64 k, .int .i64 m, .string ⟨nm.toArray⟩, .slice Ah nh ch, .int .i64 N] 79)).alloc (.cells #[.string ⟨p.toArray⟩, .int .i64 ((i : Int) + 1), .int .i64 ((i : Int) + 1 + N)] 46)).heap[W.heap.size + 1]? = some (.cells #[.int .i64 k, .int .i64 m, .string ⟨nm.toArray⟩, .slice Ah nh ch, .int .i64 N] 79 (0, 0)) := by ((repeat (first | (with_reducible assumption) | ((with_reducible refine blkAt2 ?_ ?_); (focus (simp; done)); rfl) | (with_reducible refine blkOld ?_ _) | (with_reducible refine keptBlk (by assumption) ?_) | (with_reducible refine grownBlk (by assumption) ?_ (by simp; omega)) | (with_reducible refine blkDrw ?_))); done)
  have q2 : (((W.alloc (.cells #[.string ⟨p.toArray⟩, .int .i64 i] 38)).alloc (.cells #[.int .i64 k, .int .i64 m, .string ⟨nm.toArray⟩, .slice Ah nh ch, .int .i64 N] 79)).alloc (.cells #[.string ⟨p.toArray⟩, .int .i64 ((i : Int) + 1), .int .i64 ((i : Int) + 1 + N)] 46)).heap[W.heap.size + 2]? = some (.cells #[.string ⟨p.toArray⟩, .int .i64 ((i : Int) + 1), .int .i64 ((i : Int) + 1 + N)] 46 (0, 0)) := by ((repeat (first | (with_reducible assumption) | ((with_reducible refine blkAt2 ?_ ?_); (focus (simp; done)); rfl) | (with_reducible refine blkOld ?_ _) | (with_reducible refine keptBlk (by assumption) ?_) | (with_reducible refine grownBlk (by assumption) ?_ (by simp; omega)) | (with_reducible refine blkDrw ?_))); done)
  generalize (((W.alloc (.cells #[.string ⟨p.toArray⟩, .int .i64 i] 38)).alloc (.cells #[.int .i64 k, .int .i64 m, .string ⟨nm.toArray⟩, .slice Ah nh ch, .int .i64 N] 79)).alloc (.cells #[.string ⟨p.toArray⟩, .int .i64 ((i : Int) + 1), .int .i64 ((i : Int) + 1 + N)] 46)) = W3 at *
  have H3 := HH.out.below hb3
  have hMq := fun k hk => (HH.out.old k hk).2
  obtain ⟨tA, tn, tc, mf, mm, mh, ml, iA, ic, oA, oc, mv, H3⟩ := H3
  have hA3 : HdA W3 g W.heap.size (scC tA tn tc mf mm iA ic mh ml oA oc s) p i k m nm Ah nh ch N := ⟨H3.cells, q0, q1, q2⟩
  have HB3 := Lib.hid hb3; have HA3 := Lib.hid hA3; have H3H := Lib.hid H3; have HMQ := Lib.hid hMq
  have HW3 := Lib.hid (show ScW W3 M B g t s from ⟨tA, tn, tc, mf, mm, mh, ml, iA, ic, oA, oc, mv, H3⟩)
  clear q0 q1 q2 hb3 hA3 H3 hMq
  have F3 := HA3.out.facts
  by_cases k1 : k = 1
  · subst k1
    have HR1 := Lib.hid (HR.out.trans (if_pos rfl))
    go_wp2_with fail
    refine (HIN.out W3 HW3.out (HL.out.below HB3.out)).mono ?_
    rintro e w9 ⟨rfl, M', hs9, ho9⟩
    go_wp2_with fail
    go_ret
    exact ⟨by rw [HR1.out]; rfl, M', by rw [HR1.out]; exact hs9, (ScOut.below M HB3.out).trans ho9⟩
  · have HRa := Lib.hid (HR.out.trans (if_neg k1))
    have b1 : (k == 1) = false := by rw [beq_eq_false_iff_ne]; exact k1
    have hdef := fun W' (h : Below W3.heap.size W3 W') => defined_any W' M B g t s (HW3.out.below h) nm (by omega)
    have HDEF := Lib.hid hdef
    clear HR HIN k1 hdef
    generalize hdx : definedS s nm = df at *
    clear hdx
    by_cases k2 : k = 2
    · subst k2
      have HRb := Lib.hid (HRa.out.trans (if_pos rfl))
      clear HRa
      go_wp2_with fail
      refine (HDEF.out W3 (Below.refl _ _)).mono ?_
      rintro e w4 ⟨rfl, hb4⟩
      have HB4 := Lib.hid (HB3.out.trans (hb4.mono HB3.out.size)); have HA4 := Lib.hid (HA3.out.below hb4); have H4 := Lib.hid (H3H.out.below hb4); have HW4 := Lib.hid (HW3.out.below hb4)
      clear hb4 F3 HB3 HA3 H3H HW3 HDEF
      have F4 := HA4.out.facts
      cases df with
      | true =>
        have HR := Lib.hid (HRb.out.trans (if_pos rfl))
        go_wp2_with fail
        (refine (fail_any w4 M B g t s HW4.out p i 6).mono ?_; rintro e w9 ⟨rfl, M', hs9, ho9⟩; go_wp2_with fail; go_ret; exact ⟨by rw [HR.out]; rfl, M', by rw [HR.out]; exact hs9, (ScOut.below M HB4.out).trans ho9⟩)
      | false =>
        have HRc := Lib.hid (HRb.out.trans (if_neg (by simp)))
        have hml := H4.out.macs.len
        have hln := fun ty => H4.out.mval.len Tryz.underlying93 ty
        rw [hml] at hln
        have c2 : w4.cell? ⟨g, 2, none⟩ = some (.map (some mm)) := (cell_blk HA4.out.sc 2).trans rfl
        have hma := hst.ma
        by_cases h128 : s.macros.length = 128
        · have HR := Lib.hid (HRc.out.trans (if_pos h128))
          rw [h128] at hln
          go_wp2_with fail
          (refine (fail_any w4 M B g t s HW4.out p i 10).mono ?_; rintro e w9 ⟨rfl, M', hs9, ho9⟩; go_wp2_with fail; go_ret; exact ⟨by rw [HR.out]; rfl, M', by rw [HR.out]; exact hs9, (ScOut.below M HB4.out).trans ho9⟩)
        · have HR := Lib.hid (HRc.out.trans (if_neg h128))
          go_upto_region 10 with fail
          have HX := Lib.hid (fun (z : World) (hz : HdA z g W.heap.size (scC tA tn tc mf mm iA ic mh ml oA oc s) p i 2 m nm Ah nh ch N) => And.intro (show z.cell? ⟨g, 2, none⟩ = some (.map (some mm)) from (cell_blk hz.sc 2).trans rfl) hz.facts)
          refine wpH_region (fun z => HdA z g W.heap.size (scC tA tn tc mf mm iA ic mh ml oA oc s) p i 2 m nm Ah nh ch N) (by kernel_rfl) ?_
          have hS := HA4.out.drew
          have H4d := Lib.hid (H4.out.below (Below.refl _ _).drew)
          clear F4 c2 hln hml
          (refine tkW 0 (v := ?_) hS ?_ ?_; rotate_left; (focus (intro x hx; have fx := HX.out x hx; go_simp; (try with_reducible rfl); done)); (try simp only [Act.put, lsa, lsz, lss]))
          (refine tkW 1 (v := ?_) hS ?_ ?_; rotate_left; (focus (intro x hx; have fx := HX.out x hx; go_simp; (try with_reducible rfl); done)); (try simp only [Act.put, lsa, lsz, lss]))
          (refine tkW 2 (v := ?_) hS ?_ ?_; rotate_left; (focus (intro x hx; have fx := HX.out x hx; go_simp; (try with_reducible rfl); done)); (try simp only [Act.put, lsa, lsz, lss]))
          (refine tkW 3 (v := ?_) hS ?_ ?_; rotate_left; (focus (intro x hx; have fx := HX.out x hx; go_simp; (try with_reducible rfl); done)); (try simp only [Act.put, lsa, lsz, lss]))
          (refine tkW 4 (v := ?_) hS ?_ ?_; rotate_left; (focus (intro x hx; have fx := HX.out x hx; go_simp; (try with_reducible rfl); done)); (try simp only [Act.put, lsa, lsz, lss]))
          (refine tkW 5 (v := ?_) hS ?_ ?_; rotate_left; (focus (intro x hx; have fx := HX.out x hx; go_simp; (try with_reducible rfl); done)); (try simp only [Act.put, lsa, lsz, lss]))
          (refine tkW 6 (v := ?_) hS ?_ ?_; rotate_left; (focus (intro x hx; have fx := HX.out x hx; go_simp; (try with_reducible rfl); done)); (try simp only [Act.put, lsa, lsz, lss]))
          (refine tkW 7 (v := ?_) hS ?_ ?_; rotate_left; (focus (intro x hx; have fx := HX.out x hx; go_simp; (try with_reducible rfl); done)); (try simp only [Act.put, lsa, lsz, lss]))
          (refine tkW 8 (v := ?_) hS ?_ ?_; rotate_left; (focus (intro x hx; have fx := HX.out x hx; go_simp; (try with_reducible rfl); done)); (try simp only [Act.put, lsa, lsz, lss]))
          (refine tkW 9 (v := ?_) hS ?_ ?_; rotate_left; (focus (intro x hx; have fx := HX.out x hx; go_simp; (try with_reducible rfl); done)); (try simp only [Act.put, lsa, lsz, lss]))
          (refine tkW 10 (v := ?_) hS ?_ ?_; rotate_left; (focus (intro x hx; have fx := HX.out x hx; go_simp; (try with_reducible rfl); done)); (try simp only [Act.put, lsa, lsz, lss]))
          (refine tkW 11 (v := ?_) hS ?_ ?_; rotate_left; (focus (intro x hx; have fx := HX.out x hx; go_simp; (try with_reducible rfl); done)); (try simp only [Act.put, lsa, lsz, lss]))
          refine wpAnyH_one 12 (by kernel_rfl) rfl ?_
          intro K' hK'
          refine step_updV rfl _ _ _ rfl Tryz.underlying93 rfl nm rfl (.agg #[.string ⟨nm.toArray⟩, .slice Ah nh ch, .string ⟨p.toArray⟩, .int .i64 ((i : Int) + 1), .int .i64 ((i : Int) + 1 + N)]) rfl H4d.out.mval (by show nm.length ≤ 9223372036854775807; omega) ?_
          intro w5 hm5 hg5
          obtain ⟨h51, h52⟩ := H4d.out.define hm5 hg5 (x := ⟨nm, ps, ⟨p, (i : Int) + 1, (i : Int) + 1 + N⟩⟩) ⟨Ah, nh, ch, rfl, (HPS.out.below HB4.out).drew⟩
          have hS5 := hS.grown hg5 (Ne.symm H4.out.dif.2.1) (HMQ.out _ (H4.out.own mm (.inr (.inr (.inl rfl)))))
          have H5 := Lib.hid h51; have HO5 := Lib.hid h52
          clear hm5 hg5 h51 h52 hS
          refine hK'.out _ _ hS5 ?_
          clear hK' K'
          refine wpAnyH_done (by kernel_rfl) ?_ _
          go_wp2_with fail
          go_ret
          exact ⟨by rw [HR.out]; rfl, M, by rw [HR.out]; exact H5.out, ((ScOut.below M HB4.out).trans (ScOut.below M (Below.refl _ _).drew)).trans HO5.out⟩
    · have HRb := Lib.hid (HRa.out.trans (if_neg k2))
      have b2 : (k == 2) = false := by rw [beq_eq_false_iff_ne]; exact k2
      clear HRa k2
      by_cases k3 : k = 3
      · subst k3
        have HRc := Lib.hid (HRb.out.trans (if_pos rfl))
        clear HRb b1 b2
        go_wp2_with fail
        refine (HDEF.out W3 (Below.refl _ _)).mono ?_
        rintro e w4 ⟨rfl, hb4⟩
        have HB4 := Lib.hid (HB3.out.trans (hb4.mono HB3.out.size)); have HA4 := Lib.hid (HA3.out.below hb4); have H4 := Lib.hid (H3H.out.below hb4); have HW4 := Lib.hid (HW3.out.below hb4)
        clear hb4 F3 HB3 HA3 H3H HW3 HDEF
        cases df with
        | false =>
          have HR := Lib.hid (HRc.out.trans (if_neg (by simp)))
          have F4 := HA4.out.facts
          go_wp2_with fail
          (refine (fail_any w4 M B g t s HW4.out p i 7).mono ?_; rintro e w9 ⟨rfl, M', hs9, ho9⟩; go_wp2_with fail; go_ret; exact ⟨by rw [HR.out]; rfl, M', by rw [HR.out]; exact hs9, (ScOut.below M HB4.out).trans ho9⟩)
        | true =>
          have HR := Lib.hid (HRc.out.trans (if_pos rfl))
          go_upto_region 14 with fail
          have HX := Lib.hid (fun (z : World) (hz : HdA z g W.heap.size (scC tA tn tc mf mm iA ic mh ml oA oc s) p i 3 m nm Ah nh ch N) => And.intro (show z.cell? ⟨g, 2, none⟩ = some (.map (some mm)) from (cell_blk hz.sc 2).trans rfl) (And.intro (show z.cell? ⟨g, 1, none⟩ = some (.map (some mf)) from (cell_blk hz.sc 1).trans rfl) hz.facts))
          refine wpH_region (fun z => HdA z g W.heap.size (scC tA tn tc mf mm iA ic mh ml oA oc s) p i 3 m nm Ah nh ch N) (by kernel_rfl) ?_
          have hS := HA4.out.drew
          have H4d := Lib.hid (H4.out.below (Below.refl _ _).drew)
          (refine tkW 0 (v := ?_) hS ?_ ?_; rotate_left; (focus (intro x hx; have fx := HX.out x hx; go_simp; (try with_reducible rfl); done)); (try simp only [Act.put, lsa, lsz, lss]))
          (refine tkW 1 (v := ?_) hS ?_ ?_; rotate_left; (focus (intro x hx; have fx := HX.out x hx; go_simp; (try with_reducible rfl); done)); (try simp only [Act.put, lsa, lsz, lss]))
          (refine tkW 2 (v := ?_) hS ?_ ?_; rotate_left; (focus (intro x hx; have fx := HX.out x hx; go_simp; (try with_reducible rfl); done)); (try simp only [Act.put, lsa, lsz, lss]))
          (refine tkW 3 (v := ?_) hS ?_ ?_; rotate_left; (focus (intro x hx; have fx := HX.out x hx; go_simp; (try with_reducible rfl); done)); (try simp only [Act.put, lsa, lsz, lss]))
          (refine tkW 4 (v := ?_) hS ?_ ?_; rotate_left; (focus (intro x hx; have fx := HX.out x hx; go_simp; (try with_reducible rfl); done)); (try simp only [Act.put, lsa, lsz, lss]))
          (refine tkW 5 (v := ?_) hS ?_ ?_; rotate_left; (focus (intro x hx; have fx := HX.out x hx; go_simp; (try with_reducible rfl); done)); (try simp only [Act.put, lsa, lsz, lss]))
          refine wpAnyH_one 6 (by kernel_rfl) rfl ?_
          intro K' hK'
          refine step_delV rfl rfl _ _ _ rfl rfl Tryz.underlying93 rfl nm rfl H4d.out.mval (by show nm.length ≤ 9223372036854775807; omega) ?_
          intro w5 hm5 hg5
          obtain ⟨h51, h52⟩ := H4d.out.undefM hm5 hg5
          have hS5 := hS.grown hg5 (Ne.symm H4.out.dif.2.1) (HMQ.out _ (H4.out.own mm (.inr (.inr (.inl rfl)))))
          have H5 := Lib.hid h51; have HO5 := Lib.hid (((ScOut.below M HB4.out).trans (ScOut.below M (Below.refl _ _).drew)).trans h52); have HA5 := Lib.hid hS5
          clear hm5 hg5 h51 h52 hS H4d
          refine hK'.out _ _ hS5 ?_
          clear hK' K' hS5
          refine wpAnyH_done (by kernel_rfl) ?_ _
          go_upto_region 15 with fail
          refine wpH_region (fun z => HdA z g W.heap.size (scC tA tn tc mf mm iA ic mh ml oA oc s) p i 3 m nm Ah nh ch N) (by kernel_rfl) ?_
          have hS := HA5.out.drew
          have H5d := Lib.hid (H5.out.below (Below.refl _ _).drew)
          (refine tkW 0 (v := ?_) hS ?_ ?_; rotate_left; (focus (intro x hx; have fx := HX.out x hx; go_simp; (try with_reducible rfl); done)); (try simp only [Act.put, lsa, lsz, lss]))
          (refine tkW 1 (v := ?_) hS ?_ ?_; rotate_left; (focus (intro x hx; have fx := HX.out x hx; go_simp; (try with_reducible rfl); done)); (try simp only [Act.put, lsa, lsz, lss]))
          (refine tkW 2 (v := ?_) hS ?_ ?_; rotate_left; (focus (intro x hx; have fx := HX.out x hx; go_simp; (try with_reducible rfl); done)); (try simp only [Act.put, lsa, lsz, lss]))
          (refine tkW 3 (v := ?_) hS ?_ ?_; rotate_left; (focus (intro x hx; have fx := HX.out x hx; go_simp; (try with_reducible rfl); done)); (try simp only [Act.put, lsa, lsz, lss]))
          (refine tkW 4 (v := ?_) hS ?_ ?_; rotate_left; (focus (intro x hx; have fx := HX.out x hx; go_simp; (try with_reducible rfl); done)); (try simp only [Act.put, lsa, lsz, lss]))
          (refine tkW 5 (v := ?_) hS ?_ ?_; rotate_left; (focus (intro x hx; have fx := HX.out x hx; go_simp; (try with_reducible rfl); done)); (try simp only [Act.put, lsa, lsz, lss]))
          refine wpAnyH_one 6 (by kernel_rfl) rfl ?_
          intro K' hK'
          refine step_delV rfl rfl _ _ _ rfl rfl Tryz.underlying92 rfl nm rfl H5d.out.flags (by show nm.length ≤ 9223372036854775807; omega) ?_
          intro w6 hm6 hg6
          obtain ⟨h61, h62⟩ := H5d.out.undefF hm6 hg6
          have hS6 := hS.grown hg6 (Ne.symm H4.out.dif.1) (HMQ.out _ (H4.out.own mf (.inr (.inl rfl))))
          have H6 := Lib.hid (show ScW w6 M B g t { s with macros := delM s.macros nm, flags := delM s.flags nm } from ⟨_, _, _, _, _, _, _, _, _, _, _, _, h61⟩); have HO6 := Lib.hid ((HO5.out.trans (ScOut.below M (Below.refl _ _).drew)).trans h62)
          clear hm6 hg6 h61 h62 hS H5d
          refine hK'.out _ _ hS6 ?_
          clear hK' K' hS6
          refine wpAnyH_done (by kernel_rfl) ?_ _
          go_wp2_with fail
          go_ret
          exact ⟨by rw [HR.out]; rfl, M, by rw [HR.out]; exact H6.out, HO6.out⟩
      · have HRc := Lib.hid (HRb.out.trans (if_neg k3))
        have b3 : (k == 3) = false := by rw [beq_eq_false_iff_ne]; exact k3
        clear HRb k3
        by_cases k45 : k = 4 ∨ k = 5
        · have HRd := Lib.hid (HRc.out.trans (if_pos k45))
          clear HRc b1 b2 b3
          rcases k45 with rfl | rfl
          · go_upto_region 18 with fail
            (have HX := Lib.hid (fun (z : World) (hz : Below W3.heap.size W3 z) => (HA3.out.below hz).facts)); (refine wpH_region (fun z => Below W3.heap.size W3 z) (by kernel_rfl) ?_); (have hS : Below W3.heap.size W3 W3.drew := (Below.refl _ _).drew); (clear F3); ((refine tkW 0 (v := ?_) hS ?_ ?_; rotate_left; (focus (intro x hx; have fx := HX.out x hx; go_simp; (try with_reducible rfl); done)); (try simp only [Act.put, lsa, lsz, lss]))); ((refine tkW 1 (v := ?_) hS ?_ ?_; rotate_left; (focus (intro x hx; have fx := HX.out x hx; go_simp; (try with_reducible rfl); done)); (try simp only [Act.put, lsa, lsz, lss]))); ((refine tkW 2 (v := ?_) hS ?_ ?_; rotate_left; (focus (intro x hx; have fx := HX.out x hx; go_simp; (try with_reducible rfl); done)); (try simp only [Act.put, lsa, lsz, lss]))); ((refine tkW 4 (v := ?_) hS ?_ ?_; rotate_left; (focus (intro x hx; have fx := HX.out x hx; go_simp; (try with_reducible rfl); done)); (try simp only [Act.put, lsa, lsz, lss]))); ((refine tkW 5 (v := ?_) hS ?_ ?_; rotate_left; (focus (intro x hx; have fx := HX.out x hx; go_simp; (try with_reducible rfl); done)); (try simp only [Act.put, lsa, lsz, lss]))); ((refine tkW 6 (v := ?_) hS ?_ ?_; rotate_left; (focus (intro x hx; have fx := HX.out x hx; go_simp; (try with_reducible rfl); done)); (try simp only [Act.put, lsa, lsz, lss]))); (refine wpAnyH_one 3 (by kernel_rfl) rfl ?_); (intro K' hK'); (go_simp); (refine (HDEF.out _ hS).mono ?_); (rintro e w4 ⟨rfl, hb4⟩); (have hS4 : Below W3.heap.size W3 w4 := hS.trans (hb4.mono hS.size)); (refine hK'.out _ _ hS4 ?_); (clear hK' K' hb4 hS); (have hS := hS4); ((refine tkW 7 (v := ?_) hS ?_ ?_; rotate_left; (focus (intro x hx; have fx := HX.out x hx; go_simp; (try with_reducible rfl); done)); (try simp only [Act.put, lsa, lsz, lss]))); (refine wpAnyH_done (by kernel_rfl) ?_ _); (have HB4 := Lib.hid (HB3.out.trans (hS4.mono HB3.out.size))); (have HA4 := Lib.hid (HA3.out.below hS4)); (have HW4 := Lib.hid (HW3.out.below hS4)); (clear hS hS4 HX HDEF HB3 HA3 H3H HW3)
            cases df with
            | false =>
              have HR := Lib.hid (HRd.out.trans (if_pos rfl))
              go_wp2_with fail
              go_ret
              exact ⟨by rw [HR.out]; rfl, M, by rw [HR.out]; exact HW4.out, ScOut.below M HB4.out⟩
            | true =>
              have HRe := Lib.hid (HRd.out.trans (if_neg (by simp)))
              (have F4 := HA4.out.facts); (rcases d with _ | e); (focus ((have hD24 : D = 24 := by have := HDD.out; omega); (subst hD24); (have HR := Lib.hid (show R = failS s p i 11 from HRe.out)); (go_wp2_with fail); ((refine (fail_any w4 M B g t s HW4.out p i 11).mono ?_; rintro e w9 ⟨rfl, M', hs9, ho9⟩; go_wp2_with fail; go_ret; exact ⟨by rw [HR.out]; rfl, M', by rw [HR.out]; exact hs9, (ScOut.below M HB4.out).trans ho9⟩)))); (have hD1 : (D == 24) = false := by have := HDD.out; rw [beq_eq_false_iff_ne]; omega); (have hD2 : D + 1 = 24 - (e : Int) := by have := HDD.out; omega); (have hDr : -1 ≤ D ∧ D ≤ 24 := by have := HDD.out; omega); (have HR := Lib.hid (show R = groupS t e p l (i + 1) (i + 1 + N.toNat) s from HRe.out)); (have hgrp := HG.out e rfl w4 M g s p A n c l (i + 1) (i + 1 + N.toNat) HW4.out hst (by omega) (HL.out.below HB4.out) hp (HLI.out.below HB4.out) HLO.out (by omega) HFIT.out); (have e1 : ((i + 1 : Nat) : Int) = (i : Int) + 1 := by omega); (have e2 : ((i + 1 + N.toNat : Nat) : Int) = (i : Int) + 1 + N := by omega); (rw [e1, e2, ← hD2] at hgrp); (have HGR := Lib.hid hgrp); (clear hgrp e1 e2 hD2); (go_wp2_with fail); (refine HGR.out.mono ?_); (rintro e9 w9 ⟨rfl, M', hs9, ho9⟩); (go_wp2_with fail); (go_ret); (exact ⟨by rw [HR.out]; rfl, M', by rw [HR.out]; exact hs9, (ScOut.below M HB4.out).trans ho9⟩)
          · go_upto_region 18 with fail
            (have HX := Lib.hid (fun (z : World) (hz : Below W3.heap.size W3 z) => (HA3.out.below hz).facts)); (refine wpH_region (fun z => Below W3.heap.size W3 z) (by kernel_rfl) ?_); (have hS : Below W3.heap.size W3 W3.drew := (Below.refl _ _).drew); (clear F3); ((refine tkW 0 (v := ?_) hS ?_ ?_; rotate_left; (focus (intro x hx; have fx := HX.out x hx; go_simp; (try with_reducible rfl); done)); (try simp only [Act.put, lsa, lsz, lss]))); ((refine tkW 1 (v := ?_) hS ?_ ?_; rotate_left; (focus (intro x hx; have fx := HX.out x hx; go_simp; (try with_reducible rfl); done)); (try simp only [Act.put, lsa, lsz, lss]))); ((refine tkW 2 (v := ?_) hS ?_ ?_; rotate_left; (focus (intro x hx; have fx := HX.out x hx; go_simp; (try with_reducible rfl); done)); (try simp only [Act.put, lsa, lsz, lss]))); ((refine tkW 4 (v := ?_) hS ?_ ?_; rotate_left; (focus (intro x hx; have fx := HX.out x hx; go_simp; (try with_reducible rfl); done)); (try simp only [Act.put, lsa, lsz, lss]))); ((refine tkW 5 (v := ?_) hS ?_ ?_; rotate_left; (focus (intro x hx; have fx := HX.out x hx; go_simp; (try with_reducible rfl); done)); (try simp only [Act.put, lsa, lsz, lss]))); ((refine tkW 6 (v := ?_) hS ?_ ?_; rotate_left; (focus (intro x hx; have fx := HX.out x hx; go_simp; (try with_reducible rfl); done)); (try simp only [Act.put, lsa, lsz, lss]))); (refine wpAnyH_one 3 (by kernel_rfl) rfl ?_); (intro K' hK'); (go_simp); (refine (HDEF.out _ hS).mono ?_); (rintro e w4 ⟨rfl, hb4⟩); (have hS4 : Below W3.heap.size W3 w4 := hS.trans (hb4.mono hS.size)); (refine hK'.out _ _ hS4 ?_); (clear hK' K' hb4 hS); (have hS := hS4); ((refine tkW 7 (v := ?_) hS ?_ ?_; rotate_left; (focus (intro x hx; have fx := HX.out x hx; go_simp; (try with_reducible rfl); done)); (try simp only [Act.put, lsa, lsz, lss]))); (refine wpAnyH_done (by kernel_rfl) ?_ _); (have HB4 := Lib.hid (HB3.out.trans (hS4.mono HB3.out.size))); (have HA4 := Lib.hid (HA3.out.below hS4)); (have HW4 := Lib.hid (HW3.out.below hS4)); (clear hS hS4 HX HDEF HB3 HA3 H3H HW3)
            cases df with
            | true =>
              have HR := Lib.hid (HRd.out.trans (if_pos rfl))
              go_wp2_with fail
              go_ret
              exact ⟨by rw [HR.out]; rfl, M, by rw [HR.out]; exact HW4.out, ScOut.below M HB4.out⟩
            | false =>
              have HRe := Lib.hid (HRd.out.trans (if_neg (by simp)))
              (have F4 := HA4.out.facts); (rcases d with _ | e); (focus ((have hD24 : D = 24 := by have := HDD.out; omega); (subst hD24); (have HR := Lib.hid (show R = failS s p i 11 from HRe.out)); (go_wp2_with fail); ((refine (fail_any w4 M B g t s HW4.out p i 11).mono ?_; rintro e w9 ⟨rfl, M', hs9, ho9⟩; go_wp2_with fail; go_ret; exact ⟨by rw [HR.out]; rfl, M', by rw [HR.out]; exact hs9, (ScOut.below M HB4.out).trans ho9⟩)))); (have hD1 : (D == 24) = false := by have := HDD.out; rw [beq_eq_false_iff_ne]; omega); (have hD2 : D + 1 = 24 - (e : Int) := by have := HDD.out; omega); (have hDr : -1 ≤ D ∧ D ≤ 24 := by have := HDD.out; omega); (have HR := Lib.hid (show R = groupS t e p l (i + 1) (i + 1 + N.toNat) s from HRe.out)); (have hgrp := HG.out e rfl w4 M g s p A n c l (i + 1) (i + 1 + N.toNat) HW4.out hst (by omega) (HL.out.below HB4.out) hp (HLI.out.below HB4.out) HLO.out (by omega) HFIT.out); (have e1 : ((i + 1 : Nat) : Int) = (i : Int) + 1 := by omega); (have e2 : ((i + 1 + N.toNat : Nat) : Int) = (i : Int) + 1 + N := by omega); (rw [e1, e2, ← hD2] at hgrp); (have HGR := Lib.hid hgrp); (clear hgrp e1 e2 hD2); (go_wp2_with fail); (refine HGR.out.mono ?_); (rintro e9 w9 ⟨rfl, M', hs9, ho9⟩); (go_wp2_with fail); (go_ret); (exact ⟨by rw [HR.out]; rfl, M', by rw [HR.out]; exact hs9, (ScOut.below M HB4.out).trans ho9⟩)
        · have HRd := Lib.hid (HRc.out.trans (if_neg k45))
          have b4 : (k == 4) = false := by rw [beq_eq_false_iff_ne]; exact fun e => k45 (.inl e)
          have b5 : (k == 5) = false := by rw [beq_eq_false_iff_ne]; exact fun e => k45 (.inr e)
          clear HRc k45
          have hitem := fun hw => item_any W3 M B g t s HW3.out hst p i k m nm Ah nh ch ps N (HPS.out.below HB3.out) p ((i : Int) + 1) ((i : Int) + 1 + N) hw
          have HIT := Lib.hid hitem
          clear hitem HDEF
          by_cases k7 : k = 7
          · subst k7
            have HR := Lib.hid (HRd.out.trans (if_pos rfl))
            have hit := HIT.out (.inl rfl)
            have HI := Lib.hid hit
            clear hit HIT b1 b2 b3 b4 b5
            (go_wp2_with fail); (refine HI.out.mono ?_); (rintro e w9 ⟨rfl, M', hs9, ho9⟩); (go_wp2_with fail); (go_ret); (exact ⟨by rw [HR.out]; rfl, M', by rw [HR.out]; exact hs9, (ScOut.below M HB3.out).trans ho9⟩)
          · have HRe := Lib.hid (HRd.out.trans (if_neg k7))
            have b7 : (k == 7) = false := by rw [beq_eq_false_iff_ne]; exact k7
            clear HRd k7
            by_cases k8 : k = 8
            · subst k8
              have HR := Lib.hid (HRe.out.trans (if_pos rfl))
              have hit := HIT.out (.inr (.inl rfl))
              have HI := Lib.hid hit
              clear hit HIT b1 b2 b3 b4 b5 b7
              (go_wp2_with fail); (refine HI.out.mono ?_); (rintro e w9 ⟨rfl, M', hs9, ho9⟩); (go_wp2_with fail); (go_ret); (exact ⟨by rw [HR.out]; rfl, M', by rw [HR.out]; exact hs9, (ScOut.below M HB3.out).trans ho9⟩)
            · have HRf := Lib.hid (HRe.out.trans (if_neg k8))
              have b8 : (k == 8) = false := by rw [beq_eq_false_iff_ne]; exact k8
              clear HRe k8
              by_cases k9 : k = 9
              · subst k9
                have HR := Lib.hid (HRf.out.trans (if_pos rfl))
                have hit := HIT.out (.inr (.inr rfl))
                have HI := Lib.hid hit
                clear hit HIT b1 b2 b3 b4 b5 b7 b8
                (go_wp2_with fail); (refine HI.out.mono ?_); (rintro e w9 ⟨rfl, M', hs9, ho9⟩); (go_wp2_with fail); (go_ret); (exact ⟨by rw [HR.out]; rfl, M', by rw [HR.out]; exact hs9, (ScOut.below M HB3.out).trans ho9⟩)
              · have HR := Lib.hid (HRf.out.trans (if_neg k9))
                have b9 : (k == 9) = false := by rw [beq_eq_false_iff_ne]; exact k9
                clear HRf k9 HIT
                go_wp2_with fail
                go_ret
                exact ⟨by rw [HR.out]; rfl, M, by rw [HR.out]; exact HW3.out, ScOut.below M HB3.out⟩
end Go.Proofs.YtpeamehplhpcjaaGreatDoor
namespace Go.Proofs.YtpeamehplhpcjaaGreatDoor
def keysH (s : Sst) : List Ln := s.heads.map (·.1)
def GMono (g : Grp) : Prop := ∀ p l fr tu s s', g p l fr tu s = (true, s') → ∀ y ∈ keysH s, y ∈ keysH s'
def NMono (n : Option Grp) : Prop := ∀ g, n = some g → GMono g
theorem fail_no {s s' : Sst} {p : Bs} {n e : Int} (h : failS s p n e = (true, s')) : False := by
  injection h with h _; cases h
theorem file_mono {g : Grp} (hg : GMono g) {p : Bs} {l : List Bs} {s s' : Sst} (h : fileS g p l s = (true, s')) : ∀ y ∈ keysH s, y ∈ keysH s' := by
  unfold fileS at h
  cases hr : g p l 0 l.length { s with files := setM s.files p true, opn := s.opn ++ [p] } with
  | mk b s2 =>
    rw [hr] at h
    injection h with h1 h2
    simp only at h1
    subst h1
    intro y hy
    rw [← h2]
    exact hg _ _ _ _ _ _ hr y hy
theorem item_mono {p : Bs} {n : Int} {x : Itm} {s s' : Sst} (h : itemS p n x s = (true, s')) : s'.heads = s.heads := by
  unfold itemS at h
  split at h
  · exact (fail_no h).elim
  · split at h
    · exact (fail_no h).elim
    · injection h with _ h; rw [← h]
theorem incl_mono (t : List Fil) {nest : Option Grp} (hn : NMono nest) {p : Bs} {n : Int} {ref : Bs} {s s' : Sst} (h : inclS t nest p n ref s = (true, s')) : ∀ y ∈ keysH s, y ∈ keysH s' := by
  unfold inclS at h
  simp only at h
  split at h
  · exact (fail_no h).elim
  · split at h
    · exact (fail_no h).elim
    · split at h
      · exact (fail_no h).elim
      · split at h
        · exact (fail_no h).elim
        · split at h
          · exact (fail_no h).elim
          · rename_i g
            exact file_mono (hn g rfl) h
theorem head_mono (t : List Fil) {nest : Option Grp} (hn : NMono nest) {p : Bs} {l : List Bs} {i : Nat} {hd : Hd} {s s' : Sst} (h : doHead t nest p l i hd s = (true, s')) : ∀ y ∈ keysH s, y ∈ keysH s' := by
  unfold doHead at h
  simp only at h
  split at h
  · exact incl_mono t hn h
  · split at h
    · split at h
      · exact (fail_no h).elim
      · split at h
        · exact (fail_no h).elim
        · injection h with _ h; rw [← h]; exact fun y hy => hy
    · split at h
      · split at h
        · injection h with _ h; rw [← h]; exact fun y hy => hy
        · exact (fail_no h).elim
      · split at h
        · split at h
          · injection h with _ h; rw [← h]; exact fun y hy => hy
          · split at h
            · exact (fail_no h).elim
            · rename_i g
              exact hn g rfl _ _ _ _ _ _ h
        · split at h
          · intro y hy; unfold keysH; rw [item_mono h]; exact hy
          · split at h
            · intro y hy; unfold keysH; rw [item_mono h]; exact hy
            · split at h
              · intro y hy; unfold keysH; rw [item_mono h]; exact hy
              · injection h with _ h; rw [← h]; exact fun y hy => hy
theorem loop_mono (t : List Fil) {nest : Option Grp} (hn : NMono nest) (p : Bs) (l : List Bs) (tu : Nat) : ∀ f i (s s' : Sst), loopS t nest p l tu f i s = (true, s') → ∀ y ∈ keysH s, y ∈ keysH s' := by
  intro f
  induction f with
  | zero => intro i s s' h; injection h with _ h; rw [← h]; exact fun y hy => hy
  | succ f ih =>
    intro i s s' h
    unfold loopS at h
    split at h
    · injection h with _ h; rw [← h]; exact fun y hy => hy
    · split at h
      · exact (fail_no h).elim
      · simp only at h
        split at h
        · exact (fail_no h).elim
        · split at h
          · exact (fail_no h).elim
          · cases hr : doHead t nest p l i (parseH (l.getD i [])).1 { s with count := s.count + 1, heads := setM s.heads ⟨p, i⟩ true } with
            | mk b s2 =>
              rw [hr] at h
              cases b with
              | false => simp only [Bool.not_false, if_true] at h; injection h with h _; cases h
              | true =>
                simp only [Bool.not_true, Bool.false_eq_true, if_false] at h
                intro y hy
                refine ih _ _ _ h y (head_mono t hn hr y ?_)
                exact (keys_setM _ _ _ _).2 (.inr hy)
theorem group_mono (t : List Fil) : ∀ d, GMono (groupS t d) := by
  intro d
  induction d with
  | zero => intro p l fr tu s s' h; exact loop_mono t (fun g hg => by cases hg) p l tu _ _ s s' h
  | succ d ih => intro p l fr tu s s' h; exact loop_mono t (fun g hg => by injection hg with hg; subst hg; exact ih) p l tu _ _ s s' h
end Go.Proofs.YtpeamehplhpcjaaGreatDoor
