/- A part of the proofs of the laws of one package; see the law's own text, which comes last in 'order'. No conditions of its own. -/
import Derived.Test.YtpeamehplhpcjaaGreatDoorZ33
import Derived.Test.YtpeamehplhpcjaaGreatDoorZ34
import Derived.Test.YtpeamehplhpcjaaGreatDoorZ35
import Derived.Test.YtpeamehplhpcjaaGreatDoorZ36
set_option linter.unusedVariables false
set_option linter.unusedSimpArgs false
namespace Go.Proofs.YtpeamehplhpcjaaGreatDoor
open Go.RowKit
structure HbR (z : World) (gh gb : Nat) (p : Bs) (k : Nat) (k0 m0 : Int) (nm : Bs) (A : Option Addr) (n c : Nat) (N : Int) : Prop where
  hd : z.heap[gh]? = some (.cells #[.int .i64 k0, .int .i64 m0, .string ⟨nm.toArray⟩, .slice A n c, .int .i64 N] 79 (0, 0))
  bd : z.heap[gb]? = some (.cells #[.string ⟨p.toArray⟩, .int .i64 ((k : Int) + 1), .int .i64 ((k : Int) + 1 + N)] 46 (0, 0))
section
variable {z z' : World} {gh gb : Nat} {p : Bs} {k : Nat} {k0 m0 : Int} {nm : Bs} {A : Option Addr} {n c : Nat} {N : Int}
theorem HbR.below (h : HbR z gh gb p k k0 m0 nm A n c N) (hb : Below z.heap.size z z') : HbR z' gh gb p k k0 m0 nm A n c N := ⟨keptBlk hb h.hd, keptBlk hb h.bd⟩
theorem HbR.facts (h : HbR z gh gb p k k0 m0 nm A n c N) : z.cell? ⟨gh, 0, none⟩ = some (.int .i64 k0) ∧ z.cell? ⟨gh, 1, none⟩ = some (.int .i64 m0) ∧ z.cell? ⟨gh, 2, none⟩ = some (.string ⟨nm.toArray⟩) ∧ z.cell? ⟨gh, 3, none⟩ = some (.slice A n c) ∧ z.cell? ⟨gh, 4, none⟩ = some (.int .i64 N) ∧
    z.cell? ⟨gb, 0, none⟩ = some (.string ⟨p.toArray⟩) ∧ z.cell? ⟨gb, 1, none⟩ = some (.int .i64 ((k : Int) + 1)) ∧ z.cell? ⟨gb, 2, none⟩ = some (.int .i64 ((k : Int) + 1 + N)) :=
  ⟨(cell_blk h.hd 0).trans rfl, (cell_blk h.hd 1).trans rfl, (cell_blk h.hd 2).trans rfl, (cell_blk h.hd 3).trans rfl, (cell_blk h.hd 4).trans rfl, (cell_blk h.bd 0).trans rfl, (cell_blk h.bd 1).trans rfl, (cell_blk h.bd 2).trans rfl⟩
end
theorem rincl_ok (t : List Fil) (hT : TOk t) (deep : Bool) (p ref : Bs) (s : Rst) (h : (rincl t deep p ref s).2.2 = 0) : (rincl t deep p ref s).1.length ≤ 1000 ∧ LOk (rincl t deep p ref s).2.1 ∧ deep = false := by
  have e : rincl t deep p ref s = (if (refS ((splitS 47 p).headD []) ref).2 ≠ 0 then ([], [], (refS ((splitS 47 p).headD []) ref).2) else if s.opn.contains (refS ((splitS 47 p).headD []) ref).1 then ([], [], 12) else match findT t (refS ((splitS 47 p).headD []) ref).1 with
    | none => ([], [], 7)
    | some d => if (linesS d).2 ≠ 0 then ([], [], (linesS d).2) else if deep then ([], [], 11) else ((refS ((splitS 47 p).headD []) ref).1, (linesS d).1, 0)) := rfl
  rw [e] at h ⊢
  clear e
  generalize refS ((splitS 47 p).headD []) ref = X at *
  by_cases h1 : X.2 ≠ 0
  · rw [if_pos h1] at h
    exact absurd h h1
  · rw [if_neg h1] at h ⊢
    by_cases h2 : s.opn.contains X.1 = true
    · rw [if_pos h2] at h; cases h
    · rw [if_neg h2] at h ⊢
      cases hx : findT t X.1 with
      | none => rw [hx] at h; cases h
      | some dd =>
        rw [hx] at h
        simp only at h ⊢
        by_cases h3 : (linesS dd).2 ≠ 0
        · rw [if_pos h3] at h
          exact absurd h h3
        · rw [if_neg h3] at h ⊢
          cases deep with
          | true => cases h
          | false =>
            have hk := find_ok hT hx
            exact ⟨by show X.1.length ≤ 1000; omega, lines_ok (by simpa using h3) hk.2, rfl⟩
set_option maxRecDepth 100000 in
set_option maxHeartbeats 8000000 in
theorem rgrp_any (d : Nat) (t : List Fil) (B : Nat) (hf : ∀ e, d = e + 1 → RFileOk e t B) (hgr : ∀ e, d = e + 1 → RGrpOk e t B) (hT : TOk t) (hd : d ≤ 24) : RGrpOk d t B := by
  intro W M g p0 s q p A n c l fr tq H hst hop hp hl hlo hfr htq
  obtain ⟨R, hR⟩ : ∃ R, R = rgroup t d p l fr tq s := ⟨_, rfl⟩
  rw [← hR]
  rw [rgroup_nest] at hR
  obtain ⟨D, hD⟩ : ∃ D : Int, D = 24 - (d : Int) := ⟨_, rfl⟩
  rw [← hD]
  have hln := hl.len
  have hnc := hl.2.1
  have hle := hl.le
  subst hln
  have hlo1 := hlo.1
  have HR0 : Hid (R = rloop t (rnest t d) p l tq (tq - fr) fr s) := hR
  have HH := Lib.hid H; have HLI := Lib.hid hl; have HLO := Lib.hid hlo; have HST := Lib.hid hst; have HFO := Lib.hid hf; have HGO := Lib.hid hgr; have HTT := Lib.hid hT; have HDD := Lib.hid hD
  clear hR H hl hf hgr hlo hD hst hT
  go_enter Tryz.func97, Tryz.ntmps97
  go_upto_region 1 with fail
  have hG0 : GrR W M B g q t p0 s (W.alloc (.cells #[.int .i64 0, .int .i64 0, .int .i64 0, .string ⟨#[]⟩, .int .i64 0] 40)) (fun k => M k ∨ k = W.heap.size) q s := GrR.start HH.out
  generalize (W.alloc (.cells #[.int .i64 0, .int .i64 0, .int .i64 0, .string ⟨#[]⟩, .int .i64 0] 40)) = W0 at *
  have HG0 := Lib.hid hG0
  clear hG0
  go_wp2_with fail
  go_loopw [13] (fun i wr => ∃ (k : Nat) (s1 : Rst) (M1 : Nat → Prop) (q1 : RcP), k ≤ tq ∧ i = .int .i64 k ∧ GrR W M B g q t p0 s wr M1 q1 s1 ∧ RIv s1 ∧ s1.opn = s.opn ∧ Hid (R = rloop t (rnest t d) p l tq (tq - k) k s1)) (fun i _ => tq - (intOf i).toNat)
  case atStart => exact ⟨fr, s, _, q, hfr, rfl, HG0.out, HST.out, rfl, HR0⟩
  case round =>
    obtain ⟨k, s1, M1, q1, hk, rfl, hG, hri, hopn, hf⟩ := hrel
    have HG := Lib.hid hG; have HRI := Lib.hid hri; have HOPN := Lib.hid hopn
    clear hG hri hopn HG0 HR0
    by_cases hlt : k < tq
    · have hkl : k < l.length := by omega
      have hst := hf.out
      rw [rloop_step t (rnest t d) p l tq k s1 hlt hkl] at hst
      have hlen := HLO.out.2 _ (List.getElem_mem hkl)
      have hpn := parse_n (l := l[k])
      have hpm := parse_name l[k]
      have hpa := fun w => rparse_any l[k] w (by omega)
      simp only [rparse_eq] at hpa
      have hstr := fun (w1 : World) (M9 : Nat → Prop) (q9 : RcP) (s9 : Rst) (h : GrR W M B g q t p0 s w1 M9 q9 s9) => (h.lines HLI.out (by decide)).str hkl
      generalize l[k] = lk at *
      generalize parseH lk = X at *
      obtain ⟨⟨k0, m0, nm, ps, N⟩, ec⟩ := X
      simp only at hst hpn hpm hpa
      have hnm : nm.length ≤ 65536 := by
        rcases hpm with h | h
        · rw [h]; simp
        · have := h.length_le; omega
      have hco := HRI.out.co
      have hhe := HRI.out.he
      have HST1 := Lib.hid hst; have HPA := Lib.hid hpa; have HSTR := Lib.hid hstr; have HPN := Lib.hid hpn
      have hcc := HG.out.rc.cells
      unfold rcC at hcc
      have c8 := (cell_blk hcc 8).trans rfl
      have f8 := frz_blk hcc 8
      clear hst hf hpn hpm hpa hstr hlen hcc
      by_cases hc : 2048 ≤ s1.count
      · have hcI : (2048 : Int) ≤ (s1.count : Int) := by omega
        have HR2 := Lib.hid (HST1.out.trans (if_pos hc))
        (go_wp2_with fail); (refine (rfault_any 10 p k _).mono ?_); (rintro x w9 ⟨rfl, hb9⟩); (have HG9 := Lib.hid (HG.out.below hb9)); (clear hb9); (unfold vFlt rflt); ((have hzz := HG9.out.res); (unfold oFlt at hzz); (have z0 := (cell_blk hzz 0).trans rfl); (have z1 := (cell_blk hzz 1).trans rfl); (have z2 := (cell_blk hzz 2).trans rfl); (have z3 := (cell_blk hzz 3).trans rfl); (have z4 := (cell_blk hzz 4).trans rfl); (have fz0 := frz_blk hzz 0); (have fz1 := frz_blk hzz 1); (have fz2 := frz_blk hzz 2); (have fz3 := frz_blk hzz 3); (have fz4 := frz_blk hzz 4); (have HZZ := Lib.hid hzz); (clear hzz)); (go_wp2_with fail); ((have hRF := set5' _ HZZ.out 0 1 2 3 4 (.int .i64 10) (.int .i64 (-1)) (.int .i64 (-1)) (.string ⟨p.toArray⟩) (.int .i64 k)); (have q0 := (cell_blk hRF 0).trans rfl); (have q1 := (cell_blk hRF 1).trans rfl); (have q2 := (cell_blk hRF 2).trans rfl); (have q3 := (cell_blk hRF 3).trans rfl); (have q4 := (cell_blk hRF 4).trans rfl); (refine bodyPost_ret (v := .agg #[.int .i64 10, .int .i64 (-1), .int .i64 (-1), .string ⟨p.toArray⟩, .int .i64 k]) (by simp [results, Tryz.results97, go_sem, q0, q1, q2, q3, q4]) rfl ?_); (obtain ⟨M', q', h1, h2⟩ := HG9.out.fin (.int .i64 10) (.int .i64 (-1)) (.int .i64 (-1)) (.string ⟨p.toArray⟩) (.int .i64 k))); (exact ⟨by rw [HR2.out]; rfl, M', q', by rw [HR2.out]; exact h1, h2⟩)
      · have hcI : ¬ (2048 : Int) ≤ (s1.count : Int) := by omega
        have HST2 := Lib.hid (HST1.out.trans (if_neg hc))
        go_upto_region 6 with fail
        have hC := HG.out.rc.count (s1.count + 1)
        have hG2 : GrR W M B g q t p0 s (wr.setCell ⟨g, 8, none⟩ (.int .i64 ((s1.count : Int) + 1))) M1 q1 { s1 with count := s1.count + 1 } := HG.out.step hC.1 hC.2
        clear c8 f8 hC HG
        generalize (wr.setCell ⟨g, 8, none⟩ (.int .i64 ((s1.count : Int) + 1))) = W2 at *
        obtain ⟨b3, o3, rfl, -, hb3, c3⟩ := HSTR.out _ _ _ _ hG2
        have HG2 := Lib.hid hG2
        clear hG2
        go_wp2_with fail
        refine (HPA.out W2).mono ?_
        rintro e w4 ⟨v, rfl, ⟨Ah, nh, ch, rfl, hps⟩, hb4⟩
        simp only at hps
        have HG4 := Lib.hid (HG2.out.below hb4)
        have hps4 : Sl w4 (fun j => ¬ M1 j) Ah nh ch ps := hps.wide (fun j _ hj hm => by have := HG2.out.rc.lt j hm; omega) (by decide)
        have HPS4 := Lib.hid hps4
        clear hps hps4 hb4 HPA c3 hb3 HG2
        go_upto_region 7 with fail
        have hb5 : Below w4.heap.size w4 (w4.alloc (.cells #[.int .i64 k0, .int .i64 m0, .string ⟨nm.toArray⟩, .slice Ah nh ch, .int .i64 N] 79)) := boxed
        have hd5 := blkAt w4 (.cells #[.int .i64 k0, .int .i64 m0, .string ⟨nm.toArray⟩, .slice Ah nh ch, .int .i64 N] 79) rfl
        have hngh : ¬ M1 w4.heap.size := fun hm => by have := HG4.out.rc.lt _ hm; omega
        generalize (w4.alloc (.cells #[.int .i64 k0, .int .i64 m0, .string ⟨nm.toArray⟩, .slice Ah nh ch, .int .i64 N] 79)) = w5 at *
        have HG5 := Lib.hid (HG4.out.below hb5); have HD5 := Lib.hid hd5; have HPS5 := Lib.hid (HPS4.out.below hb5); have HNH := Lib.hid hngh
        clear hb5 hd5 hngh HG4 HPS4
        generalize w4.heap.size = gh at *
        have d4 := (cell_blk HD5.out 4).trans rfl
        by_cases hec : ec ≠ 0
        · have HR2 := Lib.hid (HST2.out.trans (if_pos hec))
          have hE : (ec != 0) = true := by rw [bne_iff_ne]; exact hec
          have hE0 : (ec == 0) = false := by rw [beq_eq_false_iff_ne]; exact hec
          clear hec
          (go_wp2_with fail); (refine (rfault_any ec p k _).mono ?_); (rintro x w9 ⟨rfl, hb9⟩); (have HG9 := Lib.hid (HG5.out.below hb9)); (clear hb9); (unfold vFlt rflt); ((have hzz := HG9.out.res); (unfold oFlt at hzz); (have z0 := (cell_blk hzz 0).trans rfl); (have z1 := (cell_blk hzz 1).trans rfl); (have z2 := (cell_blk hzz 2).trans rfl); (have z3 := (cell_blk hzz 3).trans rfl); (have z4 := (cell_blk hzz 4).trans rfl); (have fz0 := frz_blk hzz 0); (have fz1 := frz_blk hzz 1); (have fz2 := frz_blk hzz 2); (have fz3 := frz_blk hzz 3); (have fz4 := frz_blk hzz 4); (have HZZ := Lib.hid hzz); (clear hzz)); (go_wp2_with fail); ((have hRF := set5' _ HZZ.out 0 1 2 3 4 (.int .i64 ec) (.int .i64 (-1)) (.int .i64 (-1)) (.string ⟨p.toArray⟩) (.int .i64 k)); (have q0 := (cell_blk hRF 0).trans rfl); (have q1 := (cell_blk hRF 1).trans rfl); (have q2 := (cell_blk hRF 2).trans rfl); (have q3 := (cell_blk hRF 3).trans rfl); (have q4 := (cell_blk hRF 4).trans rfl); (refine bodyPost_ret (v := .agg #[.int .i64 ec, .int .i64 (-1), .int .i64 (-1), .string ⟨p.toArray⟩, .int .i64 k]) (by simp [results, Tryz.results97, go_sem, q0, q1, q2, q3, q4]) rfl ?_); (obtain ⟨M', q', h1, h2⟩ := HG9.out.fin (.int .i64 ec) (.int .i64 (-1)) (.int .i64 (-1)) (.string ⟨p.toArray⟩) (.int .i64 k))); (exact ⟨by rw [HR2.out]; rfl, M', q', by rw [HR2.out]; exact h1, h2⟩)
        · have hec0 : ec = 0 := by omega
          subst hec0
          obtain ⟨hN0, hN1⟩ := HPN.out rfl
          have HST3 := Lib.hid (HST2.out.trans (if_neg hec))
          clear hec HST2 HST1
          by_cases hsh : (tq : Int) < (k : Int) + 1 + N
          · have HR2 := Lib.hid (HST3.out.trans (if_pos hsh))
            (go_wp2_with fail); (refine (rfault_any 13 p k _).mono ?_); (rintro x w9 ⟨rfl, hb9⟩); (have HG9 := Lib.hid (HG5.out.below hb9)); (clear hb9); (unfold vFlt rflt); ((have hzz := HG9.out.res); (unfold oFlt at hzz); (have z0 := (cell_blk hzz 0).trans rfl); (have z1 := (cell_blk hzz 1).trans rfl); (have z2 := (cell_blk hzz 2).trans rfl); (have z3 := (cell_blk hzz 3).trans rfl); (have z4 := (cell_blk hzz 4).trans rfl); (have fz0 := frz_blk hzz 0); (have fz1 := frz_blk hzz 1); (have fz2 := frz_blk hzz 2); (have fz3 := frz_blk hzz 3); (have fz4 := frz_blk hzz 4); (have HZZ := Lib.hid hzz); (clear hzz)); (go_wp2_with fail); ((have hRF := set5' _ HZZ.out 0 1 2 3 4 (.int .i64 13) (.int .i64 (-1)) (.int .i64 (-1)) (.string ⟨p.toArray⟩) (.int .i64 k)); (have q0 := (cell_blk hRF 0).trans rfl); (have q1 := (cell_blk hRF 1).trans rfl); (have q2 := (cell_blk hRF 2).trans rfl); (have q3 := (cell_blk hRF 3).trans rfl); (have q4 := (cell_blk hRF 4).trans rfl); (refine bodyPost_ret (v := .agg #[.int .i64 13, .int .i64 (-1), .int .i64 (-1), .string ⟨p.toArray⟩, .int .i64 k]) (by simp [results, Tryz.results97, go_sem, q0, q1, q2, q3, q4]) rfl ?_); (obtain ⟨M', q', h1, h2⟩ := HG9.out.fin (.int .i64 13) (.int .i64 (-1)) (.int .i64 (-1)) (.string ⟨p.toArray⟩) (.int .i64 k))); (exact ⟨by rw [HR2.out]; rfl, M', q', by rw [HR2.out]; exact h1, h2⟩)
          · have HST4 := Lib.hid (HST3.out.trans (if_neg hsh))
            clear HST3
            have hcc := HG5.out.rc.cells
            unfold rcC at hcc
            have c5 := (cell_blk hcc 5).trans rfl
            have hal := addLine_any q1.hA q1.hn q1.hc w5 _ s1.heads HG5.out.rc.heads p k (by omega) (by omega) (by omega)
            have HAL := Lib.hid hal
            clear hal hcc
            go_upto_region 11 with fail
            go_wp2_with fail
            refine HAL.out.mono ?_
            rintro e w6 ⟨A6, n6, c6, rfl, hs6, hb6⟩
            have HG6 := Lib.hid (HG5.out.below hb6)
            have hs6' : Sl w6 (fun j => ¬ M1 j) A6 n6 c6 (addR s1.heads ⟨p, k, (k : Int) + 1⟩ false) := hs6.wide (fun j _ hj hm => by have := HG5.out.rc.lt j hm; omega) (by decide)
            have HS6 := Lib.hid hs6'
            have HD6 := Lib.hid (keptBlk hb6 HD5.out)
            have HPS6 := Lib.hid (HPS5.out.below hb6)
            have hcc := HG6.out.rc.cells
            unfold rcC at hcc
            clear c5 hs6 hs6' hb6 HD5 HPS5 HG5 d4 HAL
            have c5 := (cell_blk hcc 5).trans rfl
            have f5 := frz_blk hcc 5
            clear hcc
            go_upto_region 12 with fail
            have hH := HG6.out.rc.heads' _ HS6.out
            have hG7 : GrR W M B g q t p0 s (w6.setCell ⟨g, 5, none⟩ (.slice A6 n6 c6)) M1 { q1 with hA := A6, hn := n6, hc := c6 } (rtick s1 p k) := HG6.out.step hH.1 hH.2
            have hd7 := hH.2.out.blk HD6.out HNH.out
            have hps7 := hH.2.out.slN HPS6.out (by decide)
            clear c5 f5 hH HG6 HS6 HD6 HPS6
            generalize (w6.setCell ⟨g, 5, none⟩ (.slice A6 n6 c6)) = w7 at *
            generalize ({ q1 with hA := A6, hn := n6, hc := c6 } : RcP) = q2 at *
            have HG7 := Lib.hid hG7; have HD7 := Lib.hid hd7; have HPS7 := Lib.hid hps7
            clear hG7 hd7 hps7
            have d4 := (cell_blk HD7.out 4).trans rfl
            go_upto_region 13 with fail
            have hb8 : Below w7.heap.size w7 (w7.alloc (.cells #[.string ⟨p.toArray⟩, .int .i64 ((k : Int) + 1), .int .i64 ((k : Int) + 1 + N)] 46)) := boxed
            have hB8 : HbR (w7.alloc (.cells #[.string ⟨p.toArray⟩, .int .i64 ((k : Int) + 1), .int .i64 ((k : Int) + 1 + N)] 46)) gh w7.heap.size p k k0 m0 nm Ah nh ch N := ⟨blkOld HD7.out _, blkAt _ _ rfl⟩
            have hngb : ¬ M1 w7.heap.size := fun hm => by have := HG7.out.rc.lt _ hm; omega
            generalize (w7.alloc (.cells #[.string ⟨p.toArray⟩, .int .i64 ((k : Int) + 1), .int .i64 ((k : Int) + 1 + N)] 46)) = w8 at *
            have HG8 := Lib.hid (HG7.out.below hb8); have HPS8 := Lib.hid (HPS7.out.below hb8); have HB8 := Lib.hid hB8; have HNB := Lib.hid hngb
            clear hb8 hB8 hngb HG7 HPS7 HD7 d4
            generalize w7.heap.size = gb at *
            have hr2 := rkeep_tick p k HRI.out (by omega)
            have hkp := rkeep_head t (rkeep_nest t d) p l k ⟨k0, m0, nm, ps, N⟩ hr2.1 hr2.2.2
            have hop2 : (rtick s1 p k).opn = s.opn := hr2.2.1.trans HOPN.out
            obtain ⟨s2, hs2⟩ : ∃ s2, s2 = rtick s1 p k := ⟨_, rfl⟩
            rw [← hs2] at hkp hr2 hop2 HG8 HST4
            clear hs2
            obtain ⟨Y, hY⟩ : ∃ Y, Y = rhead t (rnest t d) p l k ⟨k0, m0, nm, ps, N⟩ s2 := ⟨_, rfl⟩
            rw [← hY] at hkp HST4
            unfold rhead at hY
            simp only at hY
            have HKP := Lib.hid hkp; have HR22 := Lib.hid hr2; have HOP2 := Lib.hid hop2; have HY := Lib.hid hY
            clear hkp hr2 hop2 hY HRI HOPN
            have hN1' : N ≤ 1024 := hN1
            have F8 := HB8.out.facts
            go_upto_block 2 with fail
            go_cut [15, 17, 18, 19, 20, 21] from 23 to 201 (fun e15 e17 e18 e19 e20 e21 wx => ∃ (er : Int) (s3 : Rst) (M3 : Nat → Prop) (q3 : RcP), e15 = .int .i64 er ∧ GrR W M B g q t p0 s wx M3 q3 s3 ∧ wx.heap[gb]? = some (.cells #[.string ⟨p.toArray⟩, .int .i64 ((k : Int) + 1), .int .i64 ((k : Int) + 1 + N)] 46 (0, 0)) ∧ Hid (Y.2 = s3 ∧ (er = 0 → Y.1.err = 0) ∧ (er ≠ 0 → Y.1 = rflt er p k)))
            case first =>
              have hD1 : D ≤ 24 ∧ -1 ≤ D := by have := HDD.out; omega
              by_cases k1 : k0 = 1
              · subst k1
                have hdeep : decide (24 ≤ D) = (rnest t d).isNone := by
                  have := HDD.out
                  cases d with
                  | zero => exact decide_eq_true (by omega)
                  | succ e => exact decide_eq_false (by omega)
                have hin := rincl_any w8 M1 B g t p0 s2 ⟨q2, HG8.out.rc⟩ p nm D (by omega) (by omega) (fun d p h => by have := (find_ok HTT.out h).2; omega)
                have hok := rincl_ok t HTT.out (rnest t d).isNone p nm s2
                rw [hdeep] at hin
                have hy := HY.out.trans (if_pos rfl)
                generalize rincl t (rnest t d).isNone p nm s2 = X at *
                obtain ⟨xp, xl, xe⟩ := X
                simp only at hin hok hy
                have HIN := Lib.hid hin; have HOK := Lib.hid hok; have HY1 := Lib.hid hy
                clear hin hok hy hdeep HY
                go_wp2_with fail
                refine HIN.out.mono ?_
                rintro e wA ⟨A9, n9, c9, rfl, hs9, hbA⟩
                have HGA := Lib.hid (HG8.out.below hbA)
                have HBA := Lib.hid (keptBlk hbA HB8.out.bd)
                have hs9' : Sl wA (fun j => ¬ M1 j) A9 n9 c9 xl := hs9.wide (fun j _ hj hm => by have := HG8.out.rc.lt j hm; omega) (by decide)
                have HS9 := Lib.hid hs9'
                clear hs9 hs9' hbA HG8 HB8 HPS8 HIN F8
                by_cases hxe : xe ≠ 0
                · have hxb : (xe != 0) = true := by rw [bne_iff_ne]; exact hxe
                  have hYe : Y = (rflt xe p k, s2) := HY1.out.trans (if_pos hxe)
                  have HR2 := Lib.hid (show R = (rflt xe p k, s2) by rw [HST4.out, hYe, if_pos (show (rflt xe p k).err ≠ 0 from hxe)])
                  clear hxe hYe
                  (go_wp2_with fail); (refine (rfault_any xe p k _).mono ?_); (rintro x w9 ⟨rfl, hb9⟩); (have HG9 := Lib.hid (HGA.out.below hb9)); (clear hb9); (unfold vFlt rflt); ((have hzz := HG9.out.res); (unfold oFlt at hzz); (have z0 := (cell_blk hzz 0).trans rfl); (have z1 := (cell_blk hzz 1).trans rfl); (have z2 := (cell_blk hzz 2).trans rfl); (have z3 := (cell_blk hzz 3).trans rfl); (have z4 := (cell_blk hzz 4).trans rfl); (have fz0 := frz_blk hzz 0); (have fz1 := frz_blk hzz 1); (have fz2 := frz_blk hzz 2); (have fz3 := frz_blk hzz 3); (have fz4 := frz_blk hzz 4); (have HZZ := Lib.hid hzz); (clear hzz)); (go_wp2_with fail); ((have hRF := set5' _ HZZ.out 0 1 2 3 4 (.int .i64 xe) (.int .i64 (-1)) (.int .i64 (-1)) (.string ⟨p.toArray⟩) (.int .i64 k)); (have q0 := (cell_blk hRF 0).trans rfl); (have q1 := (cell_blk hRF 1).trans rfl); (have q2 := (cell_blk hRF 2).trans rfl); (have q3 := (cell_blk hRF 3).trans rfl); (have q4 := (cell_blk hRF 4).trans rfl); (refine bodyPost_ret (v := .agg #[.int .i64 xe, .int .i64 (-1), .int .i64 (-1), .string ⟨p.toArray⟩, .int .i64 k]) (by simp [results, Tryz.results97, go_sem, q0, q1, q2, q3, q4]) rfl ?_); (obtain ⟨M', q', h1, h2⟩ := HG9.out.fin (.int .i64 xe) (.int .i64 (-1)) (.int .i64 (-1)) (.string ⟨p.toArray⟩) (.int .i64 k))); (exact ⟨by rw [HR2.out]; rfl, M', q', by rw [HR2.out]; exact h1, h2⟩)
                · have hy2 := HY1.out.trans (if_neg hxe)
                  have hx0 : xe = 0 := by omega
                  subst hx0
                  obtain ⟨hxp, hxl, hdn⟩ := HOK.out rfl
                  obtain ⟨e', rfl⟩ : ∃ e', d = e' + 1 := by
                    cases d with
                    | zero => cases hdn
                    | succ e' => exact ⟨e', rfl⟩
                  have hfl := HFO.out e' rfl wA M1 g p0 s2 q2 xp A9 n9 c9 xl HGA.out.rc HR22.out.1 HR22.out.2.2 (by rw [HOP2.out]; omega) hxp HS9.out hxl
                  have hD2 : (24 : Int) - (e' : Int) = D + 1 := by have := HDD.out; omega
                  rw [hD2] at hfl
                  obtain ⟨Z, hZ⟩ : ∃ Z, Z = rfile (rgroup t e') xp xl s2 := ⟨_, rfl⟩
                  rw [← hZ] at hfl
                  have hyz : Y = Z := (show Y = rfile (rgroup t e') xp xl s2 from hy2).trans hZ.symm
                  obtain ⟨⟨fe, fk, fs, ⟨fp, fn9⟩⟩, sZ⟩ := Z
                  unfold vFlt at hfl
                  simp only at hfl
                  have HYZ := Lib.hid hyz; have HFL := Lib.hid hfl
                  clear hyz hfl hZ hD2 hy2 hxp hxl hdn HOK HY1 hxe HS9
                  go_wp2_with fail
                  refine HFL.out.mono ?_
                  clear HFL
                  (rintro e wB ⟨rfl, M', q', hr, ht⟩); (have HGB := Lib.hid (HGA.out.step hr ht)); (have HBB := Lib.hid (ht.out.blk HBA.out HNB.out)); (clear hr ht); (go_upto_region 19 with fail); (have hbx : Below wB.heap.size wB (wB.alloc (.cells #[.int .i64 fe, .int .i64 fk, .int .i64 fs, .string ⟨fp.toArray⟩, .int .i64 fn9] 40)) := boxed); (have hfx := blkAt wB (.cells #[.int .i64 fe, .int .i64 fk, .int .i64 fs, .string ⟨fp.toArray⟩, .int .i64 fn9] 40) rfl); (generalize (wB.alloc (.cells #[.int .i64 fe, .int .i64 fk, .int .i64 fs, .string ⟨fp.toArray⟩, .int .i64 fn9] 40)) = wC at *); (have HGC := Lib.hid (HGB.out.below hbx)); (have HBC := Lib.hid (keptBlk hbx HBB.out)); (have x0 := (cell_blk hfx 0).trans rfl); (have x1 := (cell_blk hfx 1).trans rfl); (have x2 := (cell_blk hfx 2).trans rfl); (have x3 := (cell_blk hfx 3).trans rfl); (have x4 := (cell_blk hfx 4).trans rfl); (clear hbx hfx HGB HBB HGA HBA); (by_cases hfe : fe ≠ 0); (focus ((have hfeb : (fe != 0) = true := by (rw [bne_iff_ne]; exact hfe)); (have HR2 := Lib.hid (show R = (⟨fe, fk, fs, ⟨fp, fn9⟩⟩, sZ) by (rw [HST4.out, HYZ.out, if_pos (show fe ≠ 0 from hfe)]))); (clear hfe); ((have hzz := HGC.out.res); (unfold oFlt at hzz); (have z0 := (cell_blk hzz 0).trans rfl); (have z1 := (cell_blk hzz 1).trans rfl); (have z2 := (cell_blk hzz 2).trans rfl); (have z3 := (cell_blk hzz 3).trans rfl); (have z4 := (cell_blk hzz 4).trans rfl); (have fz0 := frz_blk hzz 0); (have fz1 := frz_blk hzz 1); (have fz2 := frz_blk hzz 2); (have fz3 := frz_blk hzz 3); (have fz4 := frz_blk hzz 4); (have HZZ := Lib.hid hzz); (clear hzz)); (go_wp2_with fail); ((have hRF := set5' _ HZZ.out 0 1 2 3 4 (.int .i64 fe) (.int .i64 fk) (.int .i64 fs) (.string ⟨fp.toArray⟩) (.int .i64 fn9)); (have q0 := (cell_blk hRF 0).trans rfl); (have q1 := (cell_blk hRF 1).trans rfl); (have q2 := (cell_blk hRF 2).trans rfl); (have q3 := (cell_blk hRF 3).trans rfl); (have q4 := (cell_blk hRF 4).trans rfl); (refine bodyPost_ret (v := .agg #[.int .i64 fe, .int .i64 fk, .int .i64 fs, .string ⟨fp.toArray⟩, .int .i64 fn9]) (by simp [results, Tryz.results97, go_sem, q0, q1, q2, q3, q4]) rfl ?_); (obtain ⟨M', q', h1, h2⟩ := HGC.out.fin (.int .i64 fe) (.int .i64 fk) (.int .i64 fs) (.string ⟨fp.toArray⟩) (.int .i64 fn9))); (exact ⟨by rw [HR2.out]; rfl, M', q', by rw [HR2.out]; exact h1, h2⟩))); (focus ((have hf0 : fe = 0 := by omega); (subst hf0); (go_wp2_with fail); (go_meet); (exact ⟨0, sZ, M', q', rfl, HGC.out, HBC.out, Lib.hid ⟨by rw [HYZ.out], fun _ => by (rw [HYZ.out]), fun h => absurd rfl h⟩⟩)))
              · by_cases k2 : k0 = 2
                · subst k2
                  have hy := (HY.out.trans (if_neg (by decide))).trans (if_pos rfl)
                  have hde := rdefine_any w8 M1 B g t p0 s2 q2 HG8.out.rc ⟨nm, ps, ⟨p, (k : Int) + 1, (k : Int) + 1 + N⟩⟩ Ah nh ch HPS8.out
                  generalize rdefine s2 ⟨nm, ps, ⟨p, (k : Int) + 1, (k : Int) + 1 + N⟩⟩ = r at *
                  obtain ⟨sr, er⟩ := r
                  simp only at hy hde
                  have HDE := Lib.hid hde; have HY1 := Lib.hid hy
                  clear hde hy HY k1
                  (go_wp2_with fail); (refine HDE.out.mono ?_); (rintro e wA ⟨rfl, M', q', hr, ht⟩); (have HGA := Lib.hid (HG8.out.step hr ht)); (have HBA := Lib.hid (ht.out.blk HB8.out.bd HNB.out)); (clear hr ht); (go_wp2_with fail); (go_meet); (exact ⟨er, sr, M', q', rfl, HGA.out, HBA.out, Lib.hid ⟨by (rw [HY1.out]; split <;> rfl), fun h => by (rw [HY1.out, if_neg (by simp [h])]; rfl), fun h => by rw [HY1.out, if_pos h]⟩⟩)
                · by_cases k3 : k0 = 3
                  · subst k3
                    have hy := ((HY.out.trans (if_neg (by decide))).trans (if_neg (by decide))).trans (if_pos rfl)
                    have hde := rundef_any w8 M1 B g t p0 s2 q2 HG8.out.rc nm (by have := HR22.out.1.fl; omega) (by have := HR22.out.1.ma; omega)
                    generalize rundef s2 nm = r at *
                    obtain ⟨sr, er⟩ := r
                    simp only at hy hde
                    have HDE := Lib.hid hde; have HY1 := Lib.hid hy
                    clear hde hy HY k1 k2
                    (go_wp2_with fail); (refine HDE.out.mono ?_); (rintro e wA ⟨rfl, M', q', hr, ht⟩); (have HGA := Lib.hid (HG8.out.step hr ht)); (have HBA := Lib.hid (ht.out.blk HB8.out.bd HNB.out)); (clear hr ht); (go_wp2_with fail); (go_meet); (exact ⟨er, sr, M', q', rfl, HGA.out, HBA.out, Lib.hid ⟨by (rw [HY1.out]; split <;> rfl), fun h => by (rw [HY1.out, if_neg (by simp [h])]; rfl), fun h => by rw [HY1.out, if_pos h]⟩⟩)
                  · by_cases k45 : k0 = 4 ∨ k0 = 5
                    · have hy := (((HY.out.trans (if_neg k1)).trans (if_neg k2)).trans (if_neg k3)).trans (if_pos k45)
                      have hdf := fun w1 (hb : Below w8.heap.size w8 w1) => rdefined_any w1 M1 B g t p0 s2 ⟨q2, HG8.out.rc.below hb⟩ nm
                      generalize rdefined s2 nm = df at *
                      have HDEF := Lib.hid hdf
                      have n1 : (k0 == 1) = false := by rw [beq_eq_false_iff_ne]; exact k1
                      have n2 : (k0 == 2) = false := by rw [beq_eq_false_iff_ne]; exact k2
                      have n3 : (k0 == 3) = false := by rw [beq_eq_false_iff_ne]; exact k3
                      clear hdf HY k1 k2 k3
                      obtain ⟨b4, hb4⟩ : ∃ b4, (k0 == 4) = b4 := ⟨_, rfl⟩
                      have hb4' : decide (k0 = 4) = b4 := by rw [← hb4, Bool.eq_iff_iff]; simp
                      rw [hb4'] at hy
                      obtain ⟨bb, hbb⟩ : ∃ bb, (df == b4) = bb := ⟨_, rfl⟩
                      rw [hbb] at hy
                      have HYB := Lib.hid hy
                      clear hb4' hy
                      go_upto_region 25 with fail
                      go_cut [135] from 136 to 136 (fun v wx => v = .bool b4 ∧ wx = w8)
                      case first =>
                        go_wp2_with fail
                        go_meet
                        exact ⟨by rw [← hb4], rfl⟩
                      case rest =>
                      obtain ⟨rfl, rfl⟩ := hcut
                      go_upto_if 135 with fail
                      go_cut [135] from 137 to 137 (fun v wx => v = .bool true ∧ wx = wc)
                      case first =>
                        rcases k45 with rfl | rfl
                        · have e4 : b4 = true := hb4.symm
                          subst e4
                          go_wp2_with fail
                          go_meet
                          exact ⟨rfl, rfl⟩
                        · have e4 : b4 = false := hb4.symm
                          subst e4
                          go_wp2_with fail
                          go_meet
                          exact ⟨rfl, rfl⟩
                      case rest =>
                      obtain ⟨rfl, rfl⟩ := hcut
                      generalize wc = w8 at *
                      go_upto_region 27 with fail
                      (have HX := Lib.hid (fun (z : World) (hz : Below w8.heap.size w8 z) => (HB8.out.below hz).facts)); (refine wpH_region (fun z => Below w8.heap.size w8 z) (by kernel_rfl) ?_); (have hS : Below w8.heap.size w8 w8.drew := (Below.refl _ _).drew); (clear F8); ((refine tkW 0 (v := ?_) hS ?_ ?_; rotate_left; (focus (intro x hx; have fx := HX.out x hx; go_simp; (try with_reducible rfl); done)); (try simp only [Act.put, lsa, lsz, lss]))); ((refine tkW 1 (v := ?_) hS ?_ ?_; rotate_left; (focus (intro x hx; have fx := HX.out x hx; go_simp; (try with_reducible rfl); done)); (try simp only [Act.put, lsa, lsz, lss]))); ((refine tkW 2 (v := ?_) hS ?_ ?_; rotate_left; (focus (intro x hx; have fx := HX.out x hx; go_simp; (try with_reducible rfl); done)); (try simp only [Act.put, lsa, lsz, lss]))); ((refine tkW 4 (v := ?_) hS ?_ ?_; rotate_left; (focus (intro x hx; have fx := HX.out x hx; go_simp; (try with_reducible rfl); done)); (try simp only [Act.put, lsa, lsz, lss]))); ((refine tkW 5 (v := ?_) hS ?_ ?_; rotate_left; (focus (intro x hx; have fx := HX.out x hx; go_simp; (try with_reducible rfl); done)); (try simp only [Act.put, lsa, lsz, lss]))); ((refine tkW 6 (v := ?_) hS ?_ ?_; rotate_left; (focus (intro x hx; have fx := HX.out x hx; go_simp; (try with_reducible rfl); done)); (try simp only [Act.put, lsa, lsz, lss]))); (refine wpAnyH_one 3 (by kernel_rfl) rfl ?_); (intro K' hK'); (go_simp); (refine (HDEF.out _ hS).mono ?_); (rintro e wA ⟨rfl, hbA⟩); (have hS4 : Below w8.heap.size w8 wA := hS.trans (hbA.mono hS.size)); (refine hK'.out _ _ hS4 ?_); (clear hK' K' hbA hS); (have hS := hS4); ((refine tkW 7 (v := ?_) hS ?_ ?_; rotate_left; (focus (intro x hx; have fx := HX.out x hx; go_simp; (try with_reducible rfl); done)); (try simp only [Act.put, lsa, lsz, lss]))); (refine wpAnyH_done (by kernel_rfl) ?_ _); (have HGA := Lib.hid (HG8.out.below hS4)); (have HBF := Lib.hid (HB8.out.below hS4)); (have HBA := Lib.hid HBF.out.bd); (clear hS hS4 HX HDEF HG8 HB8 HPS8)
                      cases bb with
                      | true =>
                        have HY1 := Lib.hid (HYB.out.trans (if_pos rfl))
                        clear HYB
                        (have HGL := Lib.hid (HGA.out.lines HLI.out (by decide))); (by_cases hd0 : d = 0); (focus ((have hD24 : D = 24 := by (have := HDD.out; omega)); (subst hd0); (have HR2 := Lib.hid (show R = (rflt 11 p k, s2) by (rw [HST4.out, show Y = (rflt 11 p k, s2) from HY1.out]; exact if_pos (show (11 : Int) ≠ 0 by decide)))); (subst hD24); (go_wp2_with fail); (refine (rfault_any 11 p k _).mono ?_); (rintro x w9 ⟨rfl, hb9⟩); (have HG9 := Lib.hid (HGA.out.below hb9)); (clear hb9); (unfold vFlt rflt); ((have hzz := HG9.out.res); (unfold oFlt at hzz); (have z0 := (cell_blk hzz 0).trans rfl); (have z1 := (cell_blk hzz 1).trans rfl); (have z2 := (cell_blk hzz 2).trans rfl); (have z3 := (cell_blk hzz 3).trans rfl); (have z4 := (cell_blk hzz 4).trans rfl); (have fz0 := frz_blk hzz 0); (have fz1 := frz_blk hzz 1); (have fz2 := frz_blk hzz 2); (have fz3 := frz_blk hzz 3); (have fz4 := frz_blk hzz 4); (have HZZ := Lib.hid hzz); (clear hzz)); (go_wp2_with fail); ((have hRF := set5' _ HZZ.out 0 1 2 3 4 (.int .i64 11) (.int .i64 (-1)) (.int .i64 (-1)) (.string ⟨p.toArray⟩) (.int .i64 k)); (have q0 := (cell_blk hRF 0).trans rfl); (have q1 := (cell_blk hRF 1).trans rfl); (have q2 := (cell_blk hRF 2).trans rfl); (have q3 := (cell_blk hRF 3).trans rfl); (have q4 := (cell_blk hRF 4).trans rfl); (refine bodyPost_ret (v := .agg #[.int .i64 11, .int .i64 (-1), .int .i64 (-1), .string ⟨p.toArray⟩, .int .i64 k]) (by simp [results, Tryz.results97, go_sem, q0, q1, q2, q3, q4]) rfl ?_); (obtain ⟨M', q', h1, h2⟩ := HG9.out.fin (.int .i64 11) (.int .i64 (-1)) (.int .i64 (-1)) (.string ⟨p.toArray⟩) (.int .i64 k))); (exact ⟨by rw [HR2.out]; rfl, M', q', by rw [HR2.out]; exact h1, h2⟩))); (focus ((obtain ⟨e', rfl⟩ : ∃ e', d = e' + 1 := ⟨d - 1, by omega⟩); (have hD2 : ¬ (24 : Int) ≤ D := by (have := HDD.out; omega)); (have hgq := HGO.out e' rfl wA M1 g p0 s2 q2 p (some ⟨b3, o3, none⟩) l.length c l (k + 1) (k + 1 + N.toNat) HGA.out.rc HR22.out.1 (by (rw [HOP2.out]; omega)) hp HGL.out HLO.out (by omega) (by omega)); (have e1 : ((k + 1 : Nat) : Int) = (k : Int) + 1 := by omega); (have e2 : ((k + 1 + N.toNat : Nat) : Int) = (k : Int) + 1 + N := by omega); (have e3 : (24 : Int) - (e' : Int) = D + 1 := by (have := HDD.out; omega)); (rw [e1, e2, e3] at hgq); (obtain ⟨Z, hZ⟩ : ∃ Z, Z = rgroup t e' p l (k + 1) (k + 1 + N.toNat) s2 := ⟨_, rfl⟩); (rw [← hZ] at hgq); (have hyz : Y = Z := (show Y = rgroup t e' p l (k + 1) (k + 1 + N.toNat) s2 from HY1.out).trans hZ.symm); (clear hZ e1 e2 e3); (obtain ⟨⟨fe, fk, fs, ⟨fp, fn9⟩⟩, sZ⟩ := Z); (unfold vFlt at hgq); (simp only at hgq); (have HYZ := Lib.hid hyz); (have HGQ := Lib.hid hgq); (clear hyz hgq); (have F9 := HBF.out.facts); (go_wp2_with fail); (refine HGQ.out.mono ?_); (clear F9 HGQ HBF HGL); (rintro e wB ⟨rfl, M', q', hr, ht⟩); (have HGB := Lib.hid (HGA.out.step hr ht)); (have HBB := Lib.hid (ht.out.blk HBA.out HNB.out)); (clear hr ht); (go_upto_region 31 with fail); (have hbx : Below wB.heap.size wB (wB.alloc (.cells #[.int .i64 fe, .int .i64 fk, .int .i64 fs, .string ⟨fp.toArray⟩, .int .i64 fn9] 40)) := boxed); (have hfx := blkAt wB (.cells #[.int .i64 fe, .int .i64 fk, .int .i64 fs, .string ⟨fp.toArray⟩, .int .i64 fn9] 40) rfl); (generalize (wB.alloc (.cells #[.int .i64 fe, .int .i64 fk, .int .i64 fs, .string ⟨fp.toArray⟩, .int .i64 fn9] 40)) = wC at *); (have HGC := Lib.hid (HGB.out.below hbx)); (have HBC := Lib.hid (keptBlk hbx HBB.out)); (have x0 := (cell_blk hfx 0).trans rfl); (have x1 := (cell_blk hfx 1).trans rfl); (have x2 := (cell_blk hfx 2).trans rfl); (have x3 := (cell_blk hfx 3).trans rfl); (have x4 := (cell_blk hfx 4).trans rfl); (clear hbx hfx HGB HBB HGA HBA); (by_cases hfe : fe ≠ 0); (focus ((have hfeb : (fe != 0) = true := by (rw [bne_iff_ne]; exact hfe)); (have HR2 := Lib.hid (show R = (⟨fe, fk, fs, ⟨fp, fn9⟩⟩, sZ) by (rw [HST4.out, HYZ.out, if_pos (show fe ≠ 0 from hfe)]))); (clear hfe); ((have hzz := HGC.out.res); (unfold oFlt at hzz); (have z0 := (cell_blk hzz 0).trans rfl); (have z1 := (cell_blk hzz 1).trans rfl); (have z2 := (cell_blk hzz 2).trans rfl); (have z3 := (cell_blk hzz 3).trans rfl); (have z4 := (cell_blk hzz 4).trans rfl); (have fz0 := frz_blk hzz 0); (have fz1 := frz_blk hzz 1); (have fz2 := frz_blk hzz 2); (have fz3 := frz_blk hzz 3); (have fz4 := frz_blk hzz 4); (have HZZ := Lib.hid hzz); (clear hzz)); (go_wp2_with fail); ((have hRF := set5' _ HZZ.out 0 1 2 3 4 (.int .i64 fe) (.int .i64 fk) (.int .i64 fs) (.string ⟨fp.toArray⟩) (.int .i64 fn9)); (have q0 := (cell_blk hRF 0).trans rfl); (have q1 := (cell_blk hRF 1).trans rfl); (have q2 := (cell_blk hRF 2).trans rfl); (have q3 := (cell_blk hRF 3).trans rfl); (have q4 := (cell_blk hRF 4).trans rfl); (refine bodyPost_ret (v := .agg #[.int .i64 fe, .int .i64 fk, .int .i64 fs, .string ⟨fp.toArray⟩, .int .i64 fn9]) (by simp [results, Tryz.results97, go_sem, q0, q1, q2, q3, q4]) rfl ?_); (obtain ⟨M', q', h1, h2⟩ := HGC.out.fin (.int .i64 fe) (.int .i64 fk) (.int .i64 fs) (.string ⟨fp.toArray⟩) (.int .i64 fn9))); (exact ⟨by rw [HR2.out]; rfl, M', q', by rw [HR2.out]; exact h1, h2⟩))); (focus ((have hf0 : fe = 0 := by omega); (subst hf0); (go_wp2_with fail); (go_meet); (exact ⟨0, sZ, M', q', rfl, HGC.out, HBC.out, Lib.hid ⟨by rw [HYZ.out], fun _ => by (rw [HYZ.out]), fun h => absurd rfl h⟩⟩)))))
                      | false =>
                        have HY1 := Lib.hid (HYB.out.trans (if_neg (by simp)))
                        clear HYB
                        (go_wp2_with fail); (go_meet); (exact ⟨0, s2, M1, q2, rfl, HGA.out, HBA.out, Lib.hid ⟨by rw [HY1.out], fun _ => by (rw [HY1.out]; rfl), fun h => absurd rfl h⟩⟩)
                    · have hy4 := (((HY.out.trans (if_neg k1)).trans (if_neg k2)).trans (if_neg k3)).trans (if_neg k45)
                      have k4 : k0 ≠ 4 := fun h => k45 (.inl h)
                      have k5 : k0 ≠ 5 := fun h => k45 (.inr h)
                      have HY4 := Lib.hid hy4
                      clear hy4 HY k45
                      by_cases k7 : k0 = 7
                      · subst k7
                        have hy := HY4.out.trans (if_pos rfl)
                        have hde : Calls Tryz.prog 143 #[.pointer (some ⟨g, 0, none⟩), .agg #[.string ⟨nm.toArray⟩, .int .i64 3, .int .i64 3, .slice none 0 0, .string ⟨#[]⟩, .int .i64 0, .int .i64 0]] w8 _ := ritem_any w8 M1 B g t p0 s2 q2 HG8.out.rc ⟨nm, 3, 3, [], spn0⟩ none 0 0 (Sl.nil _ _ _ _ (by decide))
                        generalize ritem s2 ⟨nm, 3, 3, [], spn0⟩ = r at *
                        obtain ⟨sr, er⟩ := r
                        simp only at hy hde
                        have HDE := Lib.hid hde; have HY1 := Lib.hid hy
                        clear hde hy HY4 k1 k2 k3 k4 k5
                        (go_wp2_with fail); (refine HDE.out.mono ?_); (rintro e wA ⟨rfl, M', q', hr, ht⟩); (have HGA := Lib.hid (HG8.out.step hr ht)); (have HBA := Lib.hid (ht.out.blk HB8.out.bd HNB.out)); (clear hr ht); (go_wp2_with fail); (go_meet); (exact ⟨er, sr, M', q', rfl, HGA.out, HBA.out, Lib.hid ⟨by (rw [HY1.out]; split <;> rfl), fun h => by (rw [HY1.out, if_neg (by simp [h])]; rfl), fun h => by rw [HY1.out, if_pos h]⟩⟩)
                      · by_cases k8 : k0 = 8
                        · subst k8
                          have hy := (HY4.out.trans (if_neg (by decide))).trans (if_pos rfl)
                          have hde := ritem_any w8 M1 B g t p0 s2 q2 HG8.out.rc ⟨nm, 1, m0, ps, ⟨p, (k : Int) + 1, (k : Int) + 1 + N⟩⟩ Ah nh ch HPS8.out
                          generalize ritem s2 ⟨nm, 1, m0, ps, ⟨p, (k : Int) + 1, (k : Int) + 1 + N⟩⟩ = r at *
                          obtain ⟨sr, er⟩ := r
                          simp only at hy hde
                          have HDE := Lib.hid hde; have HY1 := Lib.hid hy
                          clear hde hy HY4 k1 k2 k3 k4 k5 k7
                          (go_wp2_with fail); (refine HDE.out.mono ?_); (rintro e wA ⟨rfl, M', q', hr, ht⟩); (have HGA := Lib.hid (HG8.out.step hr ht)); (have HBA := Lib.hid (ht.out.blk HB8.out.bd HNB.out)); (clear hr ht); (go_wp2_with fail); (go_meet); (exact ⟨er, sr, M', q', rfl, HGA.out, HBA.out, Lib.hid ⟨by (rw [HY1.out]; split <;> rfl), fun h => by (rw [HY1.out, if_neg (by simp [h])]; rfl), fun h => by rw [HY1.out, if_pos h]⟩⟩)
                        · by_cases k9 : k0 = 9
                          · subst k9
                            have hy := ((HY4.out.trans (if_neg (by decide))).trans (if_neg (by decide))).trans (if_pos rfl)
                            have hde := ritem_any w8 M1 B g t p0 s2 q2 HG8.out.rc ⟨nm, 2, m0, [], ⟨p, (k : Int) + 1, (k : Int) + 1 + N⟩⟩ none 0 0 (Sl.nil _ _ _ _ (by decide))
                            generalize ritem s2 ⟨nm, 2, m0, [], ⟨p, (k : Int) + 1, (k : Int) + 1 + N⟩⟩ = r at *
                            obtain ⟨sr, er⟩ := r
                            simp only at hy hde
                            have HDE := Lib.hid hde; have HY1 := Lib.hid hy
                            clear hde hy HY4 k1 k2 k3 k4 k5 k7 k8
                            (go_wp2_with fail); (refine HDE.out.mono ?_); (rintro e wA ⟨rfl, M', q', hr, ht⟩); (have HGA := Lib.hid (HG8.out.step hr ht)); (have HBA := Lib.hid (ht.out.blk HB8.out.bd HNB.out)); (clear hr ht); (go_wp2_with fail); (go_meet); (exact ⟨er, sr, M', q', rfl, HGA.out, HBA.out, Lib.hid ⟨by (rw [HY1.out]; split <;> rfl), fun h => by (rw [HY1.out, if_neg (by simp [h])]; rfl), fun h => by rw [HY1.out, if_pos h]⟩⟩)
                          · have HY1 := Lib.hid (((HY4.out.trans (if_neg k7)).trans (if_neg k8)).trans (if_neg k9))
                            have n1 : (k0 == 1) = false := by rw [beq_eq_false_iff_ne]; exact k1
                            have n2 : (k0 == 2) = false := by rw [beq_eq_false_iff_ne]; exact k2
                            have n3 : (k0 == 3) = false := by rw [beq_eq_false_iff_ne]; exact k3
                            have n4 : (k0 == 4) = false := by rw [beq_eq_false_iff_ne]; exact k4
                            have n5 : (k0 == 5) = false := by rw [beq_eq_false_iff_ne]; exact k5
                            have n7 : (k0 == 7) = false := by rw [beq_eq_false_iff_ne]; exact k7
                            have n8 : (k0 == 8) = false := by rw [beq_eq_false_iff_ne]; exact k8
                            have n9 : (k0 == 9) = false := by rw [beq_eq_false_iff_ne]; exact k9
                            have HBA := Lib.hid HB8.out.bd
                            clear k1 k2 k3 k4 k5 k7 k8 k9 HY4
                            (go_wp2_with fail); (go_meet); (exact ⟨0, s2, M1, q2, rfl, HG8.out, HBA.out, Lib.hid ⟨by rw [HY1.out], fun _ => by (rw [HY1.out]; rfl), fun h => absurd rfl h⟩⟩)
            case rest =>
              obtain ⟨er, s3, M3, q3, rfl, hG9, hb9, hY9⟩ := hcut
              have HG9 := Lib.hid hG9; have HB9 := Lib.hid hb9
              clear hG9 hb9 HG8 HB8 HPS8 HNB HNH HY F8
              by_cases her : er ≠ 0
              · have hEr : (er != 0) = true := by rw [bne_iff_ne]; exact her
                have hYe : Y = (rflt er p k, s3) := by
                  obtain ⟨h1, -, h3⟩ := hY9.out
                  rw [← h1, ← h3 her]
                have HR2 := Lib.hid (show R = (rflt er p k, s3) by rw [HST4.out, hYe, if_pos (show (rflt er p k).err ≠ 0 from her)])
                clear her hYe
                (go_wp2_with fail); (refine (rfault_any er p k _).mono ?_); (rintro x w9 ⟨rfl, hb9⟩); (have HG9 := Lib.hid (HG9.out.below hb9)); (clear hb9); (unfold vFlt rflt); ((have hzz := HG9.out.res); (unfold oFlt at hzz); (have z0 := (cell_blk hzz 0).trans rfl); (have z1 := (cell_blk hzz 1).trans rfl); (have z2 := (cell_blk hzz 2).trans rfl); (have z3 := (cell_blk hzz 3).trans rfl); (have z4 := (cell_blk hzz 4).trans rfl); (have fz0 := frz_blk hzz 0); (have fz1 := frz_blk hzz 1); (have fz2 := frz_blk hzz 2); (have fz3 := frz_blk hzz 3); (have fz4 := frz_blk hzz 4); (have HZZ := Lib.hid hzz); (clear hzz)); (go_wp2_with fail); ((have hRF := set5' _ HZZ.out 0 1 2 3 4 (.int .i64 er) (.int .i64 (-1)) (.int .i64 (-1)) (.string ⟨p.toArray⟩) (.int .i64 k)); (have q0 := (cell_blk hRF 0).trans rfl); (have q1 := (cell_blk hRF 1).trans rfl); (have q2 := (cell_blk hRF 2).trans rfl); (have q3 := (cell_blk hRF 3).trans rfl); (have q4 := (cell_blk hRF 4).trans rfl); (refine bodyPost_ret (v := .agg #[.int .i64 er, .int .i64 (-1), .int .i64 (-1), .string ⟨p.toArray⟩, .int .i64 k]) (by simp [results, Tryz.results97, go_sem, q0, q1, q2, q3, q4]) rfl ?_); (obtain ⟨M', q', h1, h2⟩ := HG9.out.fin (.int .i64 er) (.int .i64 (-1)) (.int .i64 (-1)) (.string ⟨p.toArray⟩) (.int .i64 k))); (exact ⟨by rw [HR2.out]; rfl, M', q', by rw [HR2.out]; exact h1, h2⟩)
              · have her0 : er = 0 := by omega
                have hR9 : R = rloop t (rnest t d) p l tq (tq - (k + 1 + N.toNat)) (k + 1 + N.toNat) s3 := by
                  obtain ⟨h1, h2, -⟩ := hY9.out
                  rw [HST4.out, if_neg (by rw [h2 her0]; decide), h1]
                have hk3 : RIv s3 ∧ s3.opn = s.opn := by
                  obtain ⟨h1, -, -⟩ := hY9.out
                  rw [← h1]
                  exact ⟨HKP.out.1, HKP.out.2.trans HOP2.out⟩
                have HR9 := Lib.hid hR9; have HK3 := Lib.hid hk3
                subst her0
                clear her hR9 hk3 hY9
                have b2 := (cell_blk HB9.out 2).trans rfl
                have hNn : ((k + 1 + N.toNat : Nat) : Int) = (k : Int) + 1 + N := by omega
                go_wp2_with fail
                go_roundw
                case measure => simp [intOf]; omega
                case rel => exact ⟨k + 1 + N.toNat, s3, M3, q3, by omega, by rw [hNn], HG9.out, HK3.out.1, HK3.out.2, HR9⟩
    · have HR2 := Lib.hid (hf.out.trans (rloop_end _ _ _ _ _ _ _ (by omega)))
      (have hzz := HG.out.res); (unfold oFlt at hzz); (have z0 := (cell_blk hzz 0).trans rfl); (have z1 := (cell_blk hzz 1).trans rfl); (have z2 := (cell_blk hzz 2).trans rfl); (have z3 := (cell_blk hzz 3).trans rfl); (have z4 := (cell_blk hzz 4).trans rfl); (have fz0 := frz_blk hzz 0); (have fz1 := frz_blk hzz 1); (have fz2 := frz_blk hzz 2); (have fz3 := frz_blk hzz 3); (have fz4 := frz_blk hzz 4); (have HZZ := Lib.hid hzz); (clear hzz)
      go_wp2_with fail
      (have hRF := set5' _ HZZ.out 0 1 2 3 4 (.int .i64 0) (.int .i64 0) (.int .i64 0) (.string ⟨#[]⟩) (.int .i64 0)); (have q0 := (cell_blk hRF 0).trans rfl); (have q1 := (cell_blk hRF 1).trans rfl); (have q2 := (cell_blk hRF 2).trans rfl); (have q3 := (cell_blk hRF 3).trans rfl); (have q4 := (cell_blk hRF 4).trans rfl); (refine bodyPost_ret (v := .agg #[.int .i64 0, .int .i64 0, .int .i64 0, .string ⟨#[]⟩, .int .i64 0]) (by simp [results, Tryz.results97, go_sem, q0, q1, q2, q3, q4]) rfl ?_); (obtain ⟨M', q', h1, h2⟩ := HG.out.fin (.int .i64 0) (.int .i64 0) (.int .i64 0) (.string ⟨#[]⟩) (.int .i64 0))
      exact ⟨by rw [HR2.out]; rfl, M', q', by rw [HR2.out]; exact h1, h2⟩
end Go.Proofs.YtpeamehplhpcjaaGreatDoor
