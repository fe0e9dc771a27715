/- Query (package licitlaw54): a part of the proofs of its laws; see the law's own text, which comes last in 'order'. No conditions of its own. -/
import Derived.Deep.CutBlock
import Derived.Test.YtkjoaodoioicpaaGreatDoorWC34
set_option linter.unusedVariables false
set_option linter.unusedSimpArgs false
namespace Go.Proofs.YtkjoaodoioicpaaGreatDoor
open Go.RowKit
variable {N : Nat}
theorem RW.other {w : World} {g : Nat} {p : RSt} (h : RW N w g p) {b : Nat} (hb : g < b) (i : Nat) (v : Value) : RW N (w.setCell ⟨b, i, none⟩ v) g p := h.keepG (fun k hk => set_other _ _ _ _ _ (by omega))
theorem rarg_eq (p : RSt) : rarg p = ((rargOf (rnext p)).1, ((if (rnext p).kind ≠ 0 then p.1.drop 1 else p.1), (p.2 || !(rargOf (rnext p)).2) || !formedS (rargOf (rnext p)).1)) := rfl
set_option maxRecDepth 100000 in
set_option maxHeartbeats 4000000 in
theorem rargR_any (g : Nat) (p : RSt) (w : World) (h : RW N w g p) :
    Calls Tryz.prog 102 #[.pointer (some ⟨g, 0, none⟩)] w fun e w' => e = .returned (vArg (rarg p).1) ∧ RW N w' g (rarg p).2 ∧ Frm (MG g) w w' := by
  rw [rarg_eq]
  have hgw := h.lt
  have hn := rnext_any g p (w.alloc (.cells #[.int .i64 0, .string ⟨#[]⟩, .int .i64 0] 46)) (h.alloc _)
  have hok := h.nextOk
  have hadv := fun w' (h' : RW N w' g p) => h'.adv
  have hoa := okA_rargOf hok
  obtain ⟨t, ht⟩ : ∃ t, t = rnext p := ⟨_, rfl⟩
  rw [← ht] at hn hok hadv hoa ⊢
  obtain ⟨tk, tt⟩ := t
  obtain ⟨pl, pb⟩ := p
  unfold vTk at hn
  simp only at hn hok hadv hoa ⊢
  have HN := Lib.hid hn; have HH := Lib.hid h; have HADV := Lib.hid hadv; have HOA := Lib.hid hoa
  obtain ⟨ok1, ok2, ok3⟩ := hok
  simp only at ok1 ok2 ok3
  have HNUM := Lib.hid ok3
  clear hn h hadv ht ok3 hoa
  by_cases hk0 : tk = 0
  · subst hk0
    have hro : rargOf ⟨0, tt⟩ = (⟨0, [], 0⟩, true) := rfl
    rw [hro] at HOA ⊢
    rw [if_neg (by simp)]
    simp only at HOA ⊢
    have hfo := fun w => rargument_any ⟨0, [], 0⟩ w HOA.out
    unfold vArg at hfo
    simp only at hfo
    generalize formedS ⟨0, [], 0⟩ = fb at *
    have HFO := Lib.hid hfo
    clear hfo hro
    go_enter Tryz.func102, Tryz.ntmps102
    go_wp2_with fail
    refine HN.out.mono ?_
    rintro e w1 ⟨rfl, hb1⟩
    have hs1 : w.heap.size < w1.heap.size := by { have := hb1.size; simp at this; omega }
    have hR1 := keptBlk hb1 (blkAt w (.cells #[.int .i64 0, .string ⟨#[]⟩, .int .i64 0] 46) rfl)
    have hrw1 := (HH.out.alloc (.cells #[.int .i64 0, .string ⟨#[]⟩, .int .i64 0] 46)).below hb1
    have hbw : Below w.heap.size w w1 := boxed.trans (hb1.mono (by simp))
    have hg1 : g < w1.heap.size := by omega
    have hgn : g ≠ w.heap.size := by omega
    have hgm : g ≠ w1.heap.size := by omega
    have hgm2 : g ≠ w1.heap.size + 1 := by omega
    have hnn : w.heap.size ≠ w1.heap.size + 1 := by omega
    obtain ⟨c2, z2⟩ := hrw1.c2
    simp only at c2
    have r0 := (cell_blk hR1 0).trans rfl; have r1 := (cell_blk hR1 1).trans rfl; have r2 := (cell_blk hR1 2).trans rfl
    have y0 := frz_blk hR1 0; have y1 := frz_blk hR1 1; have y2 := frz_blk hR1 2
    have HQ := Lib.hid hrw1; have HRB := Lib.hid hR1; have HBW := Lib.hid hbw
    clear hR1 hbw hrw1 hb1
    cases pb
    · go_wp2_with fail
      refine (HFO.out _).mono ?_
      rintro e w5 ⟨rfl, hb5⟩
      have hrw5 := ((HQ.out.alloc (.cells #[.int .u8 0, .string ⟨tt.toArray⟩] 114)).alloc (.cells #[.int .i64 0, .string ⟨#[]⟩, .int .i64 0] 46)).below hb5
      have hR5 := keptBlk hb5 (blkOld (blkOld ( HRB.out) (.cells #[.int .u8 0, .string ⟨tt.toArray⟩] 114)) (.cells #[.int .i64 0, .string ⟨#[]⟩, .int .i64 0] 46))
      have hO5 := keptBlk hb5 (blkAt (World.alloc w1 (.cells #[.int .u8 0, .string ⟨tt.toArray⟩] 114)) (.cells #[.int .i64 0, .string ⟨#[]⟩, .int .i64 0] 46) (k := w1.heap.size + 1) (by simp [World.setCell]))
      have HF5 := Lib.hid ((((((Frm.any (M := MG g) HBW.out))).alloc (.cells #[.int .u8 0, .string ⟨tt.toArray⟩] 114)).alloc (.cells #[.int .i64 0, .string ⟨#[]⟩, .int .i64 0] 46)).trans (Frm.any hb5))
      obtain ⟨c2, z2⟩ := hrw5.c2
      simp only at c2
      have r0 := (cell_blk hR5 0).trans rfl; have r1 := (cell_blk hR5 1).trans rfl; have r2 := (cell_blk hR5 2).trans rfl
      have y0 := frz_blk hR5 0; have y1 := frz_blk hR5 1; have y2 := frz_blk hR5 2
      have b0 := (cell_blk hO5 0).trans rfl; have b1 := (cell_blk hO5 1).trans rfl; have b2 := (cell_blk hO5 2).trans rfl
      clear hb5 hO5
      go_wp2_with fail
      have hRF := Blk.set _ (Blk.set _ (Blk.set _ ((set_other w5 g 2 (.bool (!fb)) _ (by omega)).trans hR5) 0 (.int .i64 0)) 1 (.string ⟨#[]⟩)) 2 (.int .i64 0)
      have q0 := (cell_blk hRF 0).trans rfl; have q1 := (cell_blk hRF 1).trans rfl; have q2 := (cell_blk hRF 2).trans rfl
      refine bodyPost_ret (v := .agg #[.int .i64 0, .string ⟨#[]⟩, .int .i64 0]) (by simp [results, Tryz.results102, go_sem, q0, q1, q2]) rfl ?_
      exact ⟨rfl, (((hrw5.bad (!fb)).other (by omega) 0 (.int .i64 0)).other (by omega) 1 (.string ⟨#[]⟩)).other (by omega) 2 (.int .i64 0), (((HF5.out.setCell (p := ⟨g, 2, none⟩) (fun _ => rfl) (.bool (!fb))).setCell (p := ⟨w.heap.size, 0, none⟩) (fun h => absurd h (Nat.lt_irrefl _)) (.int .i64 0)).setCell (p := ⟨w.heap.size, 1, none⟩) (fun h => absurd h (Nat.lt_irrefl _)) (.string ⟨#[]⟩)).setCell (p := ⟨w.heap.size, 2, none⟩) (fun h => absurd h (Nat.lt_irrefl _)) (.int .i64 0)⟩
    · go_wp2_with fail
      have hrw5 := HQ.out
      have hR5 : (World.heap w1)[w.heap.size]? = some (.cells #[.int .i64 0, .string ⟨#[]⟩, .int .i64 0] 46 (0, 0)) :=  HRB.out
      have HF5 := Lib.hid ((Frm.any (M := MG g) HBW.out))
      have hRF := Blk.set _ (Blk.set _ (Blk.set _ ((set_other w1 g 2 (.bool (true)) _ (by omega)).trans hR5) 0 (.int .i64 0)) 1 (.string ⟨#[]⟩)) 2 (.int .i64 0)
      replace hRF := blkOld hRF (.cells #[.int .u8 0, .string ⟨tt.toArray⟩] 114)
      replace hRF := blkOld hRF (.cells #[.int .i64 0, .string ⟨#[]⟩, .int .i64 0] 46)
      have q0 := (cell_blk hRF 0).trans rfl; have q1 := (cell_blk hRF 1).trans rfl; have q2 := (cell_blk hRF 2).trans rfl
      refine bodyPost_ret (v := .agg #[.int .i64 0, .string ⟨#[]⟩, .int .i64 0]) (by simp [results, Tryz.results102, go_sem, q0, q1, q2]) rfl ?_
      exact ⟨rfl, (((((hrw5.bad (true)).other (by omega) 0 (.int .i64 0)).other (by omega) 1 (.string ⟨#[]⟩)).other (by omega) 2 (.int .i64 0)).alloc (.cells #[.int .u8 0, .string ⟨tt.toArray⟩] 114)).alloc (.cells #[.int .i64 0, .string ⟨#[]⟩, .int .i64 0] 46), (((((HF5.out.setCell (p := ⟨g, 2, none⟩) (fun _ => rfl) (.bool (true))).setCell (p := ⟨w.heap.size, 0, none⟩) (fun h => absurd h (Nat.lt_irrefl _)) (.int .i64 0)).setCell (p := ⟨w.heap.size, 1, none⟩) (fun h => absurd h (Nat.lt_irrefl _)) (.string ⟨#[]⟩)).setCell (p := ⟨w.heap.size, 2, none⟩) (fun h => absurd h (Nat.lt_irrefl _)) (.int .i64 0)).alloc (.cells #[.int .u8 0, .string ⟨tt.toArray⟩] 114)).alloc (.cells #[.int .i64 0, .string ⟨#[]⟩, .int .i64 0] 46)⟩
  by_cases hk119 : tk = 119
  · subst hk119
    have hro : rargOf ⟨119, tt⟩ = (⟨1, tt, 0⟩, true) := rfl
    rw [hro] at HOA ⊢
    rw [if_pos (show 119 ≠ 0 by omega)]
    simp only at HOA ⊢
    have hfo := fun w => rargument_any ⟨1, tt, 0⟩ w HOA.out
    unfold vArg at hfo
    simp only at hfo
    generalize formedS ⟨1, tt, 0⟩ = fb at *
    have HFO := Lib.hid hfo
    clear hfo hro
    go_enter Tryz.func102, Tryz.ntmps102
    go_wp2_with fail
    refine HN.out.mono ?_
    rintro e w1 ⟨rfl, hb1⟩
    have hs1 : w.heap.size < w1.heap.size := by { have := hb1.size; simp at this; omega }
    have hR1 := keptBlk hb1 (blkAt w (.cells #[.int .i64 0, .string ⟨#[]⟩, .int .i64 0] 46) rfl)
    have hrw1 := (HH.out.alloc (.cells #[.int .i64 0, .string ⟨#[]⟩, .int .i64 0] 46)).below hb1
    have hbw : Below w.heap.size w w1 := boxed.trans (hb1.mono (by simp))
    have hg1 : g < w1.heap.size := by omega
    have hgn : g ≠ w.heap.size := by omega
    have hgm : g ≠ w1.heap.size := by omega
    have hgm2 : g ≠ w1.heap.size + 1 := by omega
    have hnn : w.heap.size ≠ w1.heap.size + 1 := by omega
    obtain ⟨pos, a1, a2, a3, a4⟩ := HADV.out _ hrw1 (by omega)
    have hq : IntKind.i64.wrap ((pos : Int) + 1) = (pos : Int) + 1 := by simp [IntKind.wrap, IntKind.signed, IntKind.bits]; omega
    obtain ⟨c2, z2⟩ := hrw1.c2
    simp only at c2
    have r0 := (cell_blk hR1 0).trans rfl; have r1 := (cell_blk hR1 1).trans rfl; have r2 := (cell_blk hR1 2).trans rfl
    have y0 := frz_blk hR1 0; have y1 := frz_blk hR1 1; have y2 := frz_blk hR1 2
    have HQ := Lib.hid a4; have HRB := Lib.hid hR1; have HBW := Lib.hid hbw
    clear a4 hR1 hbw hrw1 hb1
    cases pb
    · go_wp2_with fail
      refine (HFO.out _).mono ?_
      rintro e w5 ⟨rfl, hb5⟩
      have hrw5 := ((HQ.out.alloc (.cells #[.int .u8 119, .string ⟨tt.toArray⟩] 114)).alloc (.cells #[.int .i64 1, .string ⟨tt.toArray⟩, .int .i64 0] 46)).below hb5
      have hR5 := keptBlk hb5 (blkOld (blkOld ((set_other _ _ _ _ _ (by omega)).trans  HRB.out) (.cells #[.int .u8 119, .string ⟨tt.toArray⟩] 114)) (.cells #[.int .i64 1, .string ⟨tt.toArray⟩, .int .i64 0] 46))
      have hO5 := keptBlk hb5 (blkAt (World.alloc (w1.setCell ⟨g, 1, none⟩ (.int .i64 ((pos : Int) + 1))) (.cells #[.int .u8 119, .string ⟨tt.toArray⟩] 114)) (.cells #[.int .i64 1, .string ⟨tt.toArray⟩, .int .i64 0] 46) (k := w1.heap.size + 1) (by simp [World.setCell]))
      have HF5 := Lib.hid ((((((Frm.any (M := MG g) HBW.out).setCell (p := ⟨g, 1, none⟩) (fun _ => rfl) (.int .i64 ((pos : Int) + 1)))).alloc (.cells #[.int .u8 119, .string ⟨tt.toArray⟩] 114)).alloc (.cells #[.int .i64 1, .string ⟨tt.toArray⟩, .int .i64 0] 46)).trans (Frm.any hb5))
      obtain ⟨c2, z2⟩ := hrw5.c2
      simp only at c2
      have r0 := (cell_blk hR5 0).trans rfl; have r1 := (cell_blk hR5 1).trans rfl; have r2 := (cell_blk hR5 2).trans rfl
      have y0 := frz_blk hR5 0; have y1 := frz_blk hR5 1; have y2 := frz_blk hR5 2
      have b0 := (cell_blk hO5 0).trans rfl; have b1 := (cell_blk hO5 1).trans rfl; have b2 := (cell_blk hO5 2).trans rfl
      clear hb5 hO5
      go_wp2_with fail
      have hRF := Blk.set _ (Blk.set _ (Blk.set _ ((set_other w5 g 2 (.bool (!fb)) _ (by omega)).trans hR5) 0 (.int .i64 1)) 1 (.string ⟨tt.toArray⟩)) 2 (.int .i64 0)
      have q0 := (cell_blk hRF 0).trans rfl; have q1 := (cell_blk hRF 1).trans rfl; have q2 := (cell_blk hRF 2).trans rfl
      refine bodyPost_ret (v := .agg #[.int .i64 1, .string ⟨tt.toArray⟩, .int .i64 0]) (by simp [results, Tryz.results102, go_sem, q0, q1, q2]) rfl ?_
      exact ⟨rfl, (((hrw5.bad (!fb)).other (by omega) 0 (.int .i64 1)).other (by omega) 1 (.string ⟨tt.toArray⟩)).other (by omega) 2 (.int .i64 0), (((HF5.out.setCell (p := ⟨g, 2, none⟩) (fun _ => rfl) (.bool (!fb))).setCell (p := ⟨w.heap.size, 0, none⟩) (fun h => absurd h (Nat.lt_irrefl _)) (.int .i64 1)).setCell (p := ⟨w.heap.size, 1, none⟩) (fun h => absurd h (Nat.lt_irrefl _)) (.string ⟨tt.toArray⟩)).setCell (p := ⟨w.heap.size, 2, none⟩) (fun h => absurd h (Nat.lt_irrefl _)) (.int .i64 0)⟩
    · go_wp2_with fail
      have hrw5 := HQ.out
      have hR5 : (World.heap (w1.setCell ⟨g, 1, none⟩ (.int .i64 ((pos : Int) + 1))))[w.heap.size]? = some (.cells #[.int .i64 0, .string ⟨#[]⟩, .int .i64 0] 46 (0, 0)) := (set_other _ _ _ _ _ (by omega)).trans  HRB.out
      have HF5 := Lib.hid ((Frm.any (M := MG g) HBW.out).setCell (p := ⟨g, 1, none⟩) (fun _ => rfl) (.int .i64 ((pos : Int) + 1)))
      have hRF := Blk.set _ (Blk.set _ (Blk.set _ ((set_other (w1.setCell ⟨g, 1, none⟩ (.int .i64 ((pos : Int) + 1))) g 2 (.bool (true)) _ (by omega)).trans hR5) 0 (.int .i64 1)) 1 (.string ⟨tt.toArray⟩)) 2 (.int .i64 0)
      replace hRF := blkOld hRF (.cells #[.int .u8 119, .string ⟨tt.toArray⟩] 114)
      replace hRF := blkOld hRF (.cells #[.int .i64 1, .string ⟨tt.toArray⟩, .int .i64 0] 46)
      have q0 := (cell_blk hRF 0).trans rfl; have q1 := (cell_blk hRF 1).trans rfl; have q2 := (cell_blk hRF 2).trans rfl
      refine bodyPost_ret (v := .agg #[.int .i64 1, .string ⟨tt.toArray⟩, .int .i64 0]) (by simp [results, Tryz.results102, go_sem, q0, q1, q2]) rfl ?_
      exact ⟨rfl, (((((hrw5.bad (true)).other (by omega) 0 (.int .i64 1)).other (by omega) 1 (.string ⟨tt.toArray⟩)).other (by omega) 2 (.int .i64 0)).alloc (.cells #[.int .u8 119, .string ⟨tt.toArray⟩] 114)).alloc (.cells #[.int .i64 1, .string ⟨tt.toArray⟩, .int .i64 0] 46), (((((HF5.out.setCell (p := ⟨g, 2, none⟩) (fun _ => rfl) (.bool (true))).setCell (p := ⟨w.heap.size, 0, none⟩) (fun h => absurd h (Nat.lt_irrefl _)) (.int .i64 1)).setCell (p := ⟨w.heap.size, 1, none⟩) (fun h => absurd h (Nat.lt_irrefl _)) (.string ⟨tt.toArray⟩)).setCell (p := ⟨w.heap.size, 2, none⟩) (fun h => absurd h (Nat.lt_irrefl _)) (.int .i64 0)).alloc (.cells #[.int .u8 119, .string ⟨tt.toArray⟩] 114)).alloc (.cells #[.int .i64 1, .string ⟨tt.toArray⟩, .int .i64 0] 46)⟩
  by_cases hk116 : tk = 116
  · subst hk116
    have hro : rargOf ⟨116, tt⟩ = (⟨2, tt, 0⟩, true) := rfl
    rw [hro] at HOA ⊢
    rw [if_pos (show 116 ≠ 0 by omega)]
    simp only at HOA ⊢
    have hfo := fun w => rargument_any ⟨2, tt, 0⟩ w HOA.out
    unfold vArg at hfo
    simp only at hfo
    generalize formedS ⟨2, tt, 0⟩ = fb at *
    have HFO := Lib.hid hfo
    clear hfo hro
    go_enter Tryz.func102, Tryz.ntmps102
    go_wp2_with fail
    refine HN.out.mono ?_
    rintro e w1 ⟨rfl, hb1⟩
    have hs1 : w.heap.size < w1.heap.size := by { have := hb1.size; simp at this; omega }
    have hR1 := keptBlk hb1 (blkAt w (.cells #[.int .i64 0, .string ⟨#[]⟩, .int .i64 0] 46) rfl)
    have hrw1 := (HH.out.alloc (.cells #[.int .i64 0, .string ⟨#[]⟩, .int .i64 0] 46)).below hb1
    have hbw : Below w.heap.size w w1 := boxed.trans (hb1.mono (by simp))
    have hg1 : g < w1.heap.size := by omega
    have hgn : g ≠ w.heap.size := by omega
    have hgm : g ≠ w1.heap.size := by omega
    have hgm2 : g ≠ w1.heap.size + 1 := by omega
    have hnn : w.heap.size ≠ w1.heap.size + 1 := by omega
    obtain ⟨pos, a1, a2, a3, a4⟩ := HADV.out _ hrw1 (by omega)
    have hq : IntKind.i64.wrap ((pos : Int) + 1) = (pos : Int) + 1 := by simp [IntKind.wrap, IntKind.signed, IntKind.bits]; omega
    obtain ⟨c2, z2⟩ := hrw1.c2
    simp only at c2
    have r0 := (cell_blk hR1 0).trans rfl; have r1 := (cell_blk hR1 1).trans rfl; have r2 := (cell_blk hR1 2).trans rfl
    have y0 := frz_blk hR1 0; have y1 := frz_blk hR1 1; have y2 := frz_blk hR1 2
    have HQ := Lib.hid a4; have HRB := Lib.hid hR1; have HBW := Lib.hid hbw
    clear a4 hR1 hbw hrw1 hb1
    cases pb
    · go_wp2_with fail
      refine (HFO.out _).mono ?_
      rintro e w5 ⟨rfl, hb5⟩
      have hrw5 := ((HQ.out.alloc (.cells #[.int .u8 116, .string ⟨tt.toArray⟩] 114)).alloc (.cells #[.int .i64 2, .string ⟨tt.toArray⟩, .int .i64 0] 46)).below hb5
      have hR5 := keptBlk hb5 (blkOld (blkOld ((set_other _ _ _ _ _ (by omega)).trans  HRB.out) (.cells #[.int .u8 116, .string ⟨tt.toArray⟩] 114)) (.cells #[.int .i64 2, .string ⟨tt.toArray⟩, .int .i64 0] 46))
      have hO5 := keptBlk hb5 (blkAt (World.alloc (w1.setCell ⟨g, 1, none⟩ (.int .i64 ((pos : Int) + 1))) (.cells #[.int .u8 116, .string ⟨tt.toArray⟩] 114)) (.cells #[.int .i64 2, .string ⟨tt.toArray⟩, .int .i64 0] 46) (k := w1.heap.size + 1) (by simp [World.setCell]))
      have HF5 := Lib.hid ((((((Frm.any (M := MG g) HBW.out).setCell (p := ⟨g, 1, none⟩) (fun _ => rfl) (.int .i64 ((pos : Int) + 1)))).alloc (.cells #[.int .u8 116, .string ⟨tt.toArray⟩] 114)).alloc (.cells #[.int .i64 2, .string ⟨tt.toArray⟩, .int .i64 0] 46)).trans (Frm.any hb5))
      obtain ⟨c2, z2⟩ := hrw5.c2
      simp only at c2
      have r0 := (cell_blk hR5 0).trans rfl; have r1 := (cell_blk hR5 1).trans rfl; have r2 := (cell_blk hR5 2).trans rfl
      have y0 := frz_blk hR5 0; have y1 := frz_blk hR5 1; have y2 := frz_blk hR5 2
      have b0 := (cell_blk hO5 0).trans rfl; have b1 := (cell_blk hO5 1).trans rfl; have b2 := (cell_blk hO5 2).trans rfl
      clear hb5 hO5
      go_wp2_with fail
      have hRF := Blk.set _ (Blk.set _ (Blk.set _ ((set_other w5 g 2 (.bool (!fb)) _ (by omega)).trans hR5) 0 (.int .i64 2)) 1 (.string ⟨tt.toArray⟩)) 2 (.int .i64 0)
      have q0 := (cell_blk hRF 0).trans rfl; have q1 := (cell_blk hRF 1).trans rfl; have q2 := (cell_blk hRF 2).trans rfl
      refine bodyPost_ret (v := .agg #[.int .i64 2, .string ⟨tt.toArray⟩, .int .i64 0]) (by simp [results, Tryz.results102, go_sem, q0, q1, q2]) rfl ?_
      exact ⟨rfl, (((hrw5.bad (!fb)).other (by omega) 0 (.int .i64 2)).other (by omega) 1 (.string ⟨tt.toArray⟩)).other (by omega) 2 (.int .i64 0), (((HF5.out.setCell (p := ⟨g, 2, none⟩) (fun _ => rfl) (.bool (!fb))).setCell (p := ⟨w.heap.size, 0, none⟩) (fun h => absurd h (Nat.lt_irrefl _)) (.int .i64 2)).setCell (p := ⟨w.heap.size, 1, none⟩) (fun h => absurd h (Nat.lt_irrefl _)) (.string ⟨tt.toArray⟩)).setCell (p := ⟨w.heap.size, 2, none⟩) (fun h => absurd h (Nat.lt_irrefl _)) (.int .i64 0)⟩
    · go_wp2_with fail
      have hrw5 := HQ.out
      have hR5 : (World.heap (w1.setCell ⟨g, 1, none⟩ (.int .i64 ((pos : Int) + 1))))[w.heap.size]? = some (.cells #[.int .i64 0, .string ⟨#[]⟩, .int .i64 0] 46 (0, 0)) := (set_other _ _ _ _ _ (by omega)).trans  HRB.out
      have HF5 := Lib.hid ((Frm.any (M := MG g) HBW.out).setCell (p := ⟨g, 1, none⟩) (fun _ => rfl) (.int .i64 ((pos : Int) + 1)))
      have hRF := Blk.set _ (Blk.set _ (Blk.set _ ((set_other (w1.setCell ⟨g, 1, none⟩ (.int .i64 ((pos : Int) + 1))) g 2 (.bool (true)) _ (by omega)).trans hR5) 0 (.int .i64 2)) 1 (.string ⟨tt.toArray⟩)) 2 (.int .i64 0)
      replace hRF := blkOld hRF (.cells #[.int .u8 116, .string ⟨tt.toArray⟩] 114)
      replace hRF := blkOld hRF (.cells #[.int .i64 2, .string ⟨tt.toArray⟩, .int .i64 0] 46)
      have q0 := (cell_blk hRF 0).trans rfl; have q1 := (cell_blk hRF 1).trans rfl; have q2 := (cell_blk hRF 2).trans rfl
      refine bodyPost_ret (v := .agg #[.int .i64 2, .string ⟨tt.toArray⟩, .int .i64 0]) (by simp [results, Tryz.results102, go_sem, q0, q1, q2]) rfl ?_
      exact ⟨rfl, (((((hrw5.bad (true)).other (by omega) 0 (.int .i64 2)).other (by omega) 1 (.string ⟨tt.toArray⟩)).other (by omega) 2 (.int .i64 0)).alloc (.cells #[.int .u8 116, .string ⟨tt.toArray⟩] 114)).alloc (.cells #[.int .i64 2, .string ⟨tt.toArray⟩, .int .i64 0] 46), (((((HF5.out.setCell (p := ⟨g, 2, none⟩) (fun _ => rfl) (.bool (true))).setCell (p := ⟨w.heap.size, 0, none⟩) (fun h => absurd h (Nat.lt_irrefl _)) (.int .i64 2)).setCell (p := ⟨w.heap.size, 1, none⟩) (fun h => absurd h (Nat.lt_irrefl _)) (.string ⟨tt.toArray⟩)).setCell (p := ⟨w.heap.size, 2, none⟩) (fun h => absurd h (Nat.lt_irrefl _)) (.int .i64 0)).alloc (.cells #[.int .u8 116, .string ⟨tt.toArray⟩] 114)).alloc (.cells #[.int .i64 2, .string ⟨tt.toArray⟩, .int .i64 0] 46)⟩
  by_cases hk110 : tk = 110
  · subst hk110
    have hro : rargOf ⟨110, tt⟩ = (⟨3, [], (rnumS tt).1⟩, (rnumS tt).2) := rfl
    have hnum := fun w => rnumber_any tt (HNUM.out rfl) w ok2
    rw [hro] at HOA ⊢
    rw [if_pos (show 110 ≠ 0 by omega)]
    generalize rnumS tt = nm at *
    obtain ⟨nv, nb⟩ := nm
    simp only at HOA ⊢
    have hfo := fun w => rargument_any ⟨3, [], nv⟩ w HOA.out
    unfold vArg at hfo
    simp only at hfo
    generalize formedS ⟨3, [], nv⟩ = fb at *
    have HFO := Lib.hid hfo; have HNM := Lib.hid hnum
    clear hfo hro hnum
    go_enter Tryz.func102, Tryz.ntmps102
    go_wp2_with fail
    refine HN.out.mono ?_
    rintro e w1 ⟨rfl, hb1⟩
    have hs1 : w.heap.size < w1.heap.size := by { have := hb1.size; simp at this; omega }
    have hR1 := keptBlk hb1 (blkAt w (.cells #[.int .i64 0, .string ⟨#[]⟩, .int .i64 0] 46) rfl)
    have hrw1 := (HH.out.alloc (.cells #[.int .i64 0, .string ⟨#[]⟩, .int .i64 0] 46)).below hb1
    have hbw : Below w.heap.size w w1 := boxed.trans (hb1.mono (by simp))
    have hg1 : g < w1.heap.size := by omega
    have hgn : g ≠ w.heap.size := by omega
    have hgm : g ≠ w1.heap.size := by omega
    have hgm2 : g ≠ w1.heap.size + 1 := by omega
    have hnn : w.heap.size ≠ w1.heap.size + 1 := by omega
    obtain ⟨pos, a1, a2, a3, a4⟩ := HADV.out _ hrw1 (by omega)
    have hq : IntKind.i64.wrap ((pos : Int) + 1) = (pos : Int) + 1 := by simp [IntKind.wrap, IntKind.signed, IntKind.bits]; omega
    obtain ⟨c2, z2⟩ := hrw1.c2
    simp only at c2
    have r0 := (cell_blk hR1 0).trans rfl; have r1 := (cell_blk hR1 1).trans rfl; have r2 := (cell_blk hR1 2).trans rfl
    have y0 := frz_blk hR1 0; have y1 := frz_blk hR1 1; have y2 := frz_blk hR1 2
    have HQ := Lib.hid a4; have HRB := Lib.hid hR1; have HBW := Lib.hid hbw
    clear a4 hR1 hbw hrw1 hb1
    cases pb <;> cases nb
    · go_wp2_with fail
      refine (HNM.out _).mono ?_
      rintro e w' ⟨rfl, rfl⟩
      go_wp2_with fail
      have hrw5 := (HQ.out.bad true)
      have hR5 : (World.heap ((w1.setCell ⟨g, 1, none⟩ (.int .i64 ((pos : Int) + 1))).setCell ⟨g, 2, none⟩ (.bool true)))[w.heap.size]? = some (.cells #[.int .i64 0, .string ⟨#[]⟩, .int .i64 0] 46 (0, 0)) := (set_other _ _ _ _ _ (by omega)).trans <| (set_other _ _ _ _ _ (by omega)).trans  HRB.out
      have HF5 := Lib.hid (((Frm.any (M := MG g) HBW.out).setCell (p := ⟨g, 1, none⟩) (fun _ => rfl) (.int .i64 ((pos : Int) + 1))).setCell (p := ⟨g, 2, none⟩) (fun _ => rfl) (.bool true))
      have hRF := Blk.set _ (Blk.set _ (Blk.set _ ((set_other ((w1.setCell ⟨g, 1, none⟩ (.int .i64 ((pos : Int) + 1))).setCell ⟨g, 2, none⟩ (.bool true)) g 2 (.bool (true)) _ (by omega)).trans hR5) 0 (.int .i64 3)) 1 (.string ⟨#[]⟩)) 2 (.int .i64 nv)
      replace hRF := blkOld hRF (.cells #[.int .u8 110, .string ⟨tt.toArray⟩] 114)
      replace hRF := blkOld hRF (.cells #[.int .i64 3, .string ⟨#[]⟩, .int .i64 nv] 46)
      have q0 := (cell_blk hRF 0).trans rfl; have q1 := (cell_blk hRF 1).trans rfl; have q2 := (cell_blk hRF 2).trans rfl
      refine bodyPost_ret (v := .agg #[.int .i64 3, .string ⟨#[]⟩, .int .i64 nv]) (by simp [results, Tryz.results102, go_sem, q0, q1, q2]) rfl ?_
      exact ⟨rfl, (((((hrw5.bad (true)).other (by omega) 0 (.int .i64 3)).other (by omega) 1 (.string ⟨#[]⟩)).other (by omega) 2 (.int .i64 nv)).alloc (.cells #[.int .u8 110, .string ⟨tt.toArray⟩] 114)).alloc (.cells #[.int .i64 3, .string ⟨#[]⟩, .int .i64 nv] 46), (((((HF5.out.setCell (p := ⟨g, 2, none⟩) (fun _ => rfl) (.bool (true))).setCell (p := ⟨w.heap.size, 0, none⟩) (fun h => absurd h (Nat.lt_irrefl _)) (.int .i64 3)).setCell (p := ⟨w.heap.size, 1, none⟩) (fun h => absurd h (Nat.lt_irrefl _)) (.string ⟨#[]⟩)).setCell (p := ⟨w.heap.size, 2, none⟩) (fun h => absurd h (Nat.lt_irrefl _)) (.int .i64 nv)).alloc (.cells #[.int .u8 110, .string ⟨tt.toArray⟩] 114)).alloc (.cells #[.int .i64 3, .string ⟨#[]⟩, .int .i64 nv] 46)⟩
    · go_wp2_with fail
      refine (HNM.out _).mono ?_
      rintro e w' ⟨rfl, rfl⟩
      go_wp2_with fail
      refine (HFO.out _).mono ?_
      rintro e w5 ⟨rfl, hb5⟩
      have hrw5 := (((HQ.out.bad false).alloc (.cells #[.int .u8 110, .string ⟨tt.toArray⟩] 114)).alloc (.cells #[.int .i64 3, .string ⟨#[]⟩, .int .i64 nv] 46)).below hb5
      have hR5 := keptBlk hb5 (blkOld (blkOld ((set_other _ _ _ _ _ (by omega)).trans <| (set_other _ _ _ _ _ (by omega)).trans  HRB.out) (.cells #[.int .u8 110, .string ⟨tt.toArray⟩] 114)) (.cells #[.int .i64 3, .string ⟨#[]⟩, .int .i64 nv] 46))
      have hO5 := keptBlk hb5 (blkAt (World.alloc ((w1.setCell ⟨g, 1, none⟩ (.int .i64 ((pos : Int) + 1))).setCell ⟨g, 2, none⟩ (.bool false)) (.cells #[.int .u8 110, .string ⟨tt.toArray⟩] 114)) (.cells #[.int .i64 3, .string ⟨#[]⟩, .int .i64 nv] 46) (k := w1.heap.size + 1) (by simp [World.setCell]))
      have HF5 := Lib.hid (((((((Frm.any (M := MG g) HBW.out).setCell (p := ⟨g, 1, none⟩) (fun _ => rfl) (.int .i64 ((pos : Int) + 1))).setCell (p := ⟨g, 2, none⟩) (fun _ => rfl) (.bool false))).alloc (.cells #[.int .u8 110, .string ⟨tt.toArray⟩] 114)).alloc (.cells #[.int .i64 3, .string ⟨#[]⟩, .int .i64 nv] 46)).trans (Frm.any hb5))
      obtain ⟨c2, z2⟩ := hrw5.c2
      simp only at c2
      have r0 := (cell_blk hR5 0).trans rfl; have r1 := (cell_blk hR5 1).trans rfl; have r2 := (cell_blk hR5 2).trans rfl
      have y0 := frz_blk hR5 0; have y1 := frz_blk hR5 1; have y2 := frz_blk hR5 2
      have b0 := (cell_blk hO5 0).trans rfl; have b1 := (cell_blk hO5 1).trans rfl; have b2 := (cell_blk hO5 2).trans rfl
      clear hb5 hO5
      go_wp2_with fail
      have hRF := Blk.set _ (Blk.set _ (Blk.set _ ((set_other w5 g 2 (.bool (!fb)) _ (by omega)).trans hR5) 0 (.int .i64 3)) 1 (.string ⟨#[]⟩)) 2 (.int .i64 nv)
      have q0 := (cell_blk hRF 0).trans rfl; have q1 := (cell_blk hRF 1).trans rfl; have q2 := (cell_blk hRF 2).trans rfl
      refine bodyPost_ret (v := .agg #[.int .i64 3, .string ⟨#[]⟩, .int .i64 nv]) (by simp [results, Tryz.results102, go_sem, q0, q1, q2]) rfl ?_
      exact ⟨rfl, (((hrw5.bad (!fb)).other (by omega) 0 (.int .i64 3)).other (by omega) 1 (.string ⟨#[]⟩)).other (by omega) 2 (.int .i64 nv), (((HF5.out.setCell (p := ⟨g, 2, none⟩) (fun _ => rfl) (.bool (!fb))).setCell (p := ⟨w.heap.size, 0, none⟩) (fun h => absurd h (Nat.lt_irrefl _)) (.int .i64 3)).setCell (p := ⟨w.heap.size, 1, none⟩) (fun h => absurd h (Nat.lt_irrefl _)) (.string ⟨#[]⟩)).setCell (p := ⟨w.heap.size, 2, none⟩) (fun h => absurd h (Nat.lt_irrefl _)) (.int .i64 nv)⟩
    · go_wp2_with fail
      refine (HNM.out _).mono ?_
      rintro e w' ⟨rfl, rfl⟩
      go_wp2_with fail
      have hrw5 := (HQ.out.bad true)
      have hR5 : (World.heap ((w1.setCell ⟨g, 1, none⟩ (.int .i64 ((pos : Int) + 1))).setCell ⟨g, 2, none⟩ (.bool true)))[w.heap.size]? = some (.cells #[.int .i64 0, .string ⟨#[]⟩, .int .i64 0] 46 (0, 0)) := (set_other _ _ _ _ _ (by omega)).trans <| (set_other _ _ _ _ _ (by omega)).trans  HRB.out
      have HF5 := Lib.hid (((Frm.any (M := MG g) HBW.out).setCell (p := ⟨g, 1, none⟩) (fun _ => rfl) (.int .i64 ((pos : Int) + 1))).setCell (p := ⟨g, 2, none⟩) (fun _ => rfl) (.bool true))
      have hRF := Blk.set _ (Blk.set _ (Blk.set _ ((set_other ((w1.setCell ⟨g, 1, none⟩ (.int .i64 ((pos : Int) + 1))).setCell ⟨g, 2, none⟩ (.bool true)) g 2 (.bool (true)) _ (by omega)).trans hR5) 0 (.int .i64 3)) 1 (.string ⟨#[]⟩)) 2 (.int .i64 nv)
      replace hRF := blkOld hRF (.cells #[.int .u8 110, .string ⟨tt.toArray⟩] 114)
      replace hRF := blkOld hRF (.cells #[.int .i64 3, .string ⟨#[]⟩, .int .i64 nv] 46)
      have q0 := (cell_blk hRF 0).trans rfl; have q1 := (cell_blk hRF 1).trans rfl; have q2 := (cell_blk hRF 2).trans rfl
      refine bodyPost_ret (v := .agg #[.int .i64 3, .string ⟨#[]⟩, .int .i64 nv]) (by simp [results, Tryz.results102, go_sem, q0, q1, q2]) rfl ?_
      exact ⟨rfl, (((((hrw5.bad (true)).other (by omega) 0 (.int .i64 3)).other (by omega) 1 (.string ⟨#[]⟩)).other (by omega) 2 (.int .i64 nv)).alloc (.cells #[.int .u8 110, .string ⟨tt.toArray⟩] 114)).alloc (.cells #[.int .i64 3, .string ⟨#[]⟩, .int .i64 nv] 46), (((((HF5.out.setCell (p := ⟨g, 2, none⟩) (fun _ => rfl) (.bool (true))).setCell (p := ⟨w.heap.size, 0, none⟩) (fun h => absurd h (Nat.lt_irrefl _)) (.int .i64 3)).setCell (p := ⟨w.heap.size, 1, none⟩) (fun h => absurd h (Nat.lt_irrefl _)) (.string ⟨#[]⟩)).setCell (p := ⟨w.heap.size, 2, none⟩) (fun h => absurd h (Nat.lt_irrefl _)) (.int .i64 nv)).alloc (.cells #[.int .u8 110, .string ⟨tt.toArray⟩] 114)).alloc (.cells #[.int .i64 3, .string ⟨#[]⟩, .int .i64 nv] 46)⟩
    · go_wp2_with fail
      refine (HNM.out _).mono ?_
      rintro e w' ⟨rfl, rfl⟩
      go_wp2_with fail
      have hrw5 := (HQ.out.bad true)
      have hR5 : (World.heap ((w1.setCell ⟨g, 1, none⟩ (.int .i64 ((pos : Int) + 1))).setCell ⟨g, 2, none⟩ (.bool true)))[w.heap.size]? = some (.cells #[.int .i64 0, .string ⟨#[]⟩, .int .i64 0] 46 (0, 0)) := (set_other _ _ _ _ _ (by omega)).trans <| (set_other _ _ _ _ _ (by omega)).trans  HRB.out
      have HF5 := Lib.hid (((Frm.any (M := MG g) HBW.out).setCell (p := ⟨g, 1, none⟩) (fun _ => rfl) (.int .i64 ((pos : Int) + 1))).setCell (p := ⟨g, 2, none⟩) (fun _ => rfl) (.bool true))
      have hRF := Blk.set _ (Blk.set _ (Blk.set _ ((set_other ((w1.setCell ⟨g, 1, none⟩ (.int .i64 ((pos : Int) + 1))).setCell ⟨g, 2, none⟩ (.bool true)) g 2 (.bool (true)) _ (by omega)).trans hR5) 0 (.int .i64 3)) 1 (.string ⟨#[]⟩)) 2 (.int .i64 nv)
      replace hRF := blkOld hRF (.cells #[.int .u8 110, .string ⟨tt.toArray⟩] 114)
      replace hRF := blkOld hRF (.cells #[.int .i64 3, .string ⟨#[]⟩, .int .i64 nv] 46)
      have q0 := (cell_blk hRF 0).trans rfl; have q1 := (cell_blk hRF 1).trans rfl; have q2 := (cell_blk hRF 2).trans rfl
      refine bodyPost_ret (v := .agg #[.int .i64 3, .string ⟨#[]⟩, .int .i64 nv]) (by simp [results, Tryz.results102, go_sem, q0, q1, q2]) rfl ?_
      exact ⟨rfl, (((((hrw5.bad (true)).other (by omega) 0 (.int .i64 3)).other (by omega) 1 (.string ⟨#[]⟩)).other (by omega) 2 (.int .i64 nv)).alloc (.cells #[.int .u8 110, .string ⟨tt.toArray⟩] 114)).alloc (.cells #[.int .i64 3, .string ⟨#[]⟩, .int .i64 nv] 46), (((((HF5.out.setCell (p := ⟨g, 2, none⟩) (fun _ => rfl) (.bool (true))).setCell (p := ⟨w.heap.size, 0, none⟩) (fun h => absurd h (Nat.lt_irrefl _)) (.int .i64 3)).setCell (p := ⟨w.heap.size, 1, none⟩) (fun h => absurd h (Nat.lt_irrefl _)) (.string ⟨#[]⟩)).setCell (p := ⟨w.heap.size, 2, none⟩) (fun h => absurd h (Nat.lt_irrefl _)) (.int .i64 nv)).alloc (.cells #[.int .u8 110, .string ⟨tt.toArray⟩] 114)).alloc (.cells #[.int .i64 3, .string ⟨#[]⟩, .int .i64 nv] 46)⟩
  have kb0 : ((tk : Int) == 0) = false := by rw [beq_eq_false_iff_ne]; omega
  have kb119 : ((tk : Int) == 119) = false := by rw [beq_eq_false_iff_ne]; omega
  have kb116 : ((tk : Int) == 116) = false := by rw [beq_eq_false_iff_ne]; omega
  have kb110 : ((tk : Int) == 110) = false := by rw [beq_eq_false_iff_ne]; omega
  have hro : rargOf ⟨tk, tt⟩ = (⟨0, [], 0⟩, true) := by
    unfold rargOf
    simp only
    rw [if_neg hk119, if_neg hk116, if_neg hk110]
    rfl
  rw [hro] at HOA ⊢
  rw [if_pos (show tk ≠ 0 by omega)]
  simp only at HOA ⊢
  have hfo := fun w => rargument_any ⟨0, [], 0⟩ w HOA.out
  unfold vArg at hfo
  simp only at hfo
  generalize formedS ⟨0, [], 0⟩ = fb at *
  have HFO := Lib.hid hfo
  clear hfo hro
  go_enter Tryz.func102, Tryz.ntmps102
  go_wp2_with fail
  refine HN.out.mono ?_
  rintro e w1 ⟨rfl, hb1⟩
  have hs1 : w.heap.size < w1.heap.size := by { have := hb1.size; simp at this; omega }
  have hR1 := keptBlk hb1 (blkAt w (.cells #[.int .i64 0, .string ⟨#[]⟩, .int .i64 0] 46) rfl)
  have hrw1 := (HH.out.alloc (.cells #[.int .i64 0, .string ⟨#[]⟩, .int .i64 0] 46)).below hb1
  have hbw : Below w.heap.size w w1 := boxed.trans (hb1.mono (by simp))
  have hg1 : g < w1.heap.size := by omega
  have hgn : g ≠ w.heap.size := by omega
  have hgm : g ≠ w1.heap.size := by omega
  have hgm2 : g ≠ w1.heap.size + 1 := by omega
  have hnn : w.heap.size ≠ w1.heap.size + 1 := by omega
  obtain ⟨pos, a1, a2, a3, a4⟩ := HADV.out _ hrw1 (by omega)
  have hq : IntKind.i64.wrap ((pos : Int) + 1) = (pos : Int) + 1 := by simp [IntKind.wrap, IntKind.signed, IntKind.bits]; omega
  obtain ⟨c2, z2⟩ := hrw1.c2
  simp only at c2
  have r0 := (cell_blk hR1 0).trans rfl; have r1 := (cell_blk hR1 1).trans rfl; have r2 := (cell_blk hR1 2).trans rfl
  have y0 := frz_blk hR1 0; have y1 := frz_blk hR1 1; have y2 := frz_blk hR1 2
  have HQ := Lib.hid a4; have HRB := Lib.hid hR1; have HBW := Lib.hid hbw
  clear a4 hR1 hbw hrw1 hb1
  cases pb
  · go_wp2_with fail
    refine (HFO.out _).mono ?_
    rintro e w5 ⟨rfl, hb5⟩
    have hrw5 := ((HQ.out.alloc (.cells #[.int .u8 tk, .string ⟨tt.toArray⟩] 114)).alloc (.cells #[.int .i64 0, .string ⟨#[]⟩, .int .i64 0] 46)).below hb5
    have hR5 := keptBlk hb5 (blkOld (blkOld ((set_other _ _ _ _ _ (by omega)).trans  HRB.out) (.cells #[.int .u8 tk, .string ⟨tt.toArray⟩] 114)) (.cells #[.int .i64 0, .string ⟨#[]⟩, .int .i64 0] 46))
    have hO5 := keptBlk hb5 (blkAt (World.alloc (w1.setCell ⟨g, 1, none⟩ (.int .i64 ((pos : Int) + 1))) (.cells #[.int .u8 tk, .string ⟨tt.toArray⟩] 114)) (.cells #[.int .i64 0, .string ⟨#[]⟩, .int .i64 0] 46) (k := w1.heap.size + 1) (by simp [World.setCell]))
    have HF5 := Lib.hid ((((((Frm.any (M := MG g) HBW.out).setCell (p := ⟨g, 1, none⟩) (fun _ => rfl) (.int .i64 ((pos : Int) + 1)))).alloc (.cells #[.int .u8 tk, .string ⟨tt.toArray⟩] 114)).alloc (.cells #[.int .i64 0, .string ⟨#[]⟩, .int .i64 0] 46)).trans (Frm.any hb5))
    obtain ⟨c2, z2⟩ := hrw5.c2
    simp only at c2
    have r0 := (cell_blk hR5 0).trans rfl; have r1 := (cell_blk hR5 1).trans rfl; have r2 := (cell_blk hR5 2).trans rfl
    have y0 := frz_blk hR5 0; have y1 := frz_blk hR5 1; have y2 := frz_blk hR5 2
    have b0 := (cell_blk hO5 0).trans rfl; have b1 := (cell_blk hO5 1).trans rfl; have b2 := (cell_blk hO5 2).trans rfl
    clear hb5 hO5
    go_wp2_with fail
    have hRF := Blk.set _ (Blk.set _ (Blk.set _ ((set_other w5 g 2 (.bool (!fb)) _ (by omega)).trans hR5) 0 (.int .i64 0)) 1 (.string ⟨#[]⟩)) 2 (.int .i64 0)
    have q0 := (cell_blk hRF 0).trans rfl; have q1 := (cell_blk hRF 1).trans rfl; have q2 := (cell_blk hRF 2).trans rfl
    refine bodyPost_ret (v := .agg #[.int .i64 0, .string ⟨#[]⟩, .int .i64 0]) (by simp [results, Tryz.results102, go_sem, q0, q1, q2]) rfl ?_
    exact ⟨rfl, (((hrw5.bad (!fb)).other (by omega) 0 (.int .i64 0)).other (by omega) 1 (.string ⟨#[]⟩)).other (by omega) 2 (.int .i64 0), (((HF5.out.setCell (p := ⟨g, 2, none⟩) (fun _ => rfl) (.bool (!fb))).setCell (p := ⟨w.heap.size, 0, none⟩) (fun h => absurd h (Nat.lt_irrefl _)) (.int .i64 0)).setCell (p := ⟨w.heap.size, 1, none⟩) (fun h => absurd h (Nat.lt_irrefl _)) (.string ⟨#[]⟩)).setCell (p := ⟨w.heap.size, 2, none⟩) (fun h => absurd h (Nat.lt_irrefl _)) (.int .i64 0)⟩
  · go_wp2_with fail
    have hrw5 := HQ.out
    have hR5 : (World.heap (w1.setCell ⟨g, 1, none⟩ (.int .i64 ((pos : Int) + 1))))[w.heap.size]? = some (.cells #[.int .i64 0, .string ⟨#[]⟩, .int .i64 0] 46 (0, 0)) := (set_other _ _ _ _ _ (by omega)).trans  HRB.out
    have HF5 := Lib.hid ((Frm.any (M := MG g) HBW.out).setCell (p := ⟨g, 1, none⟩) (fun _ => rfl) (.int .i64 ((pos : Int) + 1)))
    have hRF := Blk.set _ (Blk.set _ (Blk.set _ ((set_other (w1.setCell ⟨g, 1, none⟩ (.int .i64 ((pos : Int) + 1))) g 2 (.bool (true)) _ (by omega)).trans hR5) 0 (.int .i64 0)) 1 (.string ⟨#[]⟩)) 2 (.int .i64 0)
    replace hRF := blkOld hRF (.cells #[.int .u8 tk, .string ⟨tt.toArray⟩] 114)
    replace hRF := blkOld hRF (.cells #[.int .i64 0, .string ⟨#[]⟩, .int .i64 0] 46)
    have q0 := (cell_blk hRF 0).trans rfl; have q1 := (cell_blk hRF 1).trans rfl; have q2 := (cell_blk hRF 2).trans rfl
    refine bodyPost_ret (v := .agg #[.int .i64 0, .string ⟨#[]⟩, .int .i64 0]) (by simp [results, Tryz.results102, go_sem, q0, q1, q2]) rfl ?_
    exact ⟨rfl, (((((hrw5.bad (true)).other (by omega) 0 (.int .i64 0)).other (by omega) 1 (.string ⟨#[]⟩)).other (by omega) 2 (.int .i64 0)).alloc (.cells #[.int .u8 tk, .string ⟨tt.toArray⟩] 114)).alloc (.cells #[.int .i64 0, .string ⟨#[]⟩, .int .i64 0] 46), (((((HF5.out.setCell (p := ⟨g, 2, none⟩) (fun _ => rfl) (.bool (true))).setCell (p := ⟨w.heap.size, 0, none⟩) (fun h => absurd h (Nat.lt_irrefl _)) (.int .i64 0)).setCell (p := ⟨w.heap.size, 1, none⟩) (fun h => absurd h (Nat.lt_irrefl _)) (.string ⟨#[]⟩)).setCell (p := ⟨w.heap.size, 2, none⟩) (fun h => absurd h (Nat.lt_irrefl _)) (.int .i64 0)).alloc (.cells #[.int .u8 tk, .string ⟨tt.toArray⟩] 114)).alloc (.cells #[.int .i64 0, .string ⟨#[]⟩, .int .i64 0] 46)⟩
end Go.Proofs.YtkjoaodoioicpaaGreatDoor
