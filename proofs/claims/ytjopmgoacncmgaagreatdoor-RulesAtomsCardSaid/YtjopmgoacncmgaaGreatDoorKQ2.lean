/- Rules: ParseAtom. -/
import Derived.Test.YtjopmgoacncmgaaGreatDoorKQ1
set_option linter.unusedVariables false
set_option linter.unusedSimpArgs false
namespace Go.Proofs.YtjopmgoacncmgaaGreatDoor
open Go.RowKit

def PtPost (w : World) (r : Atm × Int) (e : Ending) (w' : World) : Prop :=
  (∃ A n c, e = .returned (.tuple #[.agg #[.string ⟨r.1.name.toArray⟩, .slice A n c], .int .i64 r.2]) ∧ Sl w' (fun b => w.heap.size ≤ b) A n c r.1.args) ∧ Below w.heap.size w w' ∧ OkT r.1

set_option maxRecDepth 100000 in
set_option maxHeartbeats 4000000 in
theorem ParseAtom_any (s : Bs) (w : World) (hL : LD w) (hl : s.length ≤ 1000000) :
    Calls Tryz.prog 30 #[.string ⟨s.toArray⟩] w (PtPost w (parseAtomS s)) := by
  obtain ⟨V, hV⟩ : ∃ V, V = parseAtomS s := ⟨_, rfl⟩
  rw [← hV]
  unfold parseAtomS at hV
  have htk := fun w => tokens_any s w (by omega)
  have hto := tokens_ok s (by omega)
  generalize tokensS s = tk at *
  obtain ⟨toks, tok⟩ := tk
  simp only at hto hV
  have hat := fun g w h => atom_any g (toks, false) w h (by simp only; omega)
  generalize atomP (toks, false) = ra at *
  obtain ⟨⟨nm, args⟩, q⟩ := ra
  simp only at hV
  have HV := Lib.hid hV; have HTK := Lib.hid htk; have HTO := Lib.hid hto.1; have HAT := Lib.hid hat; have HL := Lib.hid hL
  clear hV htk hto hat hL
  go_enter Tryz.func30, Tryz.ntmps30
  go_wp2_with fail
  refine (HTK.out _).mono ?_
  rintro e w1 ⟨At, ct, rfl, hst, hbt⟩
  simp only at hst
  have hR : w1.heap[w.heap.size]? = some (.cells #[.string ⟨#[]⟩, .slice none 0 0] 45 (0, 0)) := keptBlk hbt (blkAt w _ rfl)
  have hb1 := next boxed hbt (Nat.le_refl _)
  have hpw := PW.new (HL.out.below hb1) (hst.any) HTO.out
  have hsz1 : w.heap.size < w1.heap.size := (Array.getElem?_eq_some_iff.1 hR).1
  have r0 := (cell_blk hR 0).trans rfl; have r1 := (cell_blk hR 1).trans rfl
  have y0 := frz_blk hR 0; have y1 := frz_blk hR 1
  have HR := Lib.hid hR; have HB1 := Lib.hid hb1; have HPW := Lib.hid hpw
  clear hst hbt hR hb1 hpw
  by_cases h4 : 4096 < s.length
  · have h4I : (4096 : Int) < (s.length : Int) := by omega
    have H4 := Lib.hid h4; clear h4
    go_wp2_with fail
    have hRF := Blk.set _ (Blk.set _ HR.out 0 (.string ⟨#[]⟩)) 1 (.slice none 0 0)
    have q0 := (cell_blk hRF 0).trans rfl; have q1 := (cell_blk hRF 1).trans rfl
    refine bodyPost_ret (v := .tuple #[.agg #[.string ⟨#[]⟩, .slice none 0 0], .int .i64 4]) (by simp [results, Tryz.results30, go_sem, q0, q1]) rfl ?_
    have hv := HV.out
    rw [if_pos (by simp [H4.out])] at hv
    rw [hv]
    exact ⟨⟨none, 0, 0, rfl, Sl.nil _ _ _ _ (by omega)⟩, (HB1.out.setCell (p := ⟨w.heap.size, 0, none⟩) (Nat.le_refl _) _).setCell (p := ⟨w.heap.size, 1, none⟩) (Nat.le_refl _) _, ⟨Nat.zero_le _, fun a ha => by cases ha⟩⟩
  · have h4I : ¬ (4096 : Int) < (s.length : Int) := by omega
    cases tok
    · go_wp2_with fail
      have hRF := Blk.set _ (Blk.set _ HR.out 0 (.string ⟨#[]⟩)) 1 (.slice none 0 0)
      have q0 := (cell_blk hRF 0).trans rfl; have q1 := (cell_blk hRF 1).trans rfl
      refine bodyPost_ret (v := .tuple #[.agg #[.string ⟨#[]⟩, .slice none 0 0], .int .i64 4]) (by simp [results, Tryz.results30, go_sem, q0, q1]) rfl ?_
      have hv := HV.out
      rw [if_pos (by simp)] at hv
      rw [hv]
      exact ⟨⟨none, 0, 0, rfl, Sl.nil _ _ _ _ (by omega)⟩, (HB1.out.setCell (p := ⟨w.heap.size, 0, none⟩) (Nat.le_refl _) _).setCell (p := ⟨w.heap.size, 1, none⟩) (Nat.le_refl _) _, ⟨Nat.zero_le _, fun a ha => by cases ha⟩⟩
    · have hv := HV.out
      rw [if_neg (by simp; omega)] at hv
      have HV2 := Lib.hid hv; clear hv HV
      go_wp2_with fail
      refine (HAT.out _ _ HPW.out).mono ?_
      rintro e w2 ⟨⟨A, n, c, rfl, hsl⟩, hw2, hf2, hok⟩
      have hR2 : w2.heap[w.heap.size]? = some (.cells #[.string ⟨#[]⟩, .slice none 0 0] 45 (0, 0)) := (hf2.block _ (by simp; omega) (fun e => by have : w.heap.size = w1.heap.size := e; omega)).trans (blkOld HR.out _)
      have hb2 : Below w.heap.size w w2 := (HB1.out.alloc (by omega) _).trans (hf2.below (by simp; omega) (fun i hi e => by have : i = w1.heap.size := e; omega))
      obtain ⟨ql, qb⟩ := q
      obtain ⟨c1, z1⟩ := hw2.c1
      obtain ⟨Ap, cp, hpb, -⟩ := hw2
      have c0 : w2.cell? ⟨w1.heap.size, 0, none⟩ = some (.slice Ap ql.length cp) := (cell_blk hpb 0).trans rfl
      simp only at c1 hok hsl
      have hw1s : ∀ k, (w1.alloc (.cells #[.slice At toks.length ct, .bool false] 71)).heap.size ≤ k → w1.heap.size < k := fun k hk => by simp at hk; omega
      have hsl := hsl.wide (S' := fun b => w1.heap.size < b) (fun k _ hs => hw1s k hs) (by decide)
      have hsz2 : w1.heap.size < w2.heap.size := (Array.getElem?_eq_some_iff.1 hpb).1
      have hR3 := blkOld hR2 (.cells #[.string ⟨nm.toArray⟩, .slice A n c] 45)
      have r0 := (cell_blk hR3 0).trans rfl; have r1 := (cell_blk hR3 1).trans rfl
      have y0 := frz_blk hR3 0; have y1 := frz_blk hR3 1
      have c1 := cell_alloc' c1 (.cells #[.string ⟨nm.toArray⟩, .slice A n c] 45)
      have c0 := cell_alloc' c0 (.cells #[.string ⟨nm.toArray⟩, .slice A n c] 45)
      have HR3 := Lib.hid hR3; have HB2 := Lib.hid hb2; have HSL := Lib.hid hsl; have HOK := Lib.hid hok
      clear hf2 hpb hR2 hR3 hb2 hsl hok
      generalize hg1 : w1.heap.size = g1 at *
      clear hg1
      cases qb
      · by_cases hq : 0 < ql.length
        · have hqI : (0 : Int) < (ql.length : Int) := by omega
          go_wp2_with fail
          have hRF := Blk.set _ (Blk.set _ HR3.out 0 (.string ⟨#[]⟩)) 1 (.slice none 0 0)
          have q0 := (cell_blk hRF 0).trans rfl; have q1 := (cell_blk hRF 1).trans rfl
          refine bodyPost_ret (v := .tuple #[.agg #[.string ⟨#[]⟩, .slice none 0 0], .int .i64 4]) (by simp [results, Tryz.results30, go_sem, q0, q1]) rfl ?_
          have hv := HV2.out
          rw [if_pos (by simp [hq])] at hv
          rw [hv]
          exact ⟨⟨none, 0, 0, rfl, Sl.nil _ _ _ _ (by omega)⟩, ((HB2.out.alloc (by omega) _).setCell (p := ⟨w.heap.size, 0, none⟩) (Nat.le_refl _) _).setCell (p := ⟨w.heap.size, 1, none⟩) (Nat.le_refl _) _, ⟨Nat.zero_le _, fun a ha => by cases ha⟩⟩
        · have hqn : ql = [] := List.eq_nil_of_length_eq_zero (by omega)
          subst hqn
          go_wp2_with fail
          have hRF := Blk.set _ (Blk.set _ HR3.out 0 (.string ⟨nm.toArray⟩)) 1 (.slice A n c)
          have q0 := (cell_blk hRF 0).trans rfl; have q1 := (cell_blk hRF 1).trans rfl
          refine bodyPost_ret (v := .tuple #[.agg #[.string ⟨nm.toArray⟩, .slice A n c], .int .i64 0]) (by simp [results, Tryz.results30, go_sem, q0, q1]) rfl ?_
          have hv := HV2.out
          rw [if_neg (by simp)] at hv
          rw [hv]
          exact ⟨⟨A, n, c, rfl, ((HSL.out.alloc _).keep (fun k _ hs => (set_other _ _ _ _ _ (by omega)).trans (set_other _ _ _ _ _ (by omega)))).wide (fun k _ hs => by omega) (by decide)⟩, ((HB2.out.alloc (by omega) _).setCell (p := ⟨w.heap.size, 0, none⟩) (Nat.le_refl _) _).setCell (p := ⟨w.heap.size, 1, none⟩) (Nat.le_refl _) _, HOK.out⟩
      · go_wp2_with fail
        have hRF := Blk.set _ (Blk.set _ HR3.out 0 (.string ⟨#[]⟩)) 1 (.slice none 0 0)
        have q0 := (cell_blk hRF 0).trans rfl; have q1 := (cell_blk hRF 1).trans rfl
        refine bodyPost_ret (v := .tuple #[.agg #[.string ⟨#[]⟩, .slice none 0 0], .int .i64 4]) (by simp [results, Tryz.results30, go_sem, q0, q1]) rfl ?_
        have hv := HV2.out
        rw [if_pos (by simp)] at hv
        rw [hv]
        exact ⟨⟨none, 0, 0, rfl, Sl.nil _ _ _ _ (by omega)⟩, ((HB2.out.alloc (by omega) _).setCell (p := ⟨w.heap.size, 0, none⟩) (Nat.le_refl _) _).setCell (p := ⟨w.heap.size, 1, none⟩) (Nat.le_refl _) _, ⟨Nat.zero_le _, fun a ha => by cases ha⟩⟩
end Go.Proofs.YtjopmgoacncmgaaGreatDoor
