/- Rules: the parser's arg. -/
import Derived.Test.YtjopmgoacncmgaaGreatDoorKP2
import Derived.Deep.CutBlock
set_option linter.unusedVariables false
set_option linter.unusedSimpArgs false
namespace Go.Proofs.YtjopmgoacncmgaaGreatDoor
open Go.RowKit

theorem numS_rng {s : Bs} {n : Int} (h : numS s = some n) : -9223372036854775808 ≤ n ∧ n ≤ 9223372036854775807 := by
  rw [num_lib] at h
  split at h
  · rename_i v hv
    split at h
    · injection h with h
      subst h
      exact Lib.atoiAll_bounds hv
    · cases h
  · cases h
theorem okA_argOf {s : Bs} (h : s.length ≤ 4294967000) : OkA (argOf s) := by
  unfold argOf
  split
  · exact ⟨by decide, by decide, by decide⟩
  · split
    · refine ⟨?_, by simp, by simp⟩
      simp only [List.length_take, List.length_drop]
      omega
    · split
      · exact ⟨by simp only; omega, by simp, by simp⟩
      · split
        · rename_i n hn
          exact ⟨by simp, numS_rng hn⟩
        · exact ⟨by decide, by decide, by decide⟩
theorem nextS_tok {w : World} {g : Nat} {p : KSt} (h : PW w g p) : TokOk (nextS p).1 := by
  unfold nextS
  split
  · exact ⟨by simp, fun h => by cases h⟩
  · exact h.peek
theorem PW.keepG {w w' : World} {g : Nat} {p : KSt} (h : PW w g p) (hk : ∀ k, k ≤ g → w'.heap[k]? = w.heap[k]?) : PW w' g p := by
  obtain ⟨A, c, hb, hs, hl, hd, ht⟩ := h
  exact ⟨A, c, (hk g (Nat.le_refl _)).trans hb, hs.keep (fun k _ hs => hk k (Nat.le_of_lt hs)), hl, hd.keep hl (fun k hkg => hk k (Nat.le_of_lt hkg)), ht⟩
def argC (a : Arg) : Array Value := #[.int .i64 a.kind, .string ⟨a.text.toArray⟩, .int .i64 a.num]

set_option maxRecDepth 100000 in
set_option maxHeartbeats 4000000 in
theorem arg_any (g : Nat) (p : KSt) (w : World) (h : PW w g p) :
    Calls Tryz.prog 117 #[.pointer (some ⟨g, 0, none⟩)] w fun e w' => e = .returned (vArg (argP p).1) ∧ PW w' g (argP p).2 ∧ Frm (MG g) w w' := by
  have hn := next_any g p (w.alloc (.cells #[.int .i64 0, .string ⟨#[]⟩, .int .i64 0] 95)) (h.alloc _)
  have hgw := h.lt
  have htk := nextS_tok h
  unfold argP
  generalize nextS p = x at *
  obtain ⟨s, q⟩ := x
  simp only at *
  have hok := okA_argOf htk.1
  have hlen := htk.1
  have h34 := htk.2
  have HN := Lib.hid hn; have HOK := Lib.hid hok; have H34 := Lib.hid h34; clear hn h htk hok h34
  go_enter Tryz.func117, Tryz.ntmps117
  go_upto_block 0 with (first | (go_at_call 116; refine HN.out.mono ?_; rintro e w1 ⟨rfl, hw1, hf1⟩; have hb0 : w1.heap[w.heap.size]? = some (.cells #[.int .i64 0, .string ⟨#[]⟩, .int .i64 0] 95 (0, 0)) := (hf1.block _ (by simp) (fun e => by have : w.heap.size = g := e; omega)).trans (blkAt w _ rfl); have hs1 : w.heap.size < w1.heap.size := by { have := hf1.size; simp at this; omega }; have HW1 := Lib.hid hw1; have HF1 := Lib.hid hf1; have HB0 := Lib.hid hb0; clear hw1 hf1 hb0))
  have hg1 : g < w1.heap.size := by omega
  go_cut [] from 5 to 43 (fun wx => wx.heap[w1.heap.size]? = some (.cells (argC (argOf s)) 95 (0, 0)) ∧ Below w1.heap.size w1 wx)
  case first =>
    have hfin : ∀ (W : World) (cs : Array Value), W.heap[w1.heap.size]? = some (.cells cs 95 (0, 0)) → True := fun _ _ _ => trivial
    clear hfin
    have LDW := Lib.hid (HW1.out.ld.alloc (.cells #[.int .i64 0, .string ⟨#[]⟩, .int .i64 0] 95))
    cases s with
    | nil =>
      go_wp2_with fail
      go_meet
      exact ⟨blkAt w1 _ rfl, boxed⟩
    | cons x r =>
      by_cases h34 : x = 34
      · subst h34
        have hl2 := H34.out rfl
        have ha : argOf (34 :: r) = ⟨2, ((34 :: r : Bs).drop 1).take ((34 :: r : Bs).length - 2), 0⟩ := rfl
        have hlr : 1 ≤ r.length := by simp only [List.length_cons] at hl2; omega
        have hru : r.length ≤ 4294967000 := by simp only [List.length_cons] at hlen; omega
        clear hl2
        have HA := Lib.hid ha; clear ha
        go_wp2_with fail
        go_meet
        rw [HA.out]
        refine ⟨blkAt2 rfl ?_, boxed⟩
        have e : (List.take r.length (34 :: r)).tail = ((34 :: r : Bs).drop 1).take ((34 :: r : Bs).length - 2) := by
          obtain ⟨m, hm⟩ : ∃ m, r.length = m + 1 := ⟨r.length - 1, by omega⟩
          rw [List.length_cons, hm]
          simp
        rw [e]
        rfl
      · have h34' : (x == 34) = false := by simpa using h34
        have h34n : ((x.toNat : Int) == 34) = false := by rw [beq_eq_false_iff_ne]; exact fun e => h34 (UInt8.toNat_inj.1 (by have : (34 : UInt8).toNat = 34 := rfl; omega))
        cases hup : uppB x
        · have hargs : argOf (x :: r) = match numS (x :: r) with | some n => ⟨3, [], n⟩ | none => default := by
            show (if _ then _ else _) = _
            rw [if_neg (by simp)]
            show (if x = 34 then _ else _) = _
            rw [if_neg h34]
            show (if uppB x = true then _ else _) = _
            rw [if_neg (by simp [hup])]
            rfl
          have hnl := num_lib (x :: r)
          have hu := fun w => upper_any x.toNat w
          rw [show uppI x.toNat = false from hup] at hu
          have HU := Lib.hid hu; clear hu hup h34 h34'
          obtain ⟨s, hs⟩ : ∃ s, s = x :: r := ⟨_, rfl⟩
          rw [← hs] at hargs hnl
          have hls : s.length ≤ 4294967000 := by rw [hs]; exact hlen
          have HSX := Lib.hid hs; clear hs
          by_cases hat : ∃ v, Lib.atoiAll s = .ok v
          · obtain ⟨v, hv⟩ := hat
            rw [hv] at hnl
            have hbd := Lib.atoiAll_bounds hv
            have hao := fun w => atoi_ok s v hv hls w
            have hit := fun w (hL : LD w) => itoa_any v hbd.1 hbd.2 w hL
            simp only at hnl
            by_cases hvs : itoaS v = s
            · rw [if_pos hvs] at hnl
              rw [hnl] at hargs
              rw [hvs] at hit
              rw [HSX.out] at hit hao hargs
              have HA := Lib.hid hargs; have HAO := Lib.hid (hao (w1.alloc (.cells #[.int .i64 0, .string ⟨#[]⟩, .int .i64 0] 95))); have HIT := Lib.hid hit; clear hargs hao hit hnl hvs hv hls
              go_upto_region 3 with (first | (go_at_call 135; refine (HU.out _).mono ?_; rintro e w' ⟨rfl, rfl⟩))
              go_wp2_with fail
              refine HAO.out.mono ?_
              rintro e w2 ⟨rfl, hb2⟩
              have LD2 := Lib.hid (LDW.out.below hb2); have hB2 : w2.heap[w1.heap.size]? = some (.cells #[.int .i64 0, .string ⟨#[]⟩, .int .i64 0] 95 (0, 0)) := keptBlk hb2 (blkAt w1 _ rfl); have HB2 := Lib.hid hb2; have HBL2 := Lib.hid hB2; clear hb2 hB2
              go_wp2_with fail
              refine (HIT.out _ LD2.out).mono ?_
              rintro e w3 ⟨rfl, hb3⟩
              have hB3 : w3.heap[w1.heap.size]? = some (.cells #[.int .i64 0, .string ⟨#[]⟩, .int .i64 0] 95 (0, 0)) := keptBlk hb3 HBL2.out
              have k0 := (cell_blk hB3 0).trans rfl; have k1 := (cell_blk hB3 1).trans rfl; have k2 := (cell_blk hB3 2).trans rfl; have z0 := frz_blk hB3 0; have z1 := frz_blk hB3 1; have z2 := frz_blk hB3 2; have HB3 := Lib.hid hb3; have HBL3 := Lib.hid hB3; clear hb3 hB3
              go_wp2_with fail
              go_meet
              rw [HA.out]
              refine ⟨?_, ?_⟩
              · rw [Blk.set _ (Blk.set _ (Blk.set _ HBL3.out 0 _) 1 _) 2 _]; rfl
              · exact (((((boxed.trans (HB2.out.mono (by simp))).trans (HB3.out.mono (by have := HB2.out.size; simp at this; omega))).setCell (p := ⟨w1.heap.size, 0, none⟩) (Nat.le_refl _) _).setCell (p := ⟨w1.heap.size, 1, none⟩) (Nat.le_refl _) _).setCell (p := ⟨w1.heap.size, 2, none⟩) (Nat.le_refl _) _)
            · rw [if_neg hvs] at hnl
              rw [hnl] at hargs
              rw [HSX.out] at hvs hao hargs
              have hvs' : (itoaS v == x :: r) = false := by simpa using hvs
              generalize itoaS v = iv at *
              have HA := Lib.hid hargs; have HAO := Lib.hid (hao (w1.alloc (.cells #[.int .i64 0, .string ⟨#[]⟩, .int .i64 0] 95))); have HIT := Lib.hid hit; clear hargs hao hit hnl hvs hv hls
              go_upto_region 3 with (first | (go_at_call 135; refine (HU.out _).mono ?_; rintro e w' ⟨rfl, rfl⟩))
              go_wp2_with fail
              refine HAO.out.mono ?_
              rintro e w2 ⟨rfl, hb2⟩
              have LD2 := Lib.hid (LDW.out.below hb2); have hB2 : w2.heap[w1.heap.size]? = some (.cells #[.int .i64 0, .string ⟨#[]⟩, .int .i64 0] 95 (0, 0)) := keptBlk hb2 (blkAt w1 _ rfl); have HB2 := Lib.hid hb2; have HBL2 := Lib.hid hB2; clear hb2 hB2
              go_wp2_with fail
              refine (HIT.out _ LD2.out).mono ?_
              rintro e w3 ⟨rfl, hb3⟩
              have hB3 : w3.heap[w1.heap.size]? = some (.cells #[.int .i64 0, .string ⟨#[]⟩, .int .i64 0] 95 (0, 0)) := keptBlk hb3 HBL2.out
              have k0 := (cell_blk hB3 0).trans rfl; have k1 := (cell_blk hB3 1).trans rfl; have k2 := (cell_blk hB3 2).trans rfl; have z0 := frz_blk hB3 0; have z1 := frz_blk hB3 1; have z2 := frz_blk hB3 2; have HB3 := Lib.hid hb3; have HBL3 := Lib.hid hB3; clear hb3 hB3
              go_wp2_with fail
              go_meet
              rw [HA.out]
              exact ⟨HBL3.out, (boxed.trans (HB2.out.mono (by simp))).trans (HB3.out.mono (by have := HB2.out.size; simp at this; omega))⟩
          · have hno : ∀ v, Lib.atoiAll s ≠ .ok v := fun v hv => hat ⟨v, hv⟩
            have hn : numS s = none := by
              rw [hnl]
              cases h : Lib.atoiAll s with
              | ok v => exact absurd h (hno v)
              | _ => rfl
            rw [hn] at hargs
            have hao := fun w (hL : LD w) => atoi_no s hno hls w hL
            rw [HSX.out] at hargs hao
            have HA := Lib.hid hargs; have HAO := Lib.hid (hao _ LDW.out); clear hargs hao hnl hn hno hat hls
            go_upto_region 3 with (first | (go_at_call 135; refine (HU.out _).mono ?_; rintro e w' ⟨rfl, rfl⟩))
            go_wp2_with fail
            refine HAO.out.mono ?_
            rintro e w2 ⟨v, tv, pv, rfl, hb2⟩
            have LD2 := Lib.hid (LDW.out.below hb2); have hB2 : w2.heap[w1.heap.size]? = some (.cells #[.int .i64 0, .string ⟨#[]⟩, .int .i64 0] 95 (0, 0)) := keptBlk hb2 (blkAt w1 _ rfl); have HB2 := Lib.hid hb2; have HBL2 := Lib.hid hB2; clear hb2 hB2
            go_wp2_with fail
            go_meet
            rw [HA.out]
            exact ⟨HBL2.out, boxed.trans (HB2.out.mono (by simp))⟩
        · have ha : argOf (x :: r) = ⟨1, x :: r, 0⟩ := by
            show (if _ then _ else _) = _
            rw [if_neg (by simp)]
            show (if x = 34 then _ else _) = _
            rw [if_neg h34]
            show (if uppB x = true then _ else _) = _
            rw [if_pos hup]
          have hu := fun w => upper_any x.toNat w
          rw [show uppI x.toNat = true from hup] at hu
          have HA := Lib.hid ha; have HU := Lib.hid hu; clear ha hu hup h34 h34'
          go_wp2_with (first | (go_at_call 135; refine (HU.out _).mono ?_; rintro e w' ⟨rfl, rfl⟩))
          go_meet
          rw [HA.out]
          exact ⟨blkAt2 rfl rfl, boxed⟩
  case rest =>
    obtain ⟨hB, hbw⟩ := hcut
    have hpw := HW1.out.below hbw
    have hR : wc.heap[w.heap.size]? = some (.cells #[.int .i64 0, .string ⟨#[]⟩, .int .i64 0] 95 (0, 0)) := (hbw.block _ hs1).trans HB0.out
    have hfr : Frm (MG g) w wc := ((Frm.refl (MG g) w).alloc _).trans (HF1.out.trans (Frm.any hbw))
    have hfo := fun w => formed_any (argOf s) w HOK.out
    have hszc := hbw.size
    have hszB : w1.heap.size < wc.heap.size := (Array.getElem?_eq_some_iff.1 hB).1
    obtain ⟨a, ha⟩ : ∃ a, a = argOf s := ⟨_, rfl⟩
    obtain ⟨fb, hfb⟩ : ∃ fb, fb = formedS (argOf s) := ⟨_, rfl⟩
    rw [← hfb] at hfo
    rw [← ha] at hfo hB
    have HA := Lib.hid ha; have HFB := Lib.hid hfb; clear ha hfb
    obtain ⟨ak, at_, an⟩ := a
    obtain ⟨L, bad⟩ := q
    unfold argC at hB
    unfold vArg at hfo
    simp only at hB hfo
    obtain ⟨A, c, hg, hsl, hlg, hld, htk⟩ := hpw
    simp only at hg hsl htk
    have c1 : wc.cell? ⟨g, 1, none⟩ = some (.bool bad) := (cell_blk hg 1).trans rfl
    have z1 := frz_blk hg 1
    have r0 := (cell_blk hR 0).trans rfl; have r1 := (cell_blk hR 1).trans rfl; have r2 := (cell_blk hR 2).trans rfl
    have y0 := frz_blk hR 0; have y1 := frz_blk hR 1; have y2 := frz_blk hR 2
    have b0 := (cell_blk hB 0).trans rfl; have b1 := (cell_blk hB 1).trans rfl; have b2 := (cell_blk hB 2).trans rfl
    have HG := Lib.hid hg; have HSL := Lib.hid hsl; have HLG := Lib.hid hlg; have HLD := Lib.hid hld; have HTK := Lib.hid htk; have HR := Lib.hid hR; have HB := Lib.hid hB; have HFR := Lib.hid hfr; have HFO := Lib.hid hfo; have HBW := Lib.hid hbw
    clear hg hsl hlg hld htk hR hB hfr hfo hbw
    have hgn : g ≠ w.heap.size := by omega
    have hgn1 : g ≠ w1.heap.size := by omega
    have hnn : w.heap.size ≠ w1.heap.size := by omega
    cases bad
    · go_wp2_with fail
      refine (HFO.out _).mono ?_
      rintro e w5 ⟨rfl, hb5⟩
      have hG5 := keptBlk hb5 HG.out
      have hR5 := keptBlk hb5 HR.out
      have hB5 := keptBlk hb5 HB.out
      have c1 : w5.cell? ⟨g, 1, none⟩ = some (.bool false) := (cell_blk hG5 1).trans rfl
      have z1 := frz_blk hG5 1
      have r0 := (cell_blk hR5 0).trans rfl; have r1 := (cell_blk hR5 1).trans rfl; have r2 := (cell_blk hR5 2).trans rfl
      have y0 := frz_blk hR5 0; have y1 := frz_blk hR5 1; have y2 := frz_blk hR5 2
      have b0 := (cell_blk hB5 0).trans rfl; have b1 := (cell_blk hB5 1).trans rfl; have b2 := (cell_blk hB5 2).trans rfl
      have HB5 := Lib.hid hb5; have HG5 := Lib.hid hG5; have HR5 := Lib.hid hR5; clear hb5 hG5 hR5 hB5
      go_wp2_with fail
      have hRF := Blk.set _ (Blk.set _ (Blk.set _ ((set_other w5 g 1 (.bool (!fb)) _ (Ne.symm hgn)).trans HR5.out) 0 (.int .i64 ak)) 1 (.string ⟨at_.toArray⟩)) 2 (.int .i64 an)
      have q0 := (cell_blk hRF 0).trans rfl; have q1 := (cell_blk hRF 1).trans rfl; have q2 := (cell_blk hRF 2).trans rfl
      have hpw5 : PW (w5.setCell ⟨g, 1, none⟩ (.bool (!fb))) g (L, (!fb)) := PW.mk_ (p := (L, false)) (w := w5) (A := A) (c := c) (by rw [Blk.set _ HG5.out 1]; rfl) (HSL.out.below HB5.out) HLG.out (HLD.out.below HB5.out) HTK.out (fun k _ hk => set_other _ _ _ _ _ hk) (by have := (Array.getElem?_eq_some_iff.1 HG5.out).1; omega)
      refine bodyPost_ret (v := .agg #[.int .i64 ak, .string ⟨at_.toArray⟩, .int .i64 an]) (by simp [results, Tryz.results117, go_sem, q0, q1, q2]) rfl ?_
      rw [← HFB.out, ← HA.out]
      exact ⟨rfl, hpw5.keepG (fun k hk => (set_other _ _ _ _ _ (by omega)).trans ((set_other _ _ _ _ _ (by omega)).trans (set_other _ _ _ _ _ (by omega)))), (((((HFR.out.trans (Frm.any HB5.out)).setCell (p := ⟨g, 1, none⟩) (fun _ => rfl) _).setCell (p := ⟨w.heap.size, 0, none⟩) (fun h => absurd h (Nat.lt_irrefl _)) _).setCell (p := ⟨w.heap.size, 1, none⟩) (fun h => absurd h (Nat.lt_irrefl _)) _).setCell (p := ⟨w.heap.size, 2, none⟩) (fun h => absurd h (Nat.lt_irrefl _)) _)⟩
    · go_wp2_with fail
      have hRF := Blk.set _ (Blk.set _ (Blk.set _ ((set_other wc g 1 (.bool true) _ (Ne.symm hgn)).trans HR.out) 0 (.int .i64 ak)) 1 (.string ⟨at_.toArray⟩)) 2 (.int .i64 an)
      have q0 := (cell_blk hRF 0).trans rfl; have q1 := (cell_blk hRF 1).trans rfl; have q2 := (cell_blk hRF 2).trans rfl
      have hpw5 : PW (wc.setCell ⟨g, 1, none⟩ (.bool true)) g (L, true) := PW.mk_ (p := (L, true)) (w := wc) (A := A) (c := c) (by rw [Blk.set _ HG.out 1]; rfl) (HSL.out) HLG.out (HLD.out) HTK.out (fun k _ hk => set_other _ _ _ _ _ hk) (by have := (Array.getElem?_eq_some_iff.1 HG.out).1; omega)
      refine bodyPost_ret (v := .agg #[.int .i64 ak, .string ⟨at_.toArray⟩, .int .i64 an]) (by simp [results, Tryz.results117, go_sem, q0, q1, q2]) rfl ?_
      rw [← HA.out]
      exact ⟨rfl, hpw5.keepG (fun k hk => (set_other _ _ _ _ _ (by omega)).trans ((set_other _ _ _ _ _ (by omega)).trans (set_other _ _ _ _ _ (by omega)))), (((((HFR.out).setCell (p := ⟨g, 1, none⟩) (fun _ => rfl) _).setCell (p := ⟨w.heap.size, 0, none⟩) (fun h => absurd h (Nat.lt_irrefl _)) _).setCell (p := ⟨w.heap.size, 1, none⟩) (fun h => absurd h (Nat.lt_irrefl _)) _).setCell (p := ⟨w.heap.size, 2, none⟩) (fun h => absurd h (Nat.lt_irrefl _)) _)⟩
end Go.Proofs.YtjopmgoacncmgaaGreatDoor
