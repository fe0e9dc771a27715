/- A part of the proofs of the laws of one package; see the law's own text, which comes last in 'order'. No conditions of its own. -/
import Derived.Test.YtpeamehplhpcjaaGreatDoorWB28
import Derived.Test.YtpeamehplhpcjaaGreatDoorWB36
set_option linter.unusedVariables false
set_option linter.unusedSimpArgs false
namespace Go.Proofs.YtpeamehplhpcjaaGreatDoor
open Go.RowKit
section
variable {w w' : World} {T : Nat → Prop} {base e : Nat} {A : Option Addr} {c : Nat} {xs : List Bs}
theorem Own.atB (h : Own w T base e A c xs) {k : Nat} (hk : k < xs.length) : ∃ g, A = some ⟨g, 0, none⟩ ∧ base ≤ g ∧ g < w.heap.size ∧ w.cell? ⟨g, k, none⟩ = some (.string ⟨xs[k].toArray⟩) ∧ w.frozen? ⟨g, k, none⟩ = false := by
  obtain ⟨cs, ⟨hl, h2⟩, h3⟩ := h
  have hz : GoT.size Bs = 1 := rfl
  rcases h2 with ⟨_, h0⟩ | ⟨g, cap, cur, hv, hb, hg, hn, hm, hcs, htk⟩
  · omega
  · injection hv with hA hn' hc'
    refine ⟨g, hA, hb, (Array.getElem?_eq_some_iff.1 hg).1, ?_, frz_blk hg k⟩
    rw [cell_blk hg]
    have hr := h3 k hk
    rw [hz] at hl htk hr
    have hr : cs.getD (k * 1 + 0) undef = .string ⟨xs[k].toArray⟩ := hr
    have hlt : k < cs.length := by omega
    rw [List.getD_eq_getElem?_getD, show k * 1 + 0 = k by omega, List.getElem?_eq_getElem hlt, Option.getD_some] at hr
    rw [← hr]
    have h5 : cs[k]? = some cs[k] := List.getElem?_eq_getElem hlt
    rw [← h5]
    conv => rhs; rw [← htk]
    rw [List.getElem?_take, if_pos (by omega), Array.getElem?_toList]
theorem Own.putB (h : Own w T base e A c xs) {k g : Nat} (hk : k < xs.length) (hA : A = some ⟨g, 0, none⟩) (s : Bs) : Own (w.setCell ⟨g, k, none⟩ (.string ⟨s.toArray⟩)) T base e A c (xs.set k s) := by
  obtain ⟨cs, ⟨hl, h2⟩, h3⟩ := h
  have hz : GoT.size Bs = 1 := rfl
  rw [hz] at hl
  rcases h2 with ⟨_, h0⟩ | ⟨g2, cap, cur, hv2, hb, hg, hn, hm, hcs, htk⟩
  · omega
  · injection hv2 with hA2 hn' hc'
    rw [hA] at hA2
    injection hA2 with hA2
    injection hA2 with hA2
    subst hA2
    refine ⟨cs.set k (.string ⟨s.toArray⟩), ⟨by rw [hz]; simp; omega, .inr ⟨g, cap, cur.setIfInBounds k (.string ⟨s.toArray⟩), by rw [List.length_set, hA, hc'], hb, Blk.set w hg k _, by simpa using hn, hm, by simpa using hcs, ?_⟩⟩, fun i hi => ?_⟩
    · rw [← htk, List.length_set, hz, Array.toList_setIfInBounds, List.take_set]
    · have hi' : i < xs.length := by simpa using hi
      have hr := h3 i hi'
      show _ = _
      rw [hz] at hr ⊢
      have hr1 : cs.getD (i * 1 + 0) undef = .string ⟨xs[i].toArray⟩ := hr
      show (cs.set k (.string ⟨s.toArray⟩)).getD (i * 1 + 0) undef = _
      rw [List.getD_eq_getElem?_getD, show i * 1 + 0 = i by omega, List.getElem?_eq_getElem (by omega), Option.getD_some] at hr1
      rw [List.getD_eq_getElem?_getD, show i * 1 + 0 = i by omega, List.getElem?_eq_getElem (by simp; omega), Option.getD_some, List.getElem_set, List.getElem_set]
      split
      · rfl
      · exact hr1
end
theorem find_in {t : List Fil} {p d : Bs} (h : findT t p = some d) : ∃ f ∈ t, f.path = p ∧ f.data = d := by
  unfold findT at h
  cases hx : t.find? (fun f => f.path == p) with
  | none => rw [hx] at h; cases h
  | some f => rw [hx] at h; injection h with h; exact ⟨f, List.mem_of_find?_eq_some hx, by simpa using List.find?_some hx, h⟩
theorem lines_lens (d : Bs) (hd : d.length ≤ 65536) : (∀ s ∈ (linesS d).1, s.length ≤ 65536) ∧ (linesS d).1.length ≤ 1024 := by
  have h := split_lens 10 d
  unfold linesS
  split
  · exact ⟨fun s hs => (by cases hs), Nat.zero_le _⟩
  · split
    · exact ⟨fun s hs => (by cases hs), Nat.zero_le _⟩
    · refine ⟨fun s hs => Nat.le_trans (h.1 s hs) hd, ?_⟩
      rw [split_len]
      omega
theorem rjoin_len (l : List Bs) : (rjoinS l).1.length ≤ 65536 := by
  unfold rjoinS
  split
  · exact Nat.zero_le _
  · split
    · exact Nat.zero_le _
    · split
      · exact Nat.zero_le _
      · rename_i a r h1 h2
        rw [joinGo_len]
        simp only [List.length_cons, sizeS] at h2
        omega
def RpPost (w : World) (R : List Fil × Int) (e : Ending) (w' : World) : Prop := ∃ A n c, e = .returned (.tuple #[.slice A n c, .int .i64 R.2]) ∧ Sl w' (fun b => w.heap.size ≤ b) A n c R.1 ∧ Below w.heap.size w w'
set_option maxHeartbeats 4000000 in
theorem rrepl_any (A : Option Addr) (n c : Nat) (w : World) (S : Nat → Prop) (t : List Fil) (hl : Sl w S A n c t) (hs : ∀ f ∈ t, f.path.length ≤ 4294967000) (lp : Bs) (lz : Int) (s : Bs) (hsl : s.length ≤ 300) :
    Calls Tryz.prog 22 #[.slice A n c, .agg #[.string ⟨lp.toArray⟩, .int .i64 lz], .string ⟨s.toArray⟩] w (RpPost w (rreplS t ⟨lp, lz⟩ s)) := by
  obtain ⟨R, hR⟩ : ∃ R, R = rreplS t ⟨lp, lz⟩ s := ⟨_, rfl⟩
  rw [← hR]
  unfold rreplS at hR
  simp only at hR
  have hck := fun w h => rcheckT_any A n c w S t h hs
  have hfi := fun w h => rfindT_any A n c w S t h lp
  have hbd : treeS t = 0 → ∀ d, findT t lp = some d → d.length ≤ 65536 ∧ lp.length ≤ 4294967000 := fun h d hd => by
    obtain ⟨f, hf, h1, h2⟩ := find_in hd
    exact ⟨h2 ▸ (tree_ok h f hf).2, h1 ▸ hs f hf⟩
  have hsp := fun w => rsplit_any 10 10 rfl s w (by omega)
  have hput := fun w d h1 => rput_any A n c w S t h1 hs lp d
  generalize treeS t = E at *
  generalize findT t lp = o at *
  generalize splitS 10 s = ss at *
  have HCK := Lib.hid hck; have HFI := Lib.hid hfi; have HBD := Lib.hid hbd; have HSP := Lib.hid hsp; have HPUT := Lib.hid hput; have HL := Lib.hid hl; have HR := Lib.hid hR
  clear hck hfi hbd hsp hput hl hR hs
  go_enter Tryz.func22, Tryz.ntmps22
  go_upto_region 1 with fail
  have hb0 : Below w.heap.size w (w.alloc (.cells #[.string ⟨lp.toArray⟩, .int .i64 lz] 38)) := by ((repeat (first | (with_reducible exact Below.refl _ _) | (with_reducible refine belowA ?_ _) | (with_reducible refine belowD ?_) | (with_reducible refine belowS ?_ (Nat.le_refl _) _ _) | (with_reducible refine next ?_ (by assumption) (Nat.le_refl _)))); done)
  have hg0 := blkAt w (.cells #[.string ⟨lp.toArray⟩, .int .i64 lz] 38) rfl
  generalize (w.alloc (.cells #[.string ⟨lp.toArray⟩, .int .i64 lz] 38)) = W at *
  have HB0 := Lib.hid hb0; have HG0 := Lib.hid hg0
  clear hb0 hg0
  go_wp2_with fail
  refine (HCK.out W (HL.out.below HB0.out)).mono ?_
  rintro e w1 ⟨rfl, hb1⟩
  have HB1 := Lib.hid (HB0.out.trans (hb1.mono HB0.out.size)); have HG1 := Lib.hid (keptBlk hb1 HG0.out)
  clear hb1 HB0 HG0 HCK
  by_cases hE : E = 0
  · subst hE
    have hr := HR.out
    rw [if_neg (by simp)] at hr
    replace HBD := Lib.hid (HBD.out rfl)
    have g0 := (cell_blk HG1.out 0).trans rfl
    have HR1 := Lib.hid hr
    clear HR hr
    go_wp2_with fail
    refine (HFI.out w1 (HL.out.below HB1.out)).mono ?_
    rintro e w2 ⟨rfl, hb2⟩
    have HB2 := Lib.hid (HB1.out.trans (hb2.mono HB1.out.size)); have HG2 := Lib.hid (keptBlk hb2 HG1.out)
    clear hb2 HB1 HG1 HFI g0
    unfold findV
    have hr := HR1.out
    clear HR1
    cases o with
    | none =>
      have HR2 := Lib.hid (show R = ([], 7) from hr)
      clear hr
      go_wp2_with fail
      go_ret2
      exact ⟨none, 0, 0, by rw [HR2.out]; rfl, by rw [HR2.out]; exact Sl.nil _ _ _ _ (by decide), HB2.out⟩
    | some d =>
      obtain ⟨hdl, hpl⟩ := HBD.out d rfl
      have hli := fun w => rlinesT_any d w (by omega)
      have hll := lines_lens d hdl
      try simp only at hr
      generalize linesS d = X at *
      obtain ⟨ls, ec⟩ := X
      try simp only at hr hll
      have HLI := Lib.hid hli; have HLL := Lib.hid hll; have HRR := Lib.hid hr
      clear hli hll hr HBD
      go_wp2_with fail
      refine (HLI.out w2).mono ?_
      rintro e w3 ⟨A3, n3, c3, rfl, ho3, hn3, hb3⟩
      try simp only at hn3
      subst hn3
      have HB3 := Lib.hid (HB2.out.trans (hb3.mono HB2.out.size)); have HG3 := Lib.hid (keptBlk hb3 HG2.out); have HO3 := Lib.hid ho3
      have hlt2 : w.heap.size + 1 ≤ w2.heap.size := (Array.getElem?_eq_some_iff.1 HG2.out).1
      clear hb3 ho3 HB2 HG2 HLI
      by_cases hec : ec = 0
      · subst hec
        have hr := HRR.out
        rw [if_neg (by simp)] at hr
        have g1 := (cell_blk HG3.out 1).trans rfl
        clear HRR
        by_cases hz0 : lz < 0
        · have HR2 := Lib.hid (show R = ([], 3) from hr.trans (if_pos (.inl hz0)))
          clear hr
          go_wp2_with fail
          go_ret2
          exact ⟨none, 0, 0, by rw [HR2.out]; rfl, by rw [HR2.out]; exact Sl.nil _ _ _ _ (by decide), HB3.out⟩
        · by_cases hz1 : (ls.length : Int) ≤ lz
          · have HR2 := Lib.hid (show R = ([], 3) from hr.trans (if_pos (.inr hz1)))
            clear hr
            go_wp2_with fail
            go_ret2
            exact ⟨none, 0, 0, by rw [HR2.out]; rfl, by rw [HR2.out]; exact Sl.nil _ _ _ _ (by decide), HB3.out⟩
          · rw [if_neg (by omega)] at hr
            obtain ⟨i, rfl⟩ : ∃ i : Nat, lz = i := ⟨lz.toNat, by omega⟩
            have hi : i < ls.length := by omega
            rw [Int.toNat_natCast] at hr
            have HRR := Lib.hid hr
            clear hr hz0
            go_wp2_with fail
            refine (HSP.out w3).mono ?_
            rintro e w4 ⟨A4, c4, rfl, ho4, hb4⟩
            have HB4 := Lib.hid (HB3.out.trans (hb4.mono HB3.out.size)); have HG4 := Lib.hid (keptBlk hb4 HG3.out); have HO4 := Lib.hid (HO3.out.below hb4)
            clear hb4 ho4 HB3 HG3 HO3 HSP g1
            by_cases hss : ss.length = 1
            · have hq : ((ss.length : Int) != 1) = false := by rw [hss]; rfl
              have hr := HRR.out
              rw [if_neg (by omega)] at hr
              obtain ⟨b, rfl, hbb, hbl, hcb, hfb⟩ := HO4.out.atB hi
              have g1 := (cell_blk HG4.out 1).trans rfl
              have HO5 := Lib.hid (HO4.out.putB hi rfl s)
              have HB5 := Lib.hid (HB4.out.setCell (p := ⟨b, i, none⟩) (by show w.heap.size ≤ b; omega) (.string ⟨s.toArray⟩))
              have HG5 := Lib.hid ((set_other w4 b i (.string ⟨s.toArray⟩) w.heap.size (by omega)).trans HG4.out)
              have hlen5 : (ls.set i s).length = ls.length := by simp
              have hll := HLL.out
              have hj := fun w S h => rjoin_any (some ⟨b, 0, none⟩) (ls.set i s).length c3 w S (ls.set i s) h (by rw [hlen5]; exact hll.2) (fun x hx => by
                rcases List.mem_or_eq_of_mem_set hx with hx | hx
                · have := hll.1 x hx; omega
                · rw [hx]; omega)
              rw [hlen5] at hj
              have hjl := rjoin_len (ls.set i s)
              generalize rjoinS (ls.set i s) = J at *
              obtain ⟨js, je⟩ := J
              try simp only at hr hj hjl
              have HJ := Lib.hid hj; have HRR2 := Lib.hid hr
              clear hr hj hll hss HRR HLL HG4
              go_upto_region 14 with fail
              generalize w4.setCell ⟨b, i, none⟩ (.string ⟨s.toArray⟩) = w5 at *
              clear hcb hfb g1
              go_wp2_with fail
              refine (HJ.out w5 _ ((HO5.out.sl (by decide)).cast hlen5)).mono ?_
              rintro e w6 ⟨rfl, hb6⟩
              have HB6 := Lib.hid (HB5.out.trans (hb6.mono HB5.out.size)); have HG6 := Lib.hid (keptBlk hb6 HG5.out)
              clear hb6 HB5 HG5 HO5 HO4 HJ HB4
              by_cases hje : je = 0
              · subst hje
                have hr := HRR2.out
                rw [if_neg (by simp)] at hr
                have g0 := (cell_blk HG6.out 0).trans rfl
                have hp := HPUT.out w6 js (HL.out.below HB6.out) hpl (by omega)
                rw [← hr] at hp
                have HP := Lib.hid hp
                clear hp hr HRR2
                go_wp2_with fail
                refine HP.out.mono ?_
                rintro e w7 ⟨A7, n7, c7, rfl, hs7, hb7⟩
                have HB7 := Lib.hid (HB6.out.trans (hb7.mono HB6.out.size)); have HS7 := Lib.hid hs7
                have hsz := HB6.out.size
                clear hs7 hb7
                go_wp2_with fail
                go_ret2
                exact ⟨A7, n7, c7, rfl, HS7.out.wide (fun k _ hk => by omega) (by decide), HB7.out⟩
              · have hjb : (je != 0) = true := by rw [bne_iff_ne]; exact hje
                have HR2 := Lib.hid (show R = ([], je) from HRR2.out.trans (if_pos hje))
                clear hje
                go_wp2_with fail
                go_ret2
                exact ⟨none, 0, 0, by rw [HR2.out]; rfl, by rw [HR2.out]; exact Sl.nil _ _ _ _ (by decide), HB6.out⟩
            · have hq : ((ss.length : Int) != 1) = true := by rw [bne_iff_ne]; omega
              have HR2 := Lib.hid (show R = ([], 1) from HRR.out.trans (if_pos hss))
              clear hss
              go_wp2_with fail
              go_ret2
              exact ⟨none, 0, 0, by rw [HR2.out]; rfl, by rw [HR2.out]; exact Sl.nil _ _ _ _ (by decide), HB4.out⟩
      · have HR2 := Lib.hid (show R = ([], ec) from HRR.out.trans (if_pos hec))
        have hEb : (ec != 0) = true := by rw [bne_iff_ne]; exact hec
        clear hec
        go_wp2_with fail
        go_ret2
        exact ⟨none, 0, 0, by rw [HR2.out]; rfl, by rw [HR2.out]; exact Sl.nil _ _ _ _ (by decide), HB3.out⟩
  · have HR2 := Lib.hid (show R = ([], 1) from HR.out.trans (if_pos hE))
    have hEb : (E != 0) = true := by rw [bne_iff_ne]; exact hE
    clear hE
    go_wp2_with fail
    go_ret2
    exact ⟨none, 0, 0, by rw [HR2.out]; rfl, by rw [HR2.out]; exact Sl.nil _ _ _ _ (by decide), HB1.out⟩
end Go.Proofs.YtpeamehplhpcjaaGreatDoor
