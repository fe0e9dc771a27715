/- A part of the proofs of the laws of one package; see the law's own text, which comes last in 'order'. No conditions of its own. -/
import Derived.Test.YtpeamehplhpcjaaGreatDoorZ27
import Derived.Test.YtpeamehplhpcjaaGreatDoorZ29
set_option linter.unusedVariables false
set_option linter.unusedSimpArgs false
namespace Go.Proofs.YtpeamehplhpcjaaGreatDoor
open Go.RowKit
set_option maxRecDepth 100000 in
set_option maxHeartbeats 2000000 in
theorem rincl_any (W : World) (M : Nat → Prop) (B g : Nat) (t : List Fil) (pp : Bs) (s : Rst) (H : RcW W M B g t pp s) (p ref : Bs) (dep : Int) (hp : p.length ≤ 2000000000) (hr : ref.length ≤ 2000000000) (ht : ∀ d p, findT t p = some d → d.length ≤ 4294967000) :
    Calls Tryz.prog 139 #[.pointer (some ⟨g, 0, none⟩), .string ⟨p.toArray⟩, .string ⟨ref.toArray⟩, .int .i64 dep] W fun e w' => ∃ A n c, e = .returned (.tuple #[.string ⟨(rincl t (decide (24 ≤ dep)) p ref s).1.toArray⟩, .slice A n c, .int .i64 (rincl t (decide (24 ≤ dep)) p ref s).2.2]) ∧ Sl w' (fun b => W.heap.size ≤ b) A n c (rincl t (decide (24 ≤ dep)) p ref s).2.1 ∧ Below W.heap.size W w' := by
  obtain ⟨q, H⟩ := H
  have hg := H.lt g (H.own g (.inl rfl))
  obtain ⟨R, hR⟩ : ∃ R, R = rincl t (decide (24 ≤ dep)) p ref s := ⟨_, rfl⟩
  rw [← hR]
  unfold rincl at hR
  have hn1 : 0 < (splitS 47 p).length := by rw [split_len]; omega
  have hsl := (split_lens 47 p).1 _ (List.getElem_mem hn1)
  have hgen : ∀ (l : List Bs) (h : 0 < l.length), l.headD [] = l[0] := by
    intro l h
    cases l with
    | nil => simp at h
    | cons a b => rfl
  rw [hgen _ hn1] at hR
  have hsp := fun w => rsplit_any 47 47 rfl p w (by omega)
  have hln := split_len 47 p
  clear hgen
  generalize splitS 47 p = sp at *
  generalize hs0 : sp[0] = nm at *
  have hrf := fun w => rref_any nm ref w (by omega) hr
  have hcc := H.cells
  unfold rcC at hcc
  have HOP := Lib.hid H.opn; have HTR := Lib.hid H.tree; have HH := Lib.hid H
  generalize refS nm ref = rr at *
  obtain ⟨rp, re⟩ := rr
  simp only at hR hrf
  have HSP := Lib.hid hsp; have HRF := Lib.hid hrf; have HC := Lib.hid hcc; have HR := Lib.hid hR; have HT := Lib.hid ht; have HS0 := Lib.hid hs0
  clear hsp hrf hcc hR H hln hs0
  go_enter Tryz.func139, Tryz.ntmps139
  go_wp2_with fail
  refine (HSP.out W).mono ?_
  rintro e w1 ⟨A1, c1, rfl, ho1, hb1⟩
  obtain ⟨b1, o1, rfl, -, hbs1, d0⟩ := (ho1.sl (by decide)).str hn1
  rw [HS0.out] at d0
  have HB1 := Lib.hid hb1
  have hI1 : (0 : Int) < (sp.length : Int) := by omega
  clear ho1 hb1
  simp only [Nat.zero_mul, Nat.add_zero] at d0
  go_wp2_with fail
  refine (HRF.out w1).mono ?_
  rintro e w2 ⟨rfl, hb2⟩
  have HB2 := Lib.hid (HB1.out.trans (hb2.mono HB1.out.size))
  clear hb2 HB1 d0
  by_cases he : re ≠ 0
  · have HR2 := Lib.hid (show R = ([], [], re) by rw [HR.out, if_pos he])
    have hne : (re != 0) = true := by rw [bne_iff_ne]; exact he
    have heb : (re == 0) = false := by rw [beq_eq_false_iff_ne]; exact he
    go_wp2_with fail
    (try simp only [Exit.inBlock, Exit.then]); refine bodyPost_ret (v := .tuple #[.string ⟨#[]⟩, .slice none 0 0, .int .i64 re]) (by simp [results, Tryz.results139, go_sem]) rfl ?_
    exact ⟨none, 0, 0, by rw [HR2.out], by rw [HR2.out]; exact Sl.nil _ _ _ _ (by decide), HB2.out⟩
  · have he0 : re = 0 := by simpa using he
    subst he0
    have HR2 := Lib.hid (HR.out.trans (if_neg (by simp)))
    have c7 := (cell_blk (keptBlk HB2.out HC.out) 7).trans rfl
    go_wp2_with fail
    refine (has5_any q.oA s.opn.length q.oc w2 _ s.opn rp ((HOP.out.below HB2.out).sl (by decide))).mono ?_
    rintro e w3 ⟨rfl, rfl⟩
    clear c7
    cases hc : s.opn.contains rp with
    | true =>
      have HR3 := Lib.hid (show R = ([], [], 12) by rw [HR2.out, hc]; rfl)
      go_wp2_with fail
      (try simp only [Exit.inBlock, Exit.then]); refine bodyPost_ret (v := .tuple #[.string ⟨#[]⟩, .slice none 0 0, .int .i64 12]) (by simp [results, Tryz.results139, go_sem]) rfl ?_
      exact ⟨none, 0, 0, by rw [HR3.out], by rw [HR3.out]; exact Sl.nil _ _ _ _ (by decide), HB2.out⟩
    | false =>
      have hr3 := HR2.out
      rw [hc] at hr3
      have c0 := (cell_blk (keptBlk HB2.out HC.out) 0).trans rfl
      have HFI := Lib.hid (rfindT_any q.tA q.tn q.tc w2 _ t (HTR.out.below HB2.out) rp)
      have HTT := Lib.hid (fun d h => HT.out d rp h)
      generalize findT t rp = fo at *
      have HR3 := Lib.hid hr3
      clear hr3
      go_wp2_with fail
      refine HFI.out.mono ?_
      rintro e w4 ⟨rfl, hb4⟩
      have HB4 := Lib.hid (HB2.out.trans (hb4.mono HB2.out.size))
      clear hb4 c0 HFI
      cases fo with
      | none =>
        have HR4 := Lib.hid (show R = ([], [], 7) from HR3.out)
        unfold findV
        go_wp2_with fail
        (try simp only [Exit.inBlock, Exit.then]); refine bodyPost_ret (v := .tuple #[.string ⟨#[]⟩, .slice none 0 0, .int .i64 7]) (by simp [results, Tryz.results139, go_sem]) rfl ?_
        exact ⟨none, 0, 0, by rw [HR4.out], by rw [HR4.out]; exact Sl.nil _ _ _ _ (by decide), HB4.out⟩
      | some d =>
        have hli := fun w => rlinesT_any d w (HTT.out d rfl)
        have hr4 : R = if (linesS d).2 ≠ 0 then ([], [], (linesS d).2) else if decide (24 ≤ dep) = true then ([], [], 11) else (rp, (linesS d).1, 0) := HR3.out
        generalize linesS d = ld at *
        obtain ⟨ll, le⟩ := ld
        simp only at hli hr4
        have HLI := Lib.hid hli; have HR4 := Lib.hid hr4
        clear hli hr4
        unfold findV
        go_wp2_with fail
        refine (HLI.out w4).mono ?_
        rintro e w5 ⟨A5, n5, c5, rfl, ho5, rfl, hb5⟩
        have HB5 := Lib.hid (HB4.out.trans (hb5.mono HB4.out.size))
        have HS5 := Lib.hid ((ho5.sl (by decide)).wide (S' := fun b => W.heap.size ≤ b) (fun k _ hk => hk.elim False.elim (fun hk => by have := (ho5.lt k hk).1; have := HB4.out.size; show W.heap.size ≤ k; omega)) (by decide))
        clear hb5 ho5
        by_cases hle : le ≠ 0
        · have HR5 := Lib.hid (show R = ([], [], le) by rw [HR4.out, if_pos hle])
          have hne : (le != 0) = true := by rw [bne_iff_ne]; exact hle
          have heb : (le == 0) = false := by rw [beq_eq_false_iff_ne]; exact hle
          go_wp2_with fail
          (try simp only [Exit.inBlock, Exit.then]); refine bodyPost_ret (v := .tuple #[.string ⟨#[]⟩, .slice none 0 0, .int .i64 le]) (by simp [results, Tryz.results139, go_sem]) rfl ?_
          exact ⟨none, 0, 0, by rw [HR5.out], by rw [HR5.out]; exact Sl.nil _ _ _ _ (by decide), HB5.out⟩
        · have he0 : le = 0 := by simpa using hle
          subst he0
          by_cases hde : (24 : Int) ≤ dep
          · have HR5 := Lib.hid (show R = ([], [], 11) by rw [HR4.out, if_neg (by simp), if_pos (by simpa using hde)])
            go_wp2_with fail
            (try simp only [Exit.inBlock, Exit.then]); refine bodyPost_ret (v := .tuple #[.string ⟨#[]⟩, .slice none 0 0, .int .i64 11]) (by simp [results, Tryz.results139, go_sem]) rfl ?_
            exact ⟨none, 0, 0, by rw [HR5.out], by rw [HR5.out]; exact Sl.nil _ _ _ _ (by decide), HB5.out⟩
          · have HR5 := Lib.hid (show R = (rp, ll, 0) by rw [HR4.out, if_neg (by simp), if_neg (by simpa using hde)])
            go_wp2_with fail
            (try simp only [Exit.inBlock, Exit.then]); refine bodyPost_ret (v := .tuple #[.string ⟨rp.toArray⟩, .slice A5 ll.length c5, .int .i64 0]) (by simp [results, Tryz.results139, go_sem]) rfl ?_
            exact ⟨A5, _, c5, by rw [HR5.out], by rw [HR5.out]; exact HS5.out, HB5.out⟩
end Go.Proofs.YtpeamehplhpcjaaGreatDoor
