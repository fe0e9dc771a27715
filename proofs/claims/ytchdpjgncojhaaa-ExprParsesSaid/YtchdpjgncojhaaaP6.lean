/- licitref08: the parser: primary: names and calls. -/
import Derived.Test.YtchdpjgncojhaaaP5
set_option linter.unusedVariables false
set_option linter.unusedSimpArgs false
namespace Go.Proofs.Ytchdpjgncojhaaa
open Go.RowKit

theorem ppt_n {b : Bool} {s : PSt} {k : Int} {t : Bs} {n n' : Int} (h : b = true → n = n') : ppt (b, s) ⟨k, t, n⟩ = ppt (b, s) ⟨k, t, n'⟩ := by
  cases b
  · rfl
  · rw [h rfl]
theorem pcl_true {b : Bool} {s : PSt} (h : (pcl (b, s)).1 = true) : b = true := by
  cases b
  · exact h
  · rfl
set_option maxRecDepth 100000 in
set_option maxHeartbeats 8000000 in
theorem prim8_name (n0 g : Nat) (L : List Tok) (hV : ∀ t ∈ L, validT t = true) (f : Nat) (ihL : ∀ f', f' ≤ f → WLevel n0 g L f') (ihP : ∀ f', f' ≤ f → WPrim n0 g L f') (ihA : WArg8 n0 g L f)
    (st : PSt) (w : World) (x : Bool × PSt × Int) (t : Tok) (rr : List Tok) (hr : st.rest = t :: rr) (hkk : t.kind = 1) (hld : t.text ≠ [108, 111, 97, 100]) (hin : t.text ≠ [105, 110]) (hx : pr (f + 1) .single st = some x) (hps : PS w n0 g L st) (he : st.err = 0) (hd : 0 ≤ st.depth) (hd25 : st.depth ≤ 25) (hm : st.m ≤ 256) :
    Calls Try.prog 66 #[.pointer (some ⟨g, 0, none⟩)] w (fun e w' => e = .returned (.tuple #[]) ∧ PR8 w' n0 g L st x.1 x.2.1 ∧ Frm (PM n0 g w) w w') := by
  rw [pr, hr] at hx
  simp only [show ¬ (t.kind = 2) by omega, show ¬ (t.kind = 3) by omega, if_false] at hx
  have HKK := Lib.hid hkk; clear hkk
  have HLD0 := Lib.hid hld; have HIN1 := Lib.hid hin; clear hld hin
  obtain ⟨pos, hrest, hpw⟩ := hps
  have HPW := Lib.hid hpw
  obtain ⟨hn0, hol, hpl, htl, hL, A, c, Ao, co, hb, hsl, hown⟩ := hpw
  simp only at hpl hol
  have hlt : pos < L.length := by
    rw [hrest] at hr
    have := congrArg List.length hr
    rw [List.length_drop, List.length_cons] at this
    omega
  have hrd : L[pos] :: L.drop (pos + 1) = t :: rr := by rw [← drop_get hlt, ← hrest, hr]
  injection hrd with ht hrr
  have htt : t.text.length ≤ 9223372036854775807 := htl _ (by rw [← ht]; simp)
  have hvt : validT t = true := hV _ (by rw [← ht]; simp)
  rw [valid_eq] at hvt
  obtain ⟨b, o, hA, hSb, hbs, k1, k2⟩ := hsl.tok (k := pos) hlt
  subst hA
  rw [ht] at k1 k2
  have hlt' : (pos : Int) < (L.length : Int) := by omega
  have hlt2 : ¬ ((L.length : Int) ≤ (pos : Int)) := by omega
  have hge' : (0 : Int) ≤ (pos : Int) := by omega
  have c0 := cell_blk hb 0
  have c1 := cell_blk hb 1
  have c4 := cell_blk hb 4
  simp only [List.getElem?_toArray, List.getElem?_cons_succ, List.getElem?_cons_zero] at c0 c1 c4
  have he' : (st.err != 0) = false := by rw [he]; rfl
  have hw1 : IntKind.i64.wrap ((pos : Int) + 1) = (pos : Int) + 1 := by simp [IntKind.wrap, IntKind.signed, IntKind.bits]; omega
  have hsm : st.out.length + (L.length - pos) = st.m := by simp [PSt.m, hrest]
  have HR := Lib.hid hrest; have HR2 := Lib.hid hr; have HE := Lib.hid he; have HRR := Lib.hid hrr; have HT := Lib.hid ht; have HTL := Lib.hid htl; have HVT := Lib.hid hvt; have HX := Lib.hid hx
  have IHL := Lib.hid ihL; have IHP := Lib.hid ihP; have IHA := Lib.hid ihA
  have hgw : g < w.heap.size := hpw_lt HPW.out
  clear hb hsl hown htl hrest he hr hrr ht hV hvt hx ihL ihP ihA
  go_enter Try.func66, Try.ntmps66
  go_wp2_with fail
  go_quiet (fail)
  go_wp2_with fail
  have hd := dN8 w nq
  have hbg : b ≠ g := by omega
  generalize w.drewN nq = w1 at *
  replace c0 := cell_later hd c0
  replace c1 := cell_later hd c1
  replace k1 := cell_later hd k1
  replace k2 := cell_later hd k2
  go_region_held3 (fun w' => w'.cell? ⟨g, 0, none⟩ = some (.slice (some ⟨b, o, none⟩) L.length c) ∧ w'.cell? ⟨g, 1, none⟩ = some (.int .i64 (pos : Int)) ∧ w'.cell? ⟨b, o + pos * 2, none⟩ = some (.int .i64 t.kind) ∧ w'.cell? ⟨b, o + pos * 2 + 1, none⟩ = some (.string ⟨t.text.toArray⟩))
    (((try go_split_ands); (try dsimp only); refine ⟨?_, ?_, ?_, ?_⟩ <;> ((repeat (first | (with_reducible assumption) | (with_reducible refine cell_alloc' ?_ _) | (with_reducible refine cell_drew' ?_) | (with_reducible refine cell_set ?_ (by assumption)) | (with_reducible refine cell_off (by decide) ?_) | (with_reducible refine cell_later (by assumption) ?_) | (with_reducible refine cell_grown (by assumption) ?_ (by simp; omega)))); done)))
    (fail)
  have hbel : Below w.heap.size w (w1.alloc (Obj.cells #[.int .i64 t.kind, .string ⟨t.text.toArray⟩] 54)).drew := (next hd ((Below.refl w1.heap.size w1).alloc (Nat.le_refl _) _) (Nat.le_refl _)).drew
  have hT2 : (w1.alloc (Obj.cells #[.int .i64 t.kind, .string ⟨t.text.toArray⟩] 54)).drew.heap[w1.heap.size]? = some (.cells #[.int .i64 t.kind, .string ⟨t.text.toArray⟩] 54 (0, 0)) := blkAt w1 _ rfl
  have hgt : g < w1.heap.size := Nat.lt_of_lt_of_le hgw hd.size
  have HP2 := Lib.hid (HPW.out.below hbel)
  generalize (w1.alloc (Obj.cells #[.int .i64 t.kind, .string ⟨t.text.toArray⟩] 54)).drew = w2 at *
  generalize w1.heap.size = tb at *
  have hp2 := HP2.out
  clear c0 c1 c4 k1 k2 hd HPW hSb hbs hbg
  obtain ⟨-, -, -, -, -, A, c, Ao, co, hb, hsl, hown⟩ := hp2
  have hgl2 : g < w2.heap.size := hpw_lt HP2.out
  have c0 := (cell_blk hb 0).trans rfl
  have c1 := (cell_blk hb 1).trans rfl
  have c2 := (cell_blk hb 2).trans rfl
  have c3 := (cell_blk hb 3).trans rfl
  have c4 := (cell_blk hb 4).trans rfl
  have z1 := frz_blk hb 1
  have z2 := frz_blk hb 2
  have z3 := frz_blk hb 3
  have t0 := (cell_blk hT2 0).trans rfl
  have t1 := (cell_blk hT2 1).trans rfl
  have HF2 := Lib.hid (Frm.any (M := PM n0 g w) hbel); clear hbel
  have HBX := Lib.hid hb; have HSX := Lib.hid hsl; have HOX := Lib.hid hown; have HTX := Lib.hid hT2; clear hb hsl hown hT2
  have hx := HX.out
  have hkk := HKK.out
  have hld := HLD0.out
  have hin := HIN1.out
  have hk1' : (t.kind == 1) = true := by rw [hkk]; rfl
  have hk2' : (t.kind == 2) = false := by rw [hkk]; rfl
  have hk3' : (t.kind == 3) = false := by rw [hkk]; rfl
  have hs0 : pnext st [40] = false := by
    unfold pnext
    rw [HR2.out]
    have : t ≠ ⟨3, [40]⟩ := by intro e; rw [e] at hkk; cases hkk
    simpa using this
  have hsy := symbol8_any n0 g L _ [40] w2 HP2.out
  rw [pnext_qsym HR.out, hs0] at hsy
  have HSY := Lib.hid hsy
  have hstA : ({ st with rest := rr } : PSt).m + 1 = st.m := by
    show st.out.length + rr.length + 1 = st.m
    rw [← hsm, ← HRR.out, List.length_drop]; omega
  have hrA : ({ st with rest := rr } : PSt).rest = L.drop (pos + 1) := HRR.out.symm
  have hsa : ∀ W, PW8 W n0 g L ⟨pos + 1, st.depth, st.out, st.err⟩ → Calls Try.prog 83 #[.pointer (some ⟨g, 0, none⟩), .string ⟨[40].toArray⟩] W fun e w' => e = .returned (.bool (pnext { st with rest := rr } [40])) ∧ ∃ m, w' = W.drewN m := fun W h => by
    have := symbol8_any n0 g L _ [40] W h
    rw [pnext_qsym hrA] at this
    exact this
  have HSTA := Lib.hid hstA
  have HRA := Lib.hid hrA
  have tok0 : True := trivial
  clear hsy hs0 hkk
  rw [if_neg hld, if_neg hin] at hx
  have hld' : (t.text == [108, 111, 97, 100]) = false := by rw [beq_eq_false_iff_ne]; exact hld
  have hin' : (t.text == [105, 110]) = false := by rw [beq_eq_false_iff_ne]; exact hin
  have HLD := Lib.hid hld; have HIN0 := Lib.hid hin; clear hld hin
  have hnm := fun W => name5_any t.text W htt
  rw [← name_eq] at hnm
  cases hna : nameT t.text
  · rw [hna] at hx hnm
    injection hx with hx
    have HXX := Lib.hid hx
    have HNM := Lib.hid hnm
    clear hx hnm hna hsa hstA hrA
    go_wp2_with (first | (go_at_call 26; refine (unary8_any t.text 0 _ (by omega) (by omega)).mono ?_; rintro e w' ⟨rfl, rfl⟩) | (go_at_call 83; have _t := tok0; refine HSY.out.mono ?_; rintro e w' ⟨rfl, m4, rfl⟩; have tok1 : True := trivial; clear tok0) | (go_at_call 70; refine (HNM.out _).mono ?_; rintro e wn ⟨rfl, hbn⟩))
    have HBM := Lib.hid (next (dN8 w2 m4) hbn (Nat.le_refl _))
    refine (fail8_any n0 g L _ 4 _ (HP2.out.below HBM.out)).mono ?_
    rintro e w5 ⟨rfl, hw5, hf5⟩
    rw [qfail0 HE.out] at hw5
    go_wp2
    ((try simp only [Exit.inBlock, Exit.then]); first | refine bodyPost_ret (results_none rfl _ _ _) rfl ?_ | refine bodyPost_end (results_none rfl _ _ _) rfl ?_)
    rw [← HXX.out]
    exact ⟨rfl, ⟨fun h => (by cases h), fun _ => by rw [pfail_err HE.out]; exact PE.of_fail 4 (by decide) hw5 rfl rfl (by simp only; omega)⟩, PM.trans (PM.trans HF2.out (Frm.any HBM.out)) hf5⟩
  · rw [hna] at hnm
    rw [hna, if_pos rfl] at hx
    have HNM := Lib.hid hnm
    have hunp : True := trivial
    cases hn40 : pnext { st with rest := rr } [40]
    · rw [hn40] at hx hsa
      injection hx with hx
      have HXX := Lib.hid hx
      have HSA := Lib.hid hsa
      clear hx hnm hna hsa hstA hrA hn40
      go_wp2_with (first | (go_at_call 26; refine (unary8_any t.text 0 _ (by omega) (by omega)).mono ?_; rintro e w' ⟨rfl, rfl⟩) | (go_at_call 83; have _t := tok0; refine HSY.out.mono ?_; rintro e w' ⟨rfl, m4, rfl⟩; have tok1 : True := trivial; clear tok0) | (go_at_call 70; refine (HNM.out _).mono ?_; rintro e wn ⟨rfl, hbn⟩; have HBM := Lib.hid (next (dN8 w2 m4) hbn (Nat.le_refl _)); have hbx := keptBlk HBM.out HBX.out; have htx := keptBlk HBM.out HTX.out; have c1n := (cell_blk hbx 1).trans rfl; have z1n := frz_blk hbx 1; have c4n := (cell_blk hbx 4).trans rfl; have t0n := (cell_blk htx 0).trans rfl; have t1n := (cell_blk htx 1).trans rfl; clear hbx htx hbn) | (go_at_call 83; have _t := tok1; refine (HSA.out _ ((HP2.out.below HBM.out).set1 (pos + 1) hlt)).mono ?_; rintro e w' ⟨rfl, m6, rfl⟩; clear tok1))
      have hpA : PW8 ((wn.setCell ⟨g, 1, none⟩ (.int .i64 ((pos : Int) + 1))).drewN m6) n0 g L ⟨pos + 1, st.depth, st.out, st.err⟩ := ((HP2.out.below HBM.out).set1 (pos + 1) hlt).drewN m6
      have HFA := Lib.hid (show Frm (PM n0 g w) w ((wn.setCell ⟨g, 1, none⟩ (.int .i64 ((pos : Int) + 1))).drewN m6) from (HP2.out.frm (PM.trans HF2.out (Frm.any HBM.out)) _ _).drewN m6)
      have hTA : ((wn.setCell ⟨g, 1, none⟩ (.int .i64 ((pos : Int) + 1))).drewN m6).heap[tb]? = some (.cells #[.int .i64 t.kind, .string ⟨t.text.toArray⟩] 54 (0, 0)) := (set_other _ _ _ _ _ (by omega)).trans (keptBlk HBM.out HTX.out)
      clear c1 z1 t0 t1 c1n z1n c4n t0n t1n
      generalize ((wn.setCell ⟨g, 1, none⟩ (.int .i64 ((pos : Int) + 1))).drewN m6) = wA at *
      have HPA := Lib.hid hpA
      have hglA := hpA.lt
      clear HBX HSX HOX HTX
      obtain ⟨-, -, -, -, -, AA, cA, AoA, coA, hbA, hslA, hownA⟩ := hpA
      have c1 := (cell_blk hbA 1).trans rfl
      have c2A := (cell_blk hbA 2).trans rfl
      have z2A := frz_blk hbA 2
      have t1 := (cell_blk hTA 1).trans rfl
      have HBX := Lib.hid hbA; have HSX := Lib.hid hslA; have HOX := Lib.hid hownA; have HTX := Lib.hid hTA; clear hbA hslA hownA hTA
      go_wp2_with fail
      clear c0 c2 c3 c4 z2 z3
      go_region_law ((go_must (refine (step_app1 (T := fun _ => False) (base := g + 1) (xs := st.out) (t0 := 50) (fz := (0, 0)) rfl _ _ eltOpn rfl (by decide) rfl rfl rfl ?hown rfl [.int .i64 2, .string ⟨t.text.toArray⟩, .int .u32 0] (⟨2, t.text, 0⟩ : Opn) ?hb0 rfl ⟨rfl, rfl, rfl⟩ ?h63 ?hby ?hbase ?_)); go_must (case hown => exact ((HOX.out.alloc _).drew)); go_must (case hb0 => exact blkDrw (blkAt _ _ (by first | rfl | simp [World.setCell]))); go_must (case h63 => omega); go_must (case hby => omega); go_must (case hbase => simp; omega); intro A' c' w4 hown' hg hat; have hb4 := grownBlk hg (blkDrw (blkOld HBX.out _)) (HOX.out.ne_lt (Nat.lt_succ_self g)); have hc42 := (cell_blk hb4 2).trans rfl; have hz42 := frz_blk hb4 2; have hc41 := (cell_blk hb4 1).trans rfl; have hz41 := frz_blk hb4 1; have hc43 := (cell_blk hb4 3).trans rfl; have hz43 := frz_blk hb4 3; have hc44 := (cell_blk hb4 4).trans rfl))
      all_goals
        have hput := put8 (q := ⟨pos + 1, st.depth, st.out, st.err⟩) (o := ⟨2, t.text, 0⟩) hn0 (by simp only; omega) (by simp only; omega) HTL.out hL (blkDrw HBX.out) (HSX.out.below (Below.refl _ _).drew) HOX.out.drew hown' hg
        go_wp2
        ((try simp only [Exit.inBlock, Exit.then]); first | refine bodyPost_ret (results_none rfl _ _ _) rfl ?_ | refine bodyPost_end (results_none rfl _ _ _) rfl ?_)
        rw [← HXX.out]
        exact ⟨rfl, ⟨fun _ => ⟨⟨pos + 1, HRA.out, hput.1⟩, HE.out⟩, fun h => by cases h⟩, PM.trans HFA.out.drew hput.2⟩
    · have hlt2 : pos + 1 < L.length := qsym_lt ((pnext_qsym (d := 0) (o := []) (e := 0) HRA.out [40]).trans hn40)
      rw [if_pos hn40] at hx
      obtain ⟨x1, h1, hx1, hx2⟩ := pthen_eq hx
      rw [hn40] at hsa
      have HSA := Lib.hid hsa
      have hst1 : st.out.length + rr.tail.length + 2 = st.m := by
        rw [← hsm, ← HRR.out, List.tail_drop, List.length_drop]; omega
      have htail : rr.tail = L.drop (pos + 1 + 1) := by rw [← HRR.out, List.tail_drop]
      have hdeep : 24 < st.depth → ∀ mm, QR L st.depth (st.m + 1) x.1 x.2.1 { ({ (qexpect L ⟨pos + 1, st.depth, st.out, 11⟩ [41]) with depth := (qexpect L ⟨pos + 1, st.depth, st.out, 11⟩ [41]).depth - 1 } : Q8) with out := (qexpect L ⟨pos + 1, st.depth, st.out, 11⟩ [41]).out ++ [⟨3, t.text, mm⟩] } := by
        intro hdp mm
        obtain ⟨hz1, hz2⟩ := pparens_deep h1 hn40 hdp
        rw [hx1, hx2, hz1, hz2]
        have hq := QR.deep (L := L) (st := { st with rest := rr }) HRA.out HE.out (pfail { st with rest := rr } 11).2 (pfail_err (st := { st with rest := rr }) HE.out 11)
        exact (((hq.close).down.put ⟨3, t.text, mm⟩).more (by have := hstA; omega)).err_ rfl
      have hok : ¬ 24 < st.depth → ∀ wE, PW8 wE n0 g L ⟨pos + 1 + 1, st.depth + 1, st.out, st.err⟩ → Calls Try.prog 85 #[.pointer (some ⟨g, 0, none⟩)] wE (fun e w3 => ∃ mm : Int, e = .returned (.int .u32 mm) ∧ ∃ q3, PW8 w3 n0 g L q3 ∧ Frm (PM n0 g wE) wE w3 ∧ q3.out.length ≤ 300 ∧ -5 ≤ q3.depth ∧ q3.depth ≤ 40 ∧ QR L st.depth (st.m + 1) x.1 x.2.1 { ({ (qexpect L q3 [41]) with depth := (qexpect L q3 [41]).depth - 1 } : Q8) with out := (qexpect L q3 [41]).out ++ [⟨3, t.text, mm⟩] }) := by
        intro hdp wE hE
        obtain ⟨y, h3, hz1, hz2, hz3⟩ := pparens_yes h1 hn40 hdp
        refine (IHA.out _ wE y h3 ⟨pos + 1 + 1, htail, hE⟩ HE.out (by simp only; omega) (by simp only; omega) (by simp only [PSt.m] at hst1 hm ⊢; omega)).mono ?_
        rintro e w3 ⟨mm, rfl, hmm, hw3, hf3⟩
        have hI := pr_inv _ _ _ _ h3
        obtain ⟨q3, hq3, hqr⟩ := hw3.qr hI.depth hI.m
        have hl := hqr.len
        simp only at hl
        have hm1 : ({ st with depth := st.depth + 1, rest := rr.tail } : PSt).m ≤ 254 := by simp only [PSt.m] at hst1 hm ⊢; omega
        have hl1 : q3.out.length ≤ 300 := Nat.le_trans hl.1 (by show ({ st with depth := st.depth + 1, rest := rr.tail } : PSt).m + 1 ≤ 300; omega)
        have hqr2 := ((hqr.close).down.put ⟨3, t.text, mm⟩).more (M' := st.m + 1) (by simp only [PSt.m] at hst1 ⊢; omega)
        refine ⟨mm, rfl, q3, hq3, hf3, hl1, by omega, by omega, ?_⟩
        rw [hx1, hx2, hz1, hz2, hz3]
        rw [ppt_n (n' := y.2.2) (fun hb => hmm (pcl_true hb))] at hqr2
        exact hqr2
      have HDEEP := Lib.hid hdeep; have HOK := Lib.hid hok
      have HLT2 := Lib.hid hlt2
      clear hdeep hok hlt2 hx h1 hx1 hx2 hnm hna hsa hstA hrA hn40 htail hst1
      go_wp2_with (first | (go_at_call 26; refine (unary8_any t.text 0 _ (by omega) (by omega)).mono ?_; rintro e w' ⟨rfl, rfl⟩) | (go_at_call 83; have _t := tok0; refine HSY.out.mono ?_; rintro e w' ⟨rfl, m4, rfl⟩; have tok1 : True := trivial; clear tok0) | (go_at_call 70; refine (HNM.out _).mono ?_; rintro e wn ⟨rfl, hbn⟩; have HBM := Lib.hid (next (dN8 w2 m4) hbn (Nat.le_refl _)); have hbx := keptBlk HBM.out HBX.out; have htx := keptBlk HBM.out HTX.out; have c1n := (cell_blk hbx 1).trans rfl; have z1n := frz_blk hbx 1; have c4n := (cell_blk hbx 4).trans rfl; have t0n := (cell_blk htx 0).trans rfl; have t1n := (cell_blk htx 1).trans rfl; clear hbx htx hbn) | (go_at_call 83; have _t := tok1; refine (HSA.out _ ((HP2.out.below HBM.out).set1 (pos + 1) hlt)).mono ?_; rintro e w' ⟨rfl, m6, rfl⟩; clear tok1))
      have hpA : PW8 ((wn.setCell ⟨g, 1, none⟩ (.int .i64 ((pos : Int) + 1))).drewN m6) n0 g L ⟨pos + 1, st.depth, st.out, st.err⟩ := ((HP2.out.below HBM.out).set1 (pos + 1) hlt).drewN m6
      have HFA := Lib.hid (show Frm (PM n0 g w) w ((wn.setCell ⟨g, 1, none⟩ (.int .i64 ((pos : Int) + 1))).drewN m6) from (HP2.out.frm (PM.trans HF2.out (Frm.any HBM.out)) _ _).drewN m6)
      have hTA : ((wn.setCell ⟨g, 1, none⟩ (.int .i64 ((pos : Int) + 1))).drewN m6).heap[tb]? = some (.cells #[.int .i64 t.kind, .string ⟨t.text.toArray⟩] 54 (0, 0)) := (set_other _ _ _ _ _ (by omega)).trans (keptBlk HBM.out HTX.out)
      clear c1 z1 t0 t1 c1n z1n c4n t0n t1n
      generalize ((wn.setCell ⟨g, 1, none⟩ (.int .i64 ((pos : Int) + 1))).drewN m6) = wA at *
      have HPA := Lib.hid hpA
      have hglA := hpA.lt
      clear HBX HSX HOX HTX
      obtain ⟨-, -, -, -, -, AA, cA, AoA, coA, hbA, hslA, hownA⟩ := hpA
      have c1 := (cell_blk hbA 1).trans rfl
      have c2A := (cell_blk hbA 2).trans rfl
      have z2A := frz_blk hbA 2
      have t1 := (cell_blk hTA 1).trans rfl
      have HBX := Lib.hid hbA; have HSX := Lib.hid hslA; have HOX := Lib.hid hownA; have HTX := Lib.hid hTA; clear hbA hslA hownA hTA
      go_wp2_with fail
      clear c0 c2 c3 c4 z2 z3
      have t1A := t1
      refine (enter8_any n0 g L _ wA HPA.out (fun _ => HLT2.out) hd).mono ?_
      rintro e w7 ⟨rfl, hw7, hf7⟩
      have hT7 := hf7.blk HTX.out (by decide) (by omega)
      have HF7 := Lib.hid (PM.trans HFA.out hf7)
      clear t1 t1A c1 c2A z2A HBX HSX HOX HTX hf7
      have HT7 := Lib.hid hT7; clear hT7
      by_cases hdp : 24 < st.depth
      · rw [qenter_deep HE.out hdp] at hw7
        have hqr := fun mm => HDEEP.out hdp mm
        have hw7' := hw7
        obtain ⟨-, -, -, -, -, A7, c7, Ao7, co7, hb7, -, -⟩ := hw7'
        have d4 := (cell_blk hb7 4).trans rfl
        have HQ3 := Lib.hid hw7
        have HQR := Lib.hid (hqr 0)
        clear hb7 hw7 hqr
        go_wp2_with fail
        have HFX := HF7
        have HTT := HT7
        obtain ⟨q3, hq3e⟩ : ∃ q3 : Q8, q3 = ⟨pos + 1, st.depth, st.out, 11⟩ := ⟨_, rfl⟩
        have l1 : q3.out.length ≤ 300 := by rw [hq3e]; simp only [PSt.m] at hm; simp only; omega
        have l2 : -5 ≤ q3.depth := by rw [hq3e]; simp only; omega
        have l3 : q3.depth ≤ 40 := by rw [hq3e]; simp only; omega
        rw [← hq3e] at HQ3 HQR
        clear hq3e d4
        refine (expect8_any n0 g L q3 [41] _ HQ3.out).mono ?_
        rintro e w9 ⟨rfl, hq9, hf9⟩
        have hde := qexpect_depth L q3 [41]
        have hdo := qexpect_out L q3 [41]
        have hqr := HQR.out
        generalize qexpect L q3 [41] = q9 at *
        have hT9 := hf9.blk HTT.out (by decide) (by omega)
        have HF9 := Lib.hid (PM.trans HFX.out hf9)
        have HQ9 := Lib.hid hq9
        have hgl9 := hq9.lt
        obtain ⟨-, ol9, pl9, -, -, A9, c9, Ao9, co9, hb9, hsl9, hown9⟩ := hq9
        rw [hdo] at ol9
        have d3 := (cell_blk hb9 3).trans rfl
        have y3 := frz_blk hb9 3
        have d2 := (cell_blk hb9 2).trans rfl
        have y2 := frz_blk hb9 2
        have l2' : -5 ≤ q9.depth := by omega
        have l3' : q9.depth ≤ 40 := by omega
        have l1' : q9.out.length ≤ 300 := by rw [hdo]; exact l1
        have hwd : IntKind.i64.wrap (q9.depth - 1) = q9.depth - 1 := by simp [IntKind.wrap, IntKind.signed, IntKind.bits]; omega
        obtain ⟨hb10, hs10, ho10⟩ := open3 hn0 hb9 hsl9 hown9 (q9.depth - 1)
        have HQ10 := Lib.hid hqr
        have hgl10 : g < (w9.setCell ⟨g, 3, none⟩ (.int .i64 (q9.depth - 1))).heap.size := by simpa [World.setCell] using hgl9
        have hT10 : (w9.setCell ⟨g, 3, none⟩ (.int .i64 (q9.depth - 1))).heap[tb]? = _ := (set_other _ _ _ _ _ (by omega)).trans hT9
        have t1 := (cell_blk hT9 1).trans rfl
        have HBX := Lib.hid hb10; have HSX := Lib.hid hs10; have HOX := Lib.hid ho10
        clear hde hdo hqr hf9 hb9 hsl9 hown9 hb10 hs10 ho10 hT9 hT10 HQR HQ3 HTT
        go_wp2_with fail
        go_region_law ((go_must (refine (step_app1 (T := fun _ => False) (base := g + 1) (xs := q9.out) (t0 := 50) (fz := (0, 0)) rfl _ _ eltOpn rfl (by decide) rfl rfl rfl ?hown rfl [.int .i64 3, .string ⟨t.text.toArray⟩, .int .u32 0] (⟨3, t.text, 0⟩ : Opn) ?hb0 rfl ⟨rfl, rfl, rfl⟩ ?h63 ?hby ?hbase ?_)); go_must (case hown => exact ((HOX.out.alloc _).drew)); go_must (case hb0 => exact blkDrw (blkAt _ _ (by first | rfl | simp [World.setCell]))); go_must (case h63 => omega); go_must (case hby => omega); go_must (case hbase => simp; omega); intro A' c' w4 hown' hg hat; have hb4 := grownBlk hg (blkDrw (blkOld HBX.out _)) (HOX.out.ne_lt (Nat.lt_succ_self g)); have hc42 := (cell_blk hb4 2).trans rfl; have hz42 := frz_blk hb4 2; have hc41 := (cell_blk hb4 1).trans rfl; have hz41 := frz_blk hb4 1; have hc43 := (cell_blk hb4 3).trans rfl; have hz43 := frz_blk hb4 3; have hc44 := (cell_blk hb4 4).trans rfl))
        all_goals
          have hput := put8 (q := { q9 with depth := q9.depth - 1 }) (o := ⟨3, t.text, 0⟩) hn0 (by simp only; omega) pl9 HTL.out hL (blkDrw HBX.out) (HSX.out.below (Below.refl _ _).drew) HOX.out.drew hown' hg
          go_wp2
          ((try simp only [Exit.inBlock, Exit.then]); first | refine bodyPost_ret (results_none rfl _ _ _) rfl ?_ | refine bodyPost_end (results_none rfl _ _ _) rfl ?_)
          exact ⟨rfl, HQ10.out.pr8 hput.1, PM.trans ((HQ9.out.frm HF9.out _ _).drew) hput.2⟩
      · rw [qenter_ok HE.out hdp] at hw7
        have hw7' := hw7
        obtain ⟨-, -, -, -, -, A7, c7, Ao7, co7, hb7, -, -⟩ := hw7'
        have d4 := (cell_blk hb7 4).trans rfl
        have he2' : (st.err == 0) = true := by rw [HE.out]; rfl
        have HA := Lib.hid (HOK.out (by omega) w7 hw7)
        clear hb7 hw7
        go_wp2_with fail
        refine HA.out.mono ?_
        rintro e w8 ⟨mm, rfl, q3, hq3, hf8, l1, l2, l3, hqr⟩
        have HQ3 := Lib.hid hq3; have HQR := Lib.hid hqr
        have HFX := Lib.hid (PM.trans HF7.out hf8)
        have HTT := Lib.hid (hf8.blk HT7.out (by decide) (by omega))
        clear d4 hq3 hqr hf8
        go_wp2_with fail
        refine (expect8_any n0 g L q3 [41] _ HQ3.out).mono ?_
        rintro e w9 ⟨rfl, hq9, hf9⟩
        have hde := qexpect_depth L q3 [41]
        have hdo := qexpect_out L q3 [41]
        have hqr := HQR.out
        generalize qexpect L q3 [41] = q9 at *
        have hT9 := hf9.blk HTT.out (by decide) (by omega)
        have HF9 := Lib.hid (PM.trans HFX.out hf9)
        have HQ9 := Lib.hid hq9
        have hgl9 := hq9.lt
        obtain ⟨-, ol9, pl9, -, -, A9, c9, Ao9, co9, hb9, hsl9, hown9⟩ := hq9
        rw [hdo] at ol9
        have d3 := (cell_blk hb9 3).trans rfl
        have y3 := frz_blk hb9 3
        have d2 := (cell_blk hb9 2).trans rfl
        have y2 := frz_blk hb9 2
        have l2' : -5 ≤ q9.depth := by omega
        have l3' : q9.depth ≤ 40 := by omega
        have l1' : q9.out.length ≤ 300 := by rw [hdo]; exact l1
        have hwd : IntKind.i64.wrap (q9.depth - 1) = q9.depth - 1 := by simp [IntKind.wrap, IntKind.signed, IntKind.bits]; omega
        obtain ⟨hb10, hs10, ho10⟩ := open3 hn0 hb9 hsl9 hown9 (q9.depth - 1)
        have HQ10 := Lib.hid hqr
        have hgl10 : g < (w9.setCell ⟨g, 3, none⟩ (.int .i64 (q9.depth - 1))).heap.size := by simpa [World.setCell] using hgl9
        have hT10 : (w9.setCell ⟨g, 3, none⟩ (.int .i64 (q9.depth - 1))).heap[tb]? = _ := (set_other _ _ _ _ _ (by omega)).trans hT9
        have t1 := (cell_blk hT9 1).trans rfl
        have HBX := Lib.hid hb10; have HSX := Lib.hid hs10; have HOX := Lib.hid ho10
        clear hde hdo hqr hf9 hb9 hsl9 hown9 hb10 hs10 ho10 hT9 hT10 HQR HQ3 HTT
        go_wp2_with fail
        go_region_law ((go_must (refine (step_app1 (T := fun _ => False) (base := g + 1) (xs := q9.out) (t0 := 50) (fz := (0, 0)) rfl _ _ eltOpn rfl (by decide) rfl rfl rfl ?hown rfl [.int .i64 3, .string ⟨t.text.toArray⟩, .int .u32 mm] (⟨3, t.text, mm⟩ : Opn) ?hb0 rfl ⟨rfl, rfl, rfl⟩ ?h63 ?hby ?hbase ?_)); go_must (case hown => exact ((HOX.out.alloc _).drew)); go_must (case hb0 => exact blkDrw (blkAt _ _ (by first | rfl | simp [World.setCell]))); go_must (case h63 => omega); go_must (case hby => omega); go_must (case hbase => simp; omega); intro A' c' w4 hown' hg hat; have hb4 := grownBlk hg (blkDrw (blkOld HBX.out _)) (HOX.out.ne_lt (Nat.lt_succ_self g)); have hc42 := (cell_blk hb4 2).trans rfl; have hz42 := frz_blk hb4 2; have hc41 := (cell_blk hb4 1).trans rfl; have hz41 := frz_blk hb4 1; have hc43 := (cell_blk hb4 3).trans rfl; have hz43 := frz_blk hb4 3; have hc44 := (cell_blk hb4 4).trans rfl))
        all_goals
          have hput := put8 (q := { q9 with depth := q9.depth - 1 }) (o := ⟨3, t.text, mm⟩) hn0 (by simp only; omega) pl9 HTL.out hL (blkDrw HBX.out) (HSX.out.below (Below.refl _ _).drew) HOX.out.drew hown' hg
          go_wp2
          ((try simp only [Exit.inBlock, Exit.then]); first | refine bodyPost_ret (results_none rfl _ _ _) rfl ?_ | refine bodyPost_end (results_none rfl _ _ _) rfl ?_)
          exact ⟨rfl, HQ10.out.pr8 hput.1, PM.trans ((HQ9.out.frm HF9.out _ _).drew) hput.2⟩
end Go.Proofs.Ytchdpjgncojhaaa
