/- A part of the proofs of the laws of one package; see the law's own text, which comes last in 'order'. No conditions of its own. -/
import Derived.Test.YtpeamehplhpcjaaGreatDoorWB35
set_option linter.unusedVariables false
set_option linter.unusedSimpArgs false
namespace Go.Proofs.YtpeamehplhpcjaaGreatDoor
open Go.RowKit
theorem putGo_cons (x : Fil) (r : List Fil) (f : Fil) (d : Bool) : putGo (x :: r) f d = if underS x.path f.path || underS f.path x.path then none else (putGo r f (d || !ltS x.path f.path)).map fun o => (if !d && !ltS x.path f.path then [f] else []) ++ (if x.path = f.path then [] else [x]) ++ o := rfl
set_option maxRecDepth 100000 in
set_option maxHeartbeats 4000000 in
theorem rput_any (A : Option Addr) (n c : Nat) (w : World) (S : Nat → Prop) (t : List Fil) (hl : Sl w S A n c t) (hs : ∀ f ∈ t, f.path.length ≤ 4294967000) (fp fd : Bs) (hf1 : fp.length ≤ 4294967000) (hf2 : fd.length ≤ 9223372036854775807) :
    Calls Tryz.prog 68 #[.slice A n c, .agg #[.string ⟨fp.toArray⟩, .string ⟨fd.toArray⟩]] w fun e w' => ∃ A' n' c', e = .returned (.tuple #[.slice A' n' c', .int .i64 (rputS t ⟨fp, fd⟩).2]) ∧ Sl w' (fun b => w.heap.size ≤ b) A' n' c' (rputS t ⟨fp, fd⟩).1 ∧ Below w.heap.size w w' := by
  have hn := hl.len
  have hnc := hl.2.1
  have hlen := hl.le
  subst hn
  have hck := fun w h => rcheckT_any A t.length c w S t h hs
  have hpa := fun w => rpath_any fp w hf1
  obtain ⟨R, hR⟩ : ∃ R, R = rputS t ⟨fp, fd⟩ := ⟨_, rfl⟩
  rw [← hR]
  unfold rputS at hR
  simp only at hR
  have ht64 : treeS t = 0 → t.length ≤ 64 := fun h => by
    unfold treeS at h
    split at h
    · cases h
    · omega
  generalize treeS t = E at *
  generalize pathS fp = q at *
  have HCK := Lib.hid hck; have HPA := Lib.hid hpa; have HR := Lib.hid hR; have HL := Lib.hid hl; have HS := Lib.hid hs; have HT := Lib.hid ht64
  clear hck hpa hR hl hs ht64
  go_enter Tryz.func68, Tryz.ntmps68
  go_upto_region 1 with fail
  have hb0 : Below w.heap.size w (w.alloc (.cells #[.string ⟨fp.toArray⟩, .string ⟨fd.toArray⟩] 73)) := by ((repeat (first | (with_reducible exact Below.refl _ _) | (with_reducible refine belowA ?_ _) | (with_reducible refine belowD ?_) | (with_reducible refine belowS ?_ (Nat.le_refl _) _ _) | (with_reducible refine next ?_ (by assumption) (Nat.le_refl _)))); done)
  have hg0 := blkAt w (.cells #[.string ⟨fp.toArray⟩, .string ⟨fd.toArray⟩] 73) rfl
  generalize (w.alloc (.cells #[.string ⟨fp.toArray⟩, .string ⟨fd.toArray⟩] 73)) = W at *
  have HB0 := Lib.hid hb0; have HG0 := Lib.hid hg0
  clear hb0 hg0
  go_wp2_with fail
  refine (HCK.out W (HL.out.below HB0.out)).mono ?_
  rintro e w1 ⟨rfl, hb1⟩
  have HB1 := Lib.hid (HB0.out.trans (hb1.mono HB0.out.size)); have HG1 := Lib.hid (keptBlk hb1 HG0.out)
  clear hb1 HB0 HG0 HCK
  by_cases hE : E = 0
  · subst hE
    have hr := HR.out
    rw [if_neg (by simp)] at hr
    have ht := HT.out rfl
    have g0 := (cell_blk HG1.out 0).trans rfl
    clear HT
    go_wp2_with fail
    refine (HPA.out w1).mono ?_
    rintro e w2 ⟨rfl, hb2⟩
    have HB2 := Lib.hid (HB1.out.trans (hb2.mono HB1.out.size)); have HG2 := Lib.hid (keptBlk hb2 HG1.out)
    clear hb2 HB1 HG1 HPA g0
    unfold errB
    cases q with
    | false =>
      have HR2 := Lib.hid (show R = ([], 2) from hr)
      clear hr HR
      go_wp2_with fail
      go_ret2
      exact ⟨none, 0, 0, by rw [HR2.out]; rfl, by rw [HR2.out]; exact Sl.nil _ _ _ _ (by decide), HB2.out⟩
    | true =>
      have g1 := (cell_blk HG2.out 1).trans rfl
      rw [if_neg (by simp)] at hr
      by_cases h65 : (65536 : Int) < (fd.length : Int)
      · rw [if_pos (by omega)] at hr
        have HR2 := Lib.hid hr
        clear hr HR
        go_wp2_with fail
        go_ret2
        exact ⟨none, 0, 0, by rw [HR2.out]; rfl, by rw [HR2.out]; exact Sl.nil _ _ _ _ (by decide), HB2.out⟩
      · rw [if_neg (by omega)] at hr
        obtain ⟨v, hv⟩ : ∃ v, v = putGo t ⟨fp, fd⟩ false := ⟨_, rfl⟩
        rw [← hv] at hr
        have Hf : Hid (v = (putGo (t.drop 0) ⟨fp, fd⟩ false).map (([] : List Fil) ++ ·)) := Lib.hid (by rw [hv]; simp)
        have HRR := Lib.hid hr
        have hgb : w.heap.size + 1 ≤ w2.heap.size := (Array.getElem?_eq_some_iff.1 HG2.out).1
        clear hr hv HR
        go_wp2_with fail
        clear g1
        go_loopw [6, 7, 23] (fun o dn i wr => ∃ (k : Nat) (out : List Fil) (A' : Option Addr) (c' : Nat) (d : Bool), k ≤ t.length ∧ o = .slice A' out.length c' ∧ dn = .bool d ∧ i = .int .i64 k ∧ out.length ≤ 2 * k ∧ Own wr (fun _ => False) (w.heap.size + 1) 73 A' c' out ∧ Below w.heap.size w wr ∧ wr.heap[w.heap.size]? = some (.cells #[.string ⟨fp.toArray⟩, .string ⟨fd.toArray⟩] 73 (0, 0)) ∧ Hid (v = (putGo (t.drop k) ⟨fp, fd⟩ d).map (out ++ ·))) (fun _ _ i _ => t.length - (intOf i).toNat)
        case atStart => exact ⟨0, [], none, 0, false, by omega, rfl, rfl, rfl, by simp, Own.nil _ _ _ _, HB2.out, HG2.out, Hf⟩
        case round =>
          obtain ⟨k, out, A', c', d, hk, rfl, rfl, rfl, hol, ho, hb, hg, hf⟩ := hrel
          by_cases hlt : k < t.length
          · obtain ⟨b, o, rfl, -, hbs, c0, c1⟩ := (HL.out.below hb).fil hlt
            have hxl := HS.out _ (List.getElem_mem hlt)
            have hd := hf.out
            rw [drop_get hlt, putGo_cons] at hd
            clear hf Hf
            generalize t[k] = x at *
            obtain ⟨xp, xd⟩ := x
            simp only at hd c0 c1 hxl
            have hbe1 := fun w => rbelow_any xp fp w (by omega) (by omega)
            have hbe2 := fun w => rbelow_any fp xp w (by omega) (by omega)
            have HO := Lib.hid (ho.alloc (.cells #[.string ⟨xp.toArray⟩, .string ⟨xd.toArray⟩] 73))
            have HB := Lib.hid (hb.alloc hb.size (.cells #[.string ⟨xp.toArray⟩, .string ⟨xd.toArray⟩] 73))
            have HG := Lib.hid (blkOld hg (.cells #[.string ⟨xp.toArray⟩, .string ⟨xd.toArray⟩] 73))
            have HXN := Lib.hid (ho.ne (Nat.le_refl wr.heap.size))
            have HX := Lib.hid (blkAt wr (.cells #[.string ⟨xp.toArray⟩, .string ⟨xd.toArray⟩] 73) rfl)
            go_upto_region 12 with fail
            generalize (wr.alloc (.cells #[.string ⟨xp.toArray⟩, .string ⟨xd.toArray⟩] 73)) = W1 at *
            generalize wr.heap.size = gx at *
            generalize underS xp fp = b1 at *
            generalize underS fp xp = b2 at *
            have HBE1 := Lib.hid hbe1; have HBE2 := Lib.hid hbe2; have HD := Lib.hid hd
            have x0 := (cell_blk HX.out 0).trans rfl; have f0 := (cell_blk HG.out 0).trans rfl
            have hsW := HB.out.size
            have hgW : w.heap.size + 1 ≤ W1.heap.size := (Array.getElem?_eq_some_iff.1 HG.out).1
            clear hbe1 hbe2 hd ho hb hg c0 c1 hbs
            cases b1 with
            | true =>
              have HD2 := Lib.hid (show v = none from HD.out)
              go_wp2_with fail
              refine (HBE1.out _).mono ?_
              rintro e w4 ⟨rfl, rfl⟩
              go_wp2_with fail
              go_ret2
              have HR2 := Lib.hid (show R = ([], 6) by rw [HRR.out, HD2.out])
              exact ⟨none, 0, 0, by rw [HR2.out]; rfl, by rw [HR2.out]; exact Sl.nil _ _ _ _ (by decide), HB.out⟩
            | false =>
              cases b2 with
              | true =>
                have HD2 := Lib.hid (show v = none from HD.out)
                go_wp2_with fail
                refine (HBE1.out _).mono ?_
                rintro e w4 ⟨rfl, rfl⟩
                go_wp2_with fail
                refine (HBE2.out _).mono ?_
                rintro e w5 ⟨rfl, rfl⟩
                go_wp2_with fail
                go_ret2
                have HR2 := Lib.hid (show R = ([], 6) by rw [HRR.out, HD2.out])
                exact ⟨none, 0, 0, by rw [HR2.out]; rfl, by rw [HR2.out]; exact Sl.nil _ _ _ _ (by decide), HB.out⟩
              | false =>
                have hd2 : v = ((putGo (t.drop (k + 1)) ⟨fp, fd⟩ (d || !ltS xp fp)).map fun o => (if !d && !ltS xp fp then [⟨fp, fd⟩] else []) ++ (if xp = fp then [] else [⟨xp, xd⟩]) ++ o).map (out ++ ·) := HD.out
                have hls := less_ltS xp fp
                generalize ltS xp fp = lt at *
                have HLS := Lib.hid hls
                have HD2 := Lib.hid hd2
                clear hd2 HD hls
                go_wp2_with fail
                refine (HBE1.out _).mono ?_
                rintro e w4 ⟨rfl, rfl⟩
                go_wp2_with fail
                refine (HBE2.out _).mono ?_
                rintro e w5 ⟨rfl, rfl⟩
                go_upto_region 14 with fail
                clear HBE1 HBE2
                cases d with
                | true =>
                  have hd3 := HD2.out
                  simp only [Bool.true_or, Bool.not_true, Bool.false_and, Bool.false_eq_true, if_false, List.nil_append, Option.map_map] at hd3
                  clear x0 f0
                  go_upto_region 17 with fail
                  (cases hxf : (xp == fp)); (focus (have HD3 := Lib.hid (show v = (putGo (t.drop (k + 1)) ⟨fp, fd⟩ true).map ((out ++ [⟨xp, xd⟩]) ++ ·) by (rw [hd3]; simp [show xp ≠ fp from fun e => by simp [e] at hxf]; rfl))); (have hnf : (xp != fp) = true := by (rw [bne, hxf]; rfl)); (have x0 := (cell_blk HX.out 0).trans rfl; have x1 := (cell_blk HX.out 1).trans rfl; have f0 := (cell_blk HG.out 0).trans rfl); (go_wp2_with (at_builtin; go_loud (refine wpList_app1 rfl _ _ eltFil rfl (by decide) rfl rfl (by first | rfl | exact HOL3.out.symm) (HO.out.alloc _) rfl [.string ⟨xp.toArray⟩, .string ⟨xd.toArray⟩] (⟨xp, xd⟩ : Fil) (blkAt _ _ (by simp)) rfl ⟨rfl, rfl⟩ (by (try have := HOL3.out); omega) (by (try have := HOL3.out); omega) (by have := HB.out.size; simp; omega) ?_); intro A9 c9 w9 hown9 hg9 hat9)); (have hb9 := grownBlk hg9 (blkOld HG.out _) (HO.out.ne_lt (Nat.lt_succ_self _))); (have hbl9 := (HB.out.alloc HB.out.size _).grown hg9 (by have := HB.out.size; simp; omega) (fun k hk => by have := (HO.out.lt k hk).1; omega)); go_roundw; (case rel => exact ⟨k + 1, out ++ [⟨xp, xd⟩], A9, c9, true, by omega, (by first | rfl | (simp only [List.length_append, List.length_cons, List.length_nil]; done) | (simp only [List.length_append, List.length_cons, List.length_nil]; rw [HOL3.out])), rfl, by go_num, (by (try have := HOL3.out); simp only [List.length_append, List.length_cons, List.length_nil]; omega), hown9, hbl9, hb9, HD3⟩); (case measure => simp [intOf]; omega)); (focus (have HD3 := Lib.hid (show v = (putGo (t.drop (k + 1)) ⟨fp, fd⟩ true).map (out ++ ·) by (rw [hd3]; simp [show xp = fp by simpa using hxf]; try rfl))); (have hnf : (xp != fp) = false := by (rw [bne, hxf]; rfl)); (have x0 := (cell_blk HX.out 0).trans rfl; have f0 := (cell_blk HG.out 0).trans rfl); (go_wp2_with fail); go_roundw; (case rel => exact ⟨k + 1, out, A', c', true, by omega, (by first | rfl | (rw [HOL3.out])), rfl, by go_num, by (try have := HOL3.out); omega, HO.out, HB.out, HG.out, HD3⟩); (case measure => simp [intOf]; omega))
                | false =>
                  cases lt with
                  | true =>
                    have hd3 := HD2.out
                    simp only [Bool.false_or, Bool.not_true, Bool.not_false, Bool.and_false, Bool.false_eq_true, if_false, List.nil_append, Option.map_map] at hd3
                    have hls := HLS.out
                    go_upto_region 17 with fail
                    clear x0 f0 hls
                    (cases hxf : (xp == fp)); (focus (have HD3 := Lib.hid (show v = (putGo (t.drop (k + 1)) ⟨fp, fd⟩ false).map ((out ++ [⟨xp, xd⟩]) ++ ·) by (rw [hd3]; simp [show xp ≠ fp from fun e => by simp [e] at hxf]; rfl))); (have hnf : (xp != fp) = true := by (rw [bne, hxf]; rfl)); (have x0 := (cell_blk HX.out 0).trans rfl; have x1 := (cell_blk HX.out 1).trans rfl; have f0 := (cell_blk HG.out 0).trans rfl); (go_wp2_with (at_builtin; go_loud (refine wpList_app1 rfl _ _ eltFil rfl (by decide) rfl rfl (by first | rfl | exact HOL3.out.symm) (HO.out.alloc _) rfl [.string ⟨xp.toArray⟩, .string ⟨xd.toArray⟩] (⟨xp, xd⟩ : Fil) (blkAt _ _ (by simp)) rfl ⟨rfl, rfl⟩ (by (try have := HOL3.out); omega) (by (try have := HOL3.out); omega) (by have := HB.out.size; simp; omega) ?_); intro A9 c9 w9 hown9 hg9 hat9)); (have hb9 := grownBlk hg9 (blkOld HG.out _) (HO.out.ne_lt (Nat.lt_succ_self _))); (have hbl9 := (HB.out.alloc HB.out.size _).grown hg9 (by have := HB.out.size; simp; omega) (fun k hk => by have := (HO.out.lt k hk).1; omega)); go_roundw; (case rel => exact ⟨k + 1, out ++ [⟨xp, xd⟩], A9, c9, false, by omega, (by first | rfl | (simp only [List.length_append, List.length_cons, List.length_nil]; done) | (simp only [List.length_append, List.length_cons, List.length_nil]; rw [HOL3.out])), rfl, by go_num, (by (try have := HOL3.out); simp only [List.length_append, List.length_cons, List.length_nil]; omega), hown9, hbl9, hb9, HD3⟩); (case measure => simp [intOf]; omega)); (focus (have HD3 := Lib.hid (show v = (putGo (t.drop (k + 1)) ⟨fp, fd⟩ false).map (out ++ ·) by (rw [hd3]; simp [show xp = fp by simpa using hxf]; try rfl))); (have hnf : (xp != fp) = false := by (rw [bne, hxf]; rfl)); (have x0 := (cell_blk HX.out 0).trans rfl; have f0 := (cell_blk HG.out 0).trans rfl); (go_wp2_with fail); go_roundw; (case rel => exact ⟨k + 1, out, A', c', false, by omega, (by first | rfl | (rw [HOL3.out])), rfl, by go_num, by (try have := HOL3.out); omega, HO.out, HB.out, HG.out, HD3⟩); (case measure => simp [intOf]; omega))
                  | false =>
                    have hd3 := HD2.out
                    simp only [Bool.false_or, Bool.not_false, Bool.and_true, Bool.true_and, if_true, Option.map_map] at hd3
                    have hls := HLS.out
                    have f1 := (cell_blk HG.out 1).trans rfl
                    go_upto_region 17 with (at_builtin; go_loud (refine wpList_app1 rfl _ _ eltFil rfl (by decide) rfl rfl rfl (HO.out.alloc _) rfl [.string ⟨fp.toArray⟩, .string ⟨fd.toArray⟩] (⟨fp, fd⟩ : Fil) (blkAt _ _ (by simp)) rfl ⟨rfl, rfl⟩ (by omega) (by omega) (by simp; omega) ?_); intro A3 c3 w3 hown3 hg3 hat3)
                    have HG3 := Lib.hid (grownBlk hg3 (blkOld HG.out _) (HO.out.ne_lt (Nat.lt_succ_self _)))
                    have HX3 := Lib.hid (grownBlk hg3 (blkOld HX.out _) HXN.out)
                    have HB3 := Lib.hid ((HB.out.alloc HB.out.size _).grown hg3 (by simp; omega) (fun k hk => by have := (HO.out.lt k hk).1; omega))
                    have HO3 := Lib.hid hown3
                    have HOL3 := Lib.hid (show (out ++ [(⟨fp, fd⟩ : Fil)]).length = out.length + 1 by simp)
                    clear x0 f0 f1 hls hown3 hg3
                    have hgW3 : w.heap.size + 1 ≤ w3.heap.size := (Array.getElem?_eq_some_iff.1 HG3.out).1
                    have hd4 : v = ((putGo (t.drop (k + 1)) ⟨fp, fd⟩ true).map fun o => (if xp = fp then [] else [⟨xp, xd⟩]) ++ o).map ((out ++ [⟨fp, fd⟩]) ++ ·) := by rw [hd3, Option.map_map]; congr 1; funext o; simp
                    simp only [Option.map_map] at hd4
                    generalize hol4 : out ++ [(⟨fp, fd⟩ : Fil)] = out3 at *
                    clear hd3 hol4
                    (cases hxf : (xp == fp)); (focus (have HD3 := Lib.hid (show v = (putGo (t.drop (k + 1)) ⟨fp, fd⟩ true).map ((out3 ++ [⟨xp, xd⟩]) ++ ·) by (rw [hd4]; simp [show xp ≠ fp from fun e => by simp [e] at hxf]; rfl))); (have hnf : (xp != fp) = true := by (rw [bne, hxf]; rfl)); (have x0 := (cell_blk HX3.out 0).trans rfl; have x1 := (cell_blk HX3.out 1).trans rfl; have f0 := (cell_blk HG3.out 0).trans rfl); (go_wp2_with (at_builtin; go_loud (refine wpList_app1 rfl _ _ eltFil rfl (by decide) rfl rfl (by first | rfl | exact HOL3.out.symm) (HO3.out.alloc _) rfl [.string ⟨xp.toArray⟩, .string ⟨xd.toArray⟩] (⟨xp, xd⟩ : Fil) (blkAt _ _ (by simp)) rfl ⟨rfl, rfl⟩ (by (try have := HOL3.out); omega) (by (try have := HOL3.out); omega) (by have := HB3.out.size; simp; omega) ?_); intro A9 c9 w9 hown9 hg9 hat9)); (have hb9 := grownBlk hg9 (blkOld HG3.out _) (HO3.out.ne_lt (Nat.lt_succ_self _))); (have hbl9 := (HB3.out.alloc HB3.out.size _).grown hg9 (by have := HB3.out.size; simp; omega) (fun k hk => by have := (HO3.out.lt k hk).1; omega)); go_roundw; (case rel => exact ⟨k + 1, out3 ++ [⟨xp, xd⟩], A9, c9, true, by omega, (by first | rfl | (simp only [List.length_append, List.length_cons, List.length_nil]; done) | (simp only [List.length_append, List.length_cons, List.length_nil]; rw [HOL3.out])), rfl, by go_num, (by (try have := HOL3.out); simp only [List.length_append, List.length_cons, List.length_nil]; omega), hown9, hbl9, hb9, HD3⟩); (case measure => simp [intOf]; omega)); (focus (have HD3 := Lib.hid (show v = (putGo (t.drop (k + 1)) ⟨fp, fd⟩ true).map (out3 ++ ·) by (rw [hd4]; simp [show xp = fp by simpa using hxf]; try rfl))); (have hnf : (xp != fp) = false := by (rw [bne, hxf]; rfl)); (have x0 := (cell_blk HX3.out 0).trans rfl; have f0 := (cell_blk HG3.out 0).trans rfl); (go_wp2_with fail); go_roundw; (case rel => exact ⟨k + 1, out3, A3, c3, true, by omega, (by first | rfl | (rw [HOL3.out])), rfl, by go_num, by (try have := HOL3.out); omega, HO3.out, HB3.out, HG3.out, HD3⟩); (case measure => simp [intOf]; omega))
          · have hd := hf.out
            rw [drop_end hlt] at hd
            have HO := Lib.hid ho; have HB := Lib.hid hb; have HG := Lib.hid hg
            have hsW := HB.out.size
            have hgW : w.heap.size + 1 ≤ wr.heap.size := (Array.getElem?_eq_some_iff.1 HG.out).1
            clear hf Hf ho hb hg
            cases d with
            | true =>
              have HD := Lib.hid (show v = some out by rw [hd]; simp [putGo])
              clear hd
              by_cases h64 : (64 : Int) < (out.length : Int)
              · have HR2 := Lib.hid (show R = ([], 10) by rw [HRR.out, HD.out]; exact if_pos (by omega))
                go_wp2_with fail
                go_ret2
                exact ⟨none, 0, 0, by rw [HR2.out]; rfl, by rw [HR2.out]; exact Sl.nil _ _ _ _ (by decide), HB.out⟩
              · have HR2 := Lib.hid (show R = (out, 0) by rw [HRR.out, HD.out]; exact if_neg (by omega))
                go_wp2_with fail
                go_ret2
                exact ⟨A', _, c', by rw [HR2.out]; rfl, by rw [HR2.out]; exact (HO.out.sl (by decide)).wide (fun k _ hk => hk.elim False.elim (fun hk => by have := (HO.out.lt k hk).1; omega)) (by decide), HB.out⟩
            | false =>
              have HD := Lib.hid (show v = some (out ++ [⟨fp, fd⟩]) by rw [hd]; simp [putGo])
              clear hd
              have f0 := (cell_blk HG.out 0).trans rfl; have f1 := (cell_blk HG.out 1).trans rfl
              go_upto_region 22 with (at_builtin; go_loud (refine wpList_app1 rfl _ _ eltFil rfl (by decide) rfl rfl rfl (HO.out.alloc _) rfl [.string ⟨fp.toArray⟩, .string ⟨fd.toArray⟩] (⟨fp, fd⟩ : Fil) (blkAt _ _ (by simp)) rfl ⟨rfl, rfl⟩ (by omega) (by omega) (by simp; omega) ?_); intro A3 c3 w3 hown3 hg3 hat3)
              have HB3 := Lib.hid ((HB.out.alloc HB.out.size _).grown hg3 (by simp; omega) (fun k hk => by have := (HO.out.lt k hk).1; omega))
              have HO3 := Lib.hid hown3
              clear f0 f1 hown3 hg3
              by_cases h64 : (64 : Int) < (out.length : Int) + 1
              · have HR2 := Lib.hid (show R = ([], 10) by rw [HRR.out, HD.out]; exact if_pos (by simp; omega))
                go_wp2_with fail
                go_ret2
                exact ⟨none, 0, 0, by rw [HR2.out]; rfl, by rw [HR2.out]; exact Sl.nil _ _ _ _ (by decide), HB3.out⟩
              · have HR2 := Lib.hid (show R = (out ++ [⟨fp, fd⟩], 0) by rw [HRR.out, HD.out]; exact if_neg (by simp; omega))
                go_wp2_with fail
                go_ret2
                exact ⟨A3, _, c3, by rw [HR2.out]; rfl, by rw [HR2.out]; exact ((HO3.out.sl (by decide)).cast (by simp)).wide (fun k _ hk => hk.elim False.elim (fun hk => by have := (HO3.out.lt k hk).1; omega)) (by decide), HB3.out⟩
  · have HR2 := Lib.hid (HR.out.trans (if_pos hE))
    have hEb : (E != 0) = true := by rw [bne_iff_ne]; exact hE
    clear hE
    go_wp2_with fail
    go_ret2
    exact ⟨none, 0, 0, by rw [HR2.out]; rfl, by rw [HR2.out]; exact Sl.nil _ _ _ _ (by decide), HB1.out⟩
end Go.Proofs.YtpeamehplhpcjaaGreatDoor
