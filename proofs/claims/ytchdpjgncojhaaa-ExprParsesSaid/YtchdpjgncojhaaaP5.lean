/- licitref08: the parser: primary: loads and inputs. -/
import Derived.Test.YtchdpjgncojhaaaP4
set_option linter.unusedVariables false
set_option linter.unusedSimpArgs false
namespace Go.Proofs.Ytchdpjgncojhaaa
open Go.RowKit

set_option maxRecDepth 100000 in
set_option maxHeartbeats 8000000 in
theorem prim8_load (n0 g : Nat) (L : List Tok) (hV : ∀ t ∈ L, validT t = true) (f : Nat) (ihL : ∀ f', f' ≤ f → WLevel n0 g L f') (ihP : ∀ f', f' ≤ f → WPrim n0 g L f') (ihA : WArg8 n0 g L f)
    (st : PSt) (w : World) (x : Bool × PSt × Int) (t : Tok) (rr : List Tok) (hr : st.rest = t :: rr) (hkk : t.kind = 1) (hld : t.text = [108, 111, 97, 100]) (hx : pr (f + 1) .single st = some x) (hps : PS w n0 g L st) (he : st.err = 0) (hd : 0 ≤ st.depth) (hd25 : st.depth ≤ 25) (hm : st.m ≤ 256) :
    Calls Try.prog 66 #[.pointer (some ⟨g, 0, none⟩)] w (fun e w' => e = .returned (.tuple #[]) ∧ PR8 w' n0 g L st x.1 x.2.1 ∧ Frm (PM n0 g w) w w') := by
  rw [pr, hr] at hx
  simp only [show ¬ (t.kind = 2) by omega, show ¬ (t.kind = 3) by omega, if_false] at hx
  have HKK := Lib.hid hkk; clear hkk
  have HLD0 := Lib.hid hld; clear hld
  obtain ⟨pos, hrest, hpw⟩ := hps
  have HPW := Lib.hid hpw
  obtain ⟨hn0, hol, hpl, htl, hL, A, c, Ao, co, hb, hsl, hown⟩ := hpw
  simp only at hpl hol
  have hlt : pos < L.length := by
    rw [hrest] at hr
    have := congrArg List.length hr
    rw [List.length_drop, List.length_cons] at this
    omega
  have hrd : L[pos] :: L.drop (pos + 1) = t :: rr := by rw [← drop_get hlt, ← hrest, hr]
  injection hrd with ht hrr
  have htt : t.text.length ≤ 9223372036854775807 := htl _ (by rw [← ht]; simp)
  have hvt : validT t = true := hV _ (by rw [← ht]; simp)
  rw [valid_eq] at hvt
  obtain ⟨b, o, hA, hSb, hbs, k1, k2⟩ := hsl.tok (k := pos) hlt
  subst hA
  rw [ht] at k1 k2
  have hlt' : (pos : Int) < (L.length : Int) := by omega
  have hlt2 : ¬ ((L.length : Int) ≤ (pos : Int)) := by omega
  have hge' : (0 : Int) ≤ (pos : Int) := by omega
  have c0 := cell_blk hb 0
  have c1 := cell_blk hb 1
  have c4 := cell_blk hb 4
  simp only [List.getElem?_toArray, List.getElem?_cons_succ, List.getElem?_cons_zero] at c0 c1 c4
  have he' : (st.err != 0) = false := by rw [he]; rfl
  have hw1 : IntKind.i64.wrap ((pos : Int) + 1) = (pos : Int) + 1 := by simp [IntKind.wrap, IntKind.signed, IntKind.bits]; omega
  have hsm : st.out.length + (L.length - pos) = st.m := by simp [PSt.m, hrest]
  have HR := Lib.hid hrest; have HR2 := Lib.hid hr; have HE := Lib.hid he; have HRR := Lib.hid hrr; have HT := Lib.hid ht; have HTL := Lib.hid htl; have HVT := Lib.hid hvt; have HX := Lib.hid hx
  have IHL := Lib.hid ihL; have IHP := Lib.hid ihP; have IHA := Lib.hid ihA
  have hgw : g < w.heap.size := hpw_lt HPW.out
  clear hb hsl hown htl hrest he hr hrr ht hV hvt hx ihL ihP ihA
  go_enter Try.func66, Try.ntmps66
  go_wp2_with fail
  go_quiet (fail)
  go_wp2_with fail
  have hd := dN8 w nq
  have hbg : b ≠ g := by omega
  generalize w.drewN nq = w1 at *
  replace c0 := cell_later hd c0
  replace c1 := cell_later hd c1
  replace k1 := cell_later hd k1
  replace k2 := cell_later hd k2
  go_region_held3 (fun w' => w'.cell? ⟨g, 0, none⟩ = some (.slice (some ⟨b, o, none⟩) L.length c) ∧ w'.cell? ⟨g, 1, none⟩ = some (.int .i64 (pos : Int)) ∧ w'.cell? ⟨b, o + pos * 2, none⟩ = some (.int .i64 t.kind) ∧ w'.cell? ⟨b, o + pos * 2 + 1, none⟩ = some (.string ⟨t.text.toArray⟩))
    (((try go_split_ands); (try dsimp only); refine ⟨?_, ?_, ?_, ?_⟩ <;> ((repeat (first | (with_reducible assumption) | (with_reducible refine cell_alloc' ?_ _) | (with_reducible refine cell_drew' ?_) | (with_reducible refine cell_set ?_ (by assumption)) | (with_reducible refine cell_off (by decide) ?_) | (with_reducible refine cell_later (by assumption) ?_) | (with_reducible refine cell_grown (by assumption) ?_ (by simp; omega)))); done)))
    (fail)
  have hbel : Below w.heap.size w (w1.alloc (Obj.cells #[.int .i64 t.kind, .string ⟨t.text.toArray⟩] 54)).drew := (next hd ((Below.refl w1.heap.size w1).alloc (Nat.le_refl _) _) (Nat.le_refl _)).drew
  have hT2 : (w1.alloc (Obj.cells #[.int .i64 t.kind, .string ⟨t.text.toArray⟩] 54)).drew.heap[w1.heap.size]? = some (.cells #[.int .i64 t.kind, .string ⟨t.text.toArray⟩] 54 (0, 0)) := blkAt w1 _ rfl
  have hgt : g < w1.heap.size := Nat.lt_of_lt_of_le hgw hd.size
  have HP2 := Lib.hid (HPW.out.below hbel)
  generalize (w1.alloc (Obj.cells #[.int .i64 t.kind, .string ⟨t.text.toArray⟩] 54)).drew = w2 at *
  generalize w1.heap.size = tb at *
  have hp2 := HP2.out
  clear c0 c1 c4 k1 k2 hd HPW hSb hbs hbg
  obtain ⟨-, -, -, -, -, A, c, Ao, co, hb, hsl, hown⟩ := hp2
  have hgl2 : g < w2.heap.size := hpw_lt HP2.out
  have c0 := (cell_blk hb 0).trans rfl
  have c1 := (cell_blk hb 1).trans rfl
  have c2 := (cell_blk hb 2).trans rfl
  have c3 := (cell_blk hb 3).trans rfl
  have c4 := (cell_blk hb 4).trans rfl
  have z1 := frz_blk hb 1
  have z2 := frz_blk hb 2
  have z3 := frz_blk hb 3
  have t0 := (cell_blk hT2 0).trans rfl
  have t1 := (cell_blk hT2 1).trans rfl
  have HF2 := Lib.hid (Frm.any (M := PM n0 g w) hbel); clear hbel
  have HBX := Lib.hid hb; have HSX := Lib.hid hsl; have HOX := Lib.hid hown; have HTX := Lib.hid hT2; clear hb hsl hown hT2
  have hx := HX.out
  have hkk := HKK.out
  have hld := HLD0.out
  have hk1' : (t.kind == 1) = true := by rw [hkk]; rfl
  have hk2' : (t.kind == 2) = false := by rw [hkk]; rfl
  have hk3' : (t.kind == 3) = false := by rw [hkk]; rfl
  have hs0 : pnext st [40] = false := by
    unfold pnext
    rw [HR2.out]
    have : t ≠ ⟨3, [40]⟩ := by intro e; rw [e] at hkk; cases hkk
    simpa using this
  have hsy := symbol8_any n0 g L _ [40] w2 HP2.out
  rw [pnext_qsym HR.out, hs0] at hsy
  have HSY := Lib.hid hsy
  have hstA : ({ st with rest := rr } : PSt).m + 1 = st.m := by
    show st.out.length + rr.length + 1 = st.m
    rw [← hsm, ← HRR.out, List.length_drop]; omega
  have hrA : ({ st with rest := rr } : PSt).rest = L.drop (pos + 1) := HRR.out.symm
  have hsa : ∀ W, PW8 W n0 g L ⟨pos + 1, st.depth, st.out, st.err⟩ → Calls Try.prog 83 #[.pointer (some ⟨g, 0, none⟩), .string ⟨[40].toArray⟩] W fun e w' => e = .returned (.bool (pnext { st with rest := rr } [40])) ∧ ∃ m, w' = W.drewN m := fun W h => by
    have := symbol8_any n0 g L _ [40] W h
    rw [pnext_qsym hrA] at this
    exact this
  have HSTA := Lib.hid hstA
  have HRA := Lib.hid hrA
  have tok0 : True := trivial
  clear hsy hs0 hkk
  rw [if_pos hld] at hx
  have hld' : (t.text == [108, 111, 97, 100]) = true := by rw [hld]; rfl
  have HLD := Lib.hid hld; clear hld
  obtain ⟨x1, h1, hx1, hx2⟩ := pthen_eq hx
  obtain ⟨x2, h2, hy1, hy2, hy3⟩ := pzero_eq h1
  rw [hy1] at hx1
  rw [hy1, hy2, hy3] at hx2
  clear hy1 hy2 hy3
  cases hn40 : pnext { st with rest := rr } [40]
  · obtain ⟨hz1, hz2⟩ := pparens_no h2 hn40
    have hXX : x.1 = false ∧ x.2.1.err = 4 := by
      rw [hx1, hx2, hz1, hz2]
      exact ⟨rfl, pfail_err (st := { st with rest := rr }) HE.out 4⟩
    clear h2 hz1 hz2
    have HXX := Lib.hid hXX
    rw [hn40] at hsa
    have HSA := Lib.hid hsa
    clear hXX hsa hx h1 hx1 hx2 hn40 hstA hrA 
    go_wp2_with (first | (go_at_call 26; refine (unary8_any t.text 0 _ (by omega) (by omega)).mono ?_; rintro e w' ⟨rfl, rfl⟩) | (go_at_call 83; have _t := tok0; refine HSY.out.mono ?_; rintro e w' ⟨rfl, m4, rfl⟩; have tok1 : True := trivial; clear tok0) | (go_at_call 83; have _t := tok1; refine (HSA.out _ ((HP2.out.drewN m4).set1 (pos + 1) hlt)).mono ?_; rintro e w' ⟨rfl, m6, rfl⟩; clear tok1))
    refine (fail8_any n0 g L _ 4 _ (((HP2.out.drewN m4).set1 (pos + 1) hlt).drewN m6)).mono ?_
    rintro e w5 ⟨rfl, hw5, hf5⟩
    rw [qfail0 HE.out] at hw5
    go_wp2
    ((try simp only [Exit.inBlock, Exit.then]); first | refine bodyPost_ret (results_none rfl _ _ _) rfl ?_ | refine bodyPost_end (results_none rfl _ _ _) rfl ?_)
    rw [HXX.out.1]
    exact ⟨rfl, ⟨fun h => (by cases h), fun _ => by rw [HXX.out.2]; exact PE.of_fail 4 (by decide) hw5 rfl rfl (by simp only; omega)⟩, PM.trans ((HP2.out.frm (HF2.out.drewN m4) _ _).drewN m6) hf5⟩
  · have hlt2 : pos + 1 < L.length := qsym_lt ((pnext_qsym (d := 0) (o := []) (e := 0) HRA.out [40]).trans hn40)
    have hst1 : st.out.length + rr.tail.length + 2 = st.m := by
      rw [← hsm, ← HRR.out, List.tail_drop, List.length_drop]; omega
    have htail : rr.tail = L.drop (pos + 1 + 1) := by rw [← HRR.out, List.tail_drop]
    rw [hn40] at hsa
    have HSA := Lib.hid hsa
    have hinner : ∀ wE, PW8 wE n0 g L (qenter ⟨pos + 1, st.depth, st.out, st.err⟩) → Calls Try.prog 39 #[.pointer (some ⟨g, 0, none⟩), .int .i64 1] wE (fun e w3 => e = .returned (.tuple #[]) ∧ ∃ q3, PW8 w3 n0 g L q3 ∧ Frm (PM n0 g wE) wE w3 ∧ q3.out.length ≤ 300 ∧ -5 ≤ q3.depth ∧ q3.depth ≤ 40 ∧ QR L st.depth (st.m + 1) x.1 x.2.1 { (qexpect L { q3 with out := q3.out ++ [⟨4, [], 0⟩] } [41]) with depth := (qexpect L { q3 with out := q3.out ++ [⟨4, [], 0⟩] } [41]).depth - 1 }) := by
      intro wE hE
      rw [hx1, hx2]
      by_cases hdp : 24 < st.depth
      · rw [qenter_deep HE.out hdp] at hE
        obtain ⟨hz1, hz2⟩ := pparens_deep h2 hn40 hdp
        rw [hz1, hz2]
        refine (level8_err n0 g L _ (by simp) 10 1 1 wE rfl (by omega) (by omega) hE).mono ?_
        rintro e w3 ⟨rfl, hw3, hf3⟩
        have hq := QR.deep (L := L) (st := { st with rest := rr }) HRA.out HE.out (pfail { st with rest := rr } 11).2 (pfail_err (st := { st with rest := rr }) HE.out 11)
        exact ⟨rfl, _, hw3, hf3, by simp only [PSt.m] at hm; simp only; omega, by simp only; omega, by simp only; omega, (((hq.put ⟨4, [], 0⟩).close).down.more (by have := hstA; omega)).err_ rfl⟩
      · rw [qenter_ok HE.out hdp] at hE
        obtain ⟨y, h3, hz1, hz2, -⟩ := pparens_yes h2 hn40 hdp
        rw [hz1, hz2]
        refine (IHL.out f (Nat.le_refl f) 1 1 _ wE y rfl (by omega) (by omega) h3 ⟨pos + 1 + 1, htail, hE⟩ HE.out (by simp only; omega) (by simp only; omega) (by simp only [PSt.m] at hst1 hm ⊢; omega)).mono ?_
        rintro e w3 ⟨rfl, hw3, hf3⟩
        have hI := pr_inv _ _ _ _ h3
        obtain ⟨q3, hq3, hqr⟩ := hw3.qr hI.depth hI.m
        have hl := hqr.len
        simp only at hl
        have hm1 : ({ st with depth := st.depth + 1, rest := rr.tail } : PSt).m ≤ 254 := by simp only [PSt.m] at hst1 hm ⊢; omega
        have hl1 : q3.out.length ≤ 300 := Nat.le_trans hl.1 (by show ({ st with depth := st.depth + 1, rest := rr.tail } : PSt).m + 1 ≤ 300; omega)
        exact ⟨rfl, q3, hq3, hf3, hl1, by omega, by omega, QR.ahead (((hqr.put ⟨4, [], 0⟩).close).down.more (by simp only [PSt.m] at hst1 ⊢; omega))⟩
    have HIN := Lib.hid hinner
    clear hinner hsa hx h1 h2 hx1 hx2 hn40 hstA hrA htail hst1
    have HLT2 := Lib.hid hlt2; clear hlt2
    go_wp2_with (first | (go_at_call 26; refine (unary8_any t.text 0 _ (by omega) (by omega)).mono ?_; rintro e w' ⟨rfl, rfl⟩) | (go_at_call 83; have _t := tok0; refine HSY.out.mono ?_; rintro e w' ⟨rfl, m4, rfl⟩; have tok1 : True := trivial; clear tok0) | (go_at_call 83; have _t := tok1; refine (HSA.out _ ((HP2.out.drewN m4).set1 (pos + 1) hlt)).mono ?_; rintro e w' ⟨rfl, m6, rfl⟩; clear tok1))
    refine (enter8_any n0 g L _ _ (((HP2.out.drewN m4).set1 (pos + 1) hlt).drewN m6) (fun _ => HLT2.out) hd).mono ?_
    rintro e w3 ⟨rfl, hw3, hf3⟩
    have HW3 := Lib.hid hw3; have HF3 := Lib.hid hf3; clear hw3
    have hT3 := hf3.blk (show ((((w2.drewN m4).setCell ⟨g, 1, none⟩ (.int .i64 ((pos + 1 : Nat) : Int)))).drewN m6).heap[tb]? = _ from (set_other _ _ _ _ _ (by omega)).trans HTX.out) (by decide) (by omega)
    clear c0 c1 c2 c3 c4 z1 z2 z3 t0 t1 hf3
    have t1 := (cell_blk hT3 1).trans rfl
    clear hT3
    go_wp2_with fail
    refine (HIN.out _ HW3.out).mono ?_
    rintro e w5 ⟨rfl, q3, hq3, hf5, l1, l2, l3, hqr⟩
    have HQR := Lib.hid hqr; clear hqr t1
    have HF5 := Lib.hid (PM.trans (PM.trans ((HP2.out.frm (HF2.out.drewN m4) _ _).drewN m6) HF3.out) hf5)
    have HQ3 := Lib.hid hq3
    have hgl5 := hq3.lt
    obtain ⟨-, ol5, pl5, -, -, A5, c5, Ao5, co5, hb5, hsl5, hown5⟩ := hq3
    have d2 := (cell_blk hb5 2).trans rfl
    have y2 := frz_blk hb5 2
    clear HBX HSX HOX hf5 HIN HX HP2 HW3 HF3
    have HBX := Lib.hid hb5; have HSX := Lib.hid hsl5; have HOX := Lib.hid hown5; clear hb5 hsl5 hown5
    go_wp2_with ((at_builtin; go_must (refine wpList_app1 rfl _ _ eltOpn rfl (by decide) rfl rfl rfl (HOX.out.alloc _) rfl [.int .i64 4, .string ⟨[].toArray⟩, .int .u32 0] ⟨4, [], 0⟩ (blkAt _ _ rfl) rfl ⟨rfl, rfl, rfl⟩ (by omega) (by omega) (by simp; omega) ?_); intro A' c' w4 hown' hg hat; have hb4 := grownBlk hg (blkOld HBX.out _) (HOX.out.ne_lt (Nat.lt_succ_self g)); have hc42 := (cell_blk hb4 2).trans rfl; have hz42 := frz_blk hb4 2; have hc41 := (cell_blk hb4 1).trans rfl; have hz41 := frz_blk hb4 1; have hc43 := (cell_blk hb4 3).trans rfl; have hz43 := frz_blk hb4 3))
    have hput := put8 (q := q3) (o := ⟨4, [], 0⟩) hn0 (by omega) pl5 HTL.out hL HBX.out HSX.out HOX.out hown' hg
    have HPUT := Lib.hid hput
    refine (expect8_any n0 g L _ [41] _ hput.1).mono ?_
    rintro e w6 ⟨rfl, hq6, hf6⟩
    have HQ6 := Lib.hid hq6
    have hde := qexpect_depth L { q3 with out := q3.out ++ [⟨4, [], 0⟩] } [41]
    simp only at hde
    obtain ⟨-, -, -, -, -, A6, c6, Ao6, co6, hb6, -, -⟩ := hq6
    have d3 := (cell_blk hb6 3).trans rfl
    have y3 := frz_blk hb6 3
    rw [hde] at d3
    have hwd : IntKind.i64.wrap (q3.depth - 1) = q3.depth - 1 := by simp [IntKind.wrap, IntKind.signed, IntKind.bits]; omega
    have HDE := Lib.hid hde
    clear hb6 hde hput
    go_wp2
    ((try simp only [Exit.inBlock, Exit.then]); first | refine bodyPost_ret (results_none rfl _ _ _) rfl ?_ | refine bodyPost_end (results_none rfl _ _ _) rfl ?_)
    have hqr := HQR.out
    rw [HDE.out] at hqr
    exact ⟨rfl, hqr.pr8 (HQ6.out.set3 (q3.depth - 1)), HQ6.out.frm (PM.trans (PM.trans HF5.out HPUT.out.2) hf6) _ _⟩

set_option maxRecDepth 100000 in
set_option maxHeartbeats 8000000 in
theorem prim8_in (n0 g : Nat) (L : List Tok) (hV : ∀ t ∈ L, validT t = true) (f : Nat) (ihL : ∀ f', f' ≤ f → WLevel n0 g L f') (ihP : ∀ f', f' ≤ f → WPrim n0 g L f') (ihA : WArg8 n0 g L f)
    (st : PSt) (w : World) (x : Bool × PSt × Int) (t : Tok) (rr : List Tok) (hr : st.rest = t :: rr) (hkk : t.kind = 1) (hld : t.text ≠ [108, 111, 97, 100]) (hin : t.text = [105, 110]) (hx : pr (f + 1) .single st = some x) (hps : PS w n0 g L st) (he : st.err = 0) (hd : 0 ≤ st.depth) (hd25 : st.depth ≤ 25) (hm : st.m ≤ 256) :
    Calls Try.prog 66 #[.pointer (some ⟨g, 0, none⟩)] w (fun e w' => e = .returned (.tuple #[]) ∧ PR8 w' n0 g L st x.1 x.2.1 ∧ Frm (PM n0 g w) w w') := by
  rw [pr, hr] at hx
  simp only [show ¬ (t.kind = 2) by omega, show ¬ (t.kind = 3) by omega, if_false] at hx
  have HKK := Lib.hid hkk; clear hkk
  have HLD0 := Lib.hid hld; have HIN1 := Lib.hid hin; clear hld hin
  obtain ⟨pos, hrest, hpw⟩ := hps
  have HPW := Lib.hid hpw
  obtain ⟨hn0, hol, hpl, htl, hL, A, c, Ao, co, hb, hsl, hown⟩ := hpw
  simp only at hpl hol
  have hlt : pos < L.length := by
    rw [hrest] at hr
    have := congrArg List.length hr
    rw [List.length_drop, List.length_cons] at this
    omega
  have hrd : L[pos] :: L.drop (pos + 1) = t :: rr := by rw [← drop_get hlt, ← hrest, hr]
  injection hrd with ht hrr
  have htt : t.text.length ≤ 9223372036854775807 := htl _ (by rw [← ht]; simp)
  have hvt : validT t = true := hV _ (by rw [← ht]; simp)
  rw [valid_eq] at hvt
  obtain ⟨b, o, hA, hSb, hbs, k1, k2⟩ := hsl.tok (k := pos) hlt
  subst hA
  rw [ht] at k1 k2
  have hlt' : (pos : Int) < (L.length : Int) := by omega
  have hlt2 : ¬ ((L.length : Int) ≤ (pos : Int)) := by omega
  have hge' : (0 : Int) ≤ (pos : Int) := by omega
  have c0 := cell_blk hb 0
  have c1 := cell_blk hb 1
  have c4 := cell_blk hb 4
  simp only [List.getElem?_toArray, List.getElem?_cons_succ, List.getElem?_cons_zero] at c0 c1 c4
  have he' : (st.err != 0) = false := by rw [he]; rfl
  have hw1 : IntKind.i64.wrap ((pos : Int) + 1) = (pos : Int) + 1 := by simp [IntKind.wrap, IntKind.signed, IntKind.bits]; omega
  have hsm : st.out.length + (L.length - pos) = st.m := by simp [PSt.m, hrest]
  have HR := Lib.hid hrest; have HR2 := Lib.hid hr; have HE := Lib.hid he; have HRR := Lib.hid hrr; have HT := Lib.hid ht; have HTL := Lib.hid htl; have HVT := Lib.hid hvt; have HX := Lib.hid hx
  have IHL := Lib.hid ihL; have IHP := Lib.hid ihP; have IHA := Lib.hid ihA
  have hgw : g < w.heap.size := hpw_lt HPW.out
  clear hb hsl hown htl hrest he hr hrr ht hV hvt hx ihL ihP ihA
  go_enter Try.func66, Try.ntmps66
  go_wp2_with fail
  go_quiet (fail)
  go_wp2_with fail
  have hd := dN8 w nq
  have hbg : b ≠ g := by omega
  generalize w.drewN nq = w1 at *
  replace c0 := cell_later hd c0
  replace c1 := cell_later hd c1
  replace k1 := cell_later hd k1
  replace k2 := cell_later hd k2
  go_region_held3 (fun w' => w'.cell? ⟨g, 0, none⟩ = some (.slice (some ⟨b, o, none⟩) L.length c) ∧ w'.cell? ⟨g, 1, none⟩ = some (.int .i64 (pos : Int)) ∧ w'.cell? ⟨b, o + pos * 2, none⟩ = some (.int .i64 t.kind) ∧ w'.cell? ⟨b, o + pos * 2 + 1, none⟩ = some (.string ⟨t.text.toArray⟩))
    (((try go_split_ands); (try dsimp only); refine ⟨?_, ?_, ?_, ?_⟩ <;> ((repeat (first | (with_reducible assumption) | (with_reducible refine cell_alloc' ?_ _) | (with_reducible refine cell_drew' ?_) | (with_reducible refine cell_set ?_ (by assumption)) | (with_reducible refine cell_off (by decide) ?_) | (with_reducible refine cell_later (by assumption) ?_) | (with_reducible refine cell_grown (by assumption) ?_ (by simp; omega)))); done)))
    (fail)
  have hbel : Below w.heap.size w (w1.alloc (Obj.cells #[.int .i64 t.kind, .string ⟨t.text.toArray⟩] 54)).drew := (next hd ((Below.refl w1.heap.size w1).alloc (Nat.le_refl _) _) (Nat.le_refl _)).drew
  have hT2 : (w1.alloc (Obj.cells #[.int .i64 t.kind, .string ⟨t.text.toArray⟩] 54)).drew.heap[w1.heap.size]? = some (.cells #[.int .i64 t.kind, .string ⟨t.text.toArray⟩] 54 (0, 0)) := blkAt w1 _ rfl
  have hgt : g < w1.heap.size := Nat.lt_of_lt_of_le hgw hd.size
  have HP2 := Lib.hid (HPW.out.below hbel)
  generalize (w1.alloc (Obj.cells #[.int .i64 t.kind, .string ⟨t.text.toArray⟩] 54)).drew = w2 at *
  generalize w1.heap.size = tb at *
  have hp2 := HP2.out
  clear c0 c1 c4 k1 k2 hd HPW hSb hbs hbg
  obtain ⟨-, -, -, -, -, A, c, Ao, co, hb, hsl, hown⟩ := hp2
  have hgl2 : g < w2.heap.size := hpw_lt HP2.out
  have c0 := (cell_blk hb 0).trans rfl
  have c1 := (cell_blk hb 1).trans rfl
  have c2 := (cell_blk hb 2).trans rfl
  have c3 := (cell_blk hb 3).trans rfl
  have c4 := (cell_blk hb 4).trans rfl
  have z1 := frz_blk hb 1
  have z2 := frz_blk hb 2
  have z3 := frz_blk hb 3
  have t0 := (cell_blk hT2 0).trans rfl
  have t1 := (cell_blk hT2 1).trans rfl
  have HF2 := Lib.hid (Frm.any (M := PM n0 g w) hbel); clear hbel
  have HBX := Lib.hid hb; have HSX := Lib.hid hsl; have HOX := Lib.hid hown; have HTX := Lib.hid hT2; clear hb hsl hown hT2
  have hx := HX.out
  have hkk := HKK.out
  have hld := HLD0.out
  have hin := HIN1.out
  have hk1' : (t.kind == 1) = true := by rw [hkk]; rfl
  have hk2' : (t.kind == 2) = false := by rw [hkk]; rfl
  have hk3' : (t.kind == 3) = false := by rw [hkk]; rfl
  have hs0 : pnext st [40] = false := by
    unfold pnext
    rw [HR2.out]
    have : t ≠ ⟨3, [40]⟩ := by intro e; rw [e] at hkk; cases hkk
    simpa using this
  have hsy := symbol8_any n0 g L _ [40] w2 HP2.out
  rw [pnext_qsym HR.out, hs0] at hsy
  have HSY := Lib.hid hsy
  have hstA : ({ st with rest := rr } : PSt).m + 1 = st.m := by
    show st.out.length + rr.length + 1 = st.m
    rw [← hsm, ← HRR.out, List.length_drop]; omega
  have hrA : ({ st with rest := rr } : PSt).rest = L.drop (pos + 1) := HRR.out.symm
  have hsa : ∀ W, PW8 W n0 g L ⟨pos + 1, st.depth, st.out, st.err⟩ → Calls Try.prog 83 #[.pointer (some ⟨g, 0, none⟩), .string ⟨[40].toArray⟩] W fun e w' => e = .returned (.bool (pnext { st with rest := rr } [40])) ∧ ∃ m, w' = W.drewN m := fun W h => by
    have := symbol8_any n0 g L _ [40] W h
    rw [pnext_qsym hrA] at this
    exact this
  have HSTA := Lib.hid hstA
  have HRA := Lib.hid hrA
  have tok0 : True := trivial
  clear hsy hs0 hkk
  rw [if_neg hld, if_pos hin] at hx
  have hld' : (t.text == [108, 111, 97, 100]) = false := by rw [beq_eq_false_iff_ne]; exact hld
  have hin' : (t.text == [105, 110]) = true := by rw [hin]; rfl
  have HLD := Lib.hid hld; clear hld
  have HIN0 := Lib.hid hin; clear hin
  obtain ⟨x1, h1, hx1, hx2⟩ := pthen_eq hx
  obtain ⟨x2, h2, hy1, hy2, hy3⟩ := pzero_eq h1
  rw [hy1] at hx1
  rw [hy1, hy2, hy3] at hx2
  clear hy1 hy2 hy3
  cases hn40 : pnext { st with rest := rr } [40]
  · obtain ⟨hz1, hz2⟩ := pparens_no h2 hn40
    have hXX : x.1 = false ∧ x.2.1.err = 4 := by
      rw [hx1, hx2, hz1, hz2]
      exact ⟨rfl, pfail_err (st := { st with rest := rr }) HE.out 4⟩
    clear h2 hz1 hz2
    have HXX := Lib.hid hXX
    rw [hn40] at hsa
    have HSA := Lib.hid hsa
    clear hXX hsa hx h1 hx1 hx2 hn40 hstA hrA 
    go_wp2_with (first | (go_at_call 26; refine (unary8_any t.text 0 _ (by omega) (by omega)).mono ?_; rintro e w' ⟨rfl, rfl⟩) | (go_at_call 83; have _t := tok0; refine HSY.out.mono ?_; rintro e w' ⟨rfl, m4, rfl⟩; have tok1 : True := trivial; clear tok0) | (go_at_call 83; have _t := tok1; refine (HSA.out _ ((HP2.out.drewN m4).set1 (pos + 1) hlt)).mono ?_; rintro e w' ⟨rfl, m6, rfl⟩; clear tok1))
    refine (fail8_any n0 g L _ 4 _ (((HP2.out.drewN m4).set1 (pos + 1) hlt).drewN m6)).mono ?_
    rintro e w5 ⟨rfl, hw5, hf5⟩
    rw [qfail0 HE.out] at hw5
    go_wp2
    ((try simp only [Exit.inBlock, Exit.then]); first | refine bodyPost_ret (results_none rfl _ _ _) rfl ?_ | refine bodyPost_end (results_none rfl _ _ _) rfl ?_)
    rw [HXX.out.1]
    exact ⟨rfl, ⟨fun h => (by cases h), fun _ => by rw [HXX.out.2]; exact PE.of_fail 4 (by decide) hw5 rfl rfl (by simp only; omega)⟩, PM.trans ((HP2.out.frm (HF2.out.drewN m4) _ _).drewN m6) hf5⟩
  · have hlt2 : pos + 1 < L.length := qsym_lt ((pnext_qsym (d := 0) (o := []) (e := 0) HRA.out [40]).trans hn40)
    have hst1 : st.out.length + rr.tail.length + 2 = st.m := by
      rw [← hsm, ← HRR.out, List.tail_drop, List.length_drop]; omega
    have htail : rr.tail = L.drop (pos + 1 + 1) := by rw [← HRR.out, List.tail_drop]
    rw [hn40] at hsa
    have HSA := Lib.hid hsa
    have hinner : ∀ q3, q3 = qenter ⟨pos + 1, st.depth, st.out, st.err⟩ → q3.out.length ≤ 300 ∧ -5 ≤ q3.depth ∧ q3.depth ≤ 40 ∧ QR L st.depth (st.m + 1) x.1 x.2.1 { (qexpect L { q3 with out := q3.out ++ [⟨5, [], 0⟩] } [41]) with depth := (qexpect L { q3 with out := q3.out ++ [⟨5, [], 0⟩] } [41]).depth - 1 } := by
      intro q3 hE
      rw [hx1, hx2]
      by_cases hdp : 24 < st.depth
      · rw [qenter_deep HE.out hdp] at hE
        obtain ⟨hz1, hz2⟩ := pparens_deep h2 hn40 hdp
        rw [hz1, hz2]
        subst hE
        have hq := QR.deep (L := L) (st := { st with rest := rr }) HRA.out HE.out (pfail { st with rest := rr } 11).2 (pfail_err (st := { st with rest := rr }) HE.out 11)
        exact ⟨by simp only [PSt.m] at hm; simp only; omega, by simp only; omega, by simp only; omega, (((hq.put ⟨5, [], 0⟩).close).down.more (by have := hstA; omega)).err_ rfl⟩
      · rw [qenter_ok HE.out hdp] at hE
        obtain ⟨y, h3, hz1, hz2, -⟩ := pparens_yes h2 hn40 hdp
        rw [hz1, hz2]
        subst hE
        cases f with
        | zero => cases h3
        | succ f =>
          rw [pr] at h3
          injection h3 with h3
          subst h3
          have hqr : QR L (st.depth + 1) (st.m - 2 + 1) true { st with depth := st.depth + 1, rest := rr.tail } ⟨pos + 1 + 1, st.depth + 1, st.out, st.err⟩ :=
            .inl ⟨rfl, htail, by simp only; omega, rfl, rfl, HE.out, HE.out, rfl, by simp only [PSt.m] at hst1 ⊢; omega⟩
          exact ⟨by simp only [PSt.m] at hm; simp only; omega, by simp only; omega, by simp only; omega, QR.ahead (((hqr.put ⟨5, [], 0⟩).close).down.more (by omega))⟩
    have HIN := Lib.hid hinner
    clear hinner hsa hx h1 h2 hx1 hx2 hn40 hstA hrA htail hst1
    have HLT2 := Lib.hid hlt2; clear hlt2
    go_wp2_with (first | (go_at_call 26; refine (unary8_any t.text 0 _ (by omega) (by omega)).mono ?_; rintro e w' ⟨rfl, rfl⟩) | (go_at_call 83; have _t := tok0; refine HSY.out.mono ?_; rintro e w' ⟨rfl, m4, rfl⟩; have tok1 : True := trivial; clear tok0) | (go_at_call 83; have _t := tok1; refine (HSA.out _ ((HP2.out.drewN m4).set1 (pos + 1) hlt)).mono ?_; rintro e w' ⟨rfl, m6, rfl⟩; clear tok1))
    refine (enter8_any n0 g L _ _ (((HP2.out.drewN m4).set1 (pos + 1) hlt).drewN m6) (fun _ => HLT2.out) hd).mono ?_
    obtain ⟨q3, hqe⟩ : ∃ q3, q3 = qenter ⟨pos + 1, st.depth, st.out, st.err⟩ := ⟨_, rfl⟩
    obtain ⟨l1, l2, l3, hqr⟩ := HIN.out q3 hqe
    rw [← hqe]
    clear hqe
    rintro e w5 ⟨rfl, hq3, hf3⟩
    have HF3 := Lib.hid hf3
    have hT3 := hf3.blk (show ((((w2.drewN m4).setCell ⟨g, 1, none⟩ (.int .i64 ((pos + 1 : Nat) : Int)))).drewN m6).heap[tb]? = _ from (set_other _ _ _ _ _ (by omega)).trans HTX.out) (by decide) (by omega)
    clear c0 c1 c2 c3 c4 z1 z2 z3 t0 t1 hf3
    have t1 := (cell_blk hT3 1).trans rfl
    clear hT3
    have HQR := Lib.hid hqr; clear hqr
    have HF5 := Lib.hid (PM.trans ((HP2.out.frm (HF2.out.drewN m4) _ _).drewN m6) HF3.out)
    have HQ3 := Lib.hid hq3
    have hgl5 := hq3.lt
    obtain ⟨-, ol5, pl5, -, -, A5, c5, Ao5, co5, hb5, hsl5, hown5⟩ := hq3
    have d2 := (cell_blk hb5 2).trans rfl
    have y2 := frz_blk hb5 2
    clear HBX HSX HOX HIN HX HP2 HF3
    have HBX := Lib.hid hb5; have HSX := Lib.hid hsl5; have HOX := Lib.hid hown5; clear hb5 hsl5 hown5
    go_wp2_with ((at_builtin; go_must (refine wpList_app1 rfl _ _ eltOpn rfl (by decide) rfl rfl rfl (HOX.out.alloc _) rfl [.int .i64 5, .string ⟨[].toArray⟩, .int .u32 0] ⟨5, [], 0⟩ (blkAt _ _ rfl) rfl ⟨rfl, rfl, rfl⟩ (by omega) (by omega) (by simp; omega) ?_); intro A' c' w4 hown' hg hat; have hb4 := grownBlk hg (blkOld HBX.out _) (HOX.out.ne_lt (Nat.lt_succ_self g)); have hc42 := (cell_blk hb4 2).trans rfl; have hz42 := frz_blk hb4 2; have hc41 := (cell_blk hb4 1).trans rfl; have hz41 := frz_blk hb4 1; have hc43 := (cell_blk hb4 3).trans rfl; have hz43 := frz_blk hb4 3))
    have hput := put8 (q := q3) (o := ⟨5, [], 0⟩) hn0 (by omega) pl5 HTL.out hL HBX.out HSX.out HOX.out hown' hg
    have HPUT := Lib.hid hput
    refine (expect8_any n0 g L _ [41] _ hput.1).mono ?_
    rintro e w6 ⟨rfl, hq6, hf6⟩
    have HQ6 := Lib.hid hq6
    have hde := qexpect_depth L { q3 with out := q3.out ++ [⟨5, [], 0⟩] } [41]
    simp only at hde
    obtain ⟨-, -, -, -, -, A6, c6, Ao6, co6, hb6, -, -⟩ := hq6
    have d3 := (cell_blk hb6 3).trans rfl
    have y3 := frz_blk hb6 3
    rw [hde] at d3
    have hwd : IntKind.i64.wrap (q3.depth - 1) = q3.depth - 1 := by simp [IntKind.wrap, IntKind.signed, IntKind.bits]; omega
    have HDE := Lib.hid hde
    clear hb6 hde hput
    go_wp2
    ((try simp only [Exit.inBlock, Exit.then]); first | refine bodyPost_ret (results_none rfl _ _ _) rfl ?_ | refine bodyPost_end (results_none rfl _ _ _) rfl ?_)
    have hqr := HQR.out
    rw [HDE.out] at hqr
    exact ⟨rfl, hqr.pr8 (HQ6.out.set3 (q3.depth - 1)), HQ6.out.frm (PM.trans (PM.trans HF5.out HPUT.out.2) hf6) _ _⟩
end Go.Proofs.Ytchdpjgncojhaaa
