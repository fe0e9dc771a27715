/- Query (package licitlaw54): a part of the proofs of its laws; see the law's own text, which comes last in 'order'. No conditions of its own. -/
import Derived.Test.YtkjoaodoioicpaaGreatDoorWC41
set_option linter.unusedVariables false
set_option linter.unusedSimpArgs false
namespace Go.Proofs.YtkjoaodoioicpaaGreatDoor
open Go.RowKit
set_option maxRecDepth 100000 in
set_option maxHeartbeats 16000000 in
theorem queryClosed_walk (w : World) (A : Option Addr) (n c : Nat) (l : List Rul) (hl : Sl w (fun _ => True) A n c l) (ho : ∀ r ∈ l, OkR r) (B : Option Addr) (m d : Nat) (facts : List Atm) (hf : Sl w (fun _ => True) B m d facts) (hof : ∀ a ∈ facts, OkT a) (hL : LD w) :
    Calls Tryz.prog 6 #[.slice A n c, .slice B m d] w fun e w' => e = .returned (.bool true) ∧ Below w.heap.size w w' := by
  have hn := hl.len; have hmm := hf.len
  subst hn hmm
  have hle := hl.le; have hle2 := hf.le
  have hlt := fun (k : Nat) (hk : k < w.heap.size) (_ : True) => hk
  have HL := Lib.hid hL; have HS := Lib.hid (hl.wide (S' := fun b => b < w.heap.size) hlt (by decide)); have HF := Lib.hid (hf.wide (S' := fun b => b < w.heap.size) hlt (by decide))
  have HO := Lib.hid ho; have HOF := Lib.hid hof
  have HG := Lib.hid (@closed_ok l facts); have HN := Lib.hid (@evalS_nil l facts)
  clear hL hl ho hf hof hlt
  go_enter Tryz.func6, Tryz.ntmps6
  go_wp2_with fail
  refine (awake54_any _ HL.out).mono ?_
  rintro e w3 ⟨rfl, b3⟩
  have B3 := Lib.hid b3
  clear b3
  go_wp2_with fail
  refine (light_any l facts A l.length c B facts.length d w3 _ _ (HS.out.below B3.out) (HF.out.below B3.out) HO.out HOF.out).mono ?_
  rintro e w4 ⟨⟨qb, rfl, hq⟩, b4⟩
  have B4 := Lib.hid (B3.out.trans (b4.mono B3.out.size))
  have HQ := Lib.hid hq
  clear b4 hq
  cases qb with
  | false =>
    go_wp2_with fail
    refine (awake54_any _ (HL.out.below B4.out)).mono ?_
    rintro e w5 ⟨rfl, b5⟩
    have B5 := Lib.hid (B4.out.trans (b5.mono B4.out.size)); clear b5
    go_wp2_with fail
    exact bodyPost_ret (v := .bool true) (by simp [results, Tryz.results6, go_sem]) rfl ⟨rfl, B5.out⟩
  | true =>
    obtain ⟨hq1, hq2⟩ := HQ.out rfl
    obtain ⟨hl6, -⟩ := fewS_sm (m := 6) hq1
    obtain ⟨hl14, -⟩ := fewAs_sm (m := 14) hq2
    clear hq1 hq2 HQ
    have he1 := fun A c B d w S T hl hf hL => EvalQ_any A l.length c l B facts.length d facts w S T hl hf HO.out HOF.out hL
    generalize evalS l facts = r1 at *
    obtain ⟨m1, i1, e1⟩ := r1
    have HE1 := Lib.hid he1; clear he1
    go_wp2_with fail
    refine (cp54_any A _ c l w4 _ (HS.out.below B4.out) (by omega)).mono ?_
    rintro e w6 ⟨A6, k6, rfl, o6, b6⟩
    have S6 := Lib.hid (o6.sl (by decide)); have B6 := Lib.hid (B4.out.trans (b6.mono B4.out.size)); clear o6 b6
    go_wp2_with fail
    refine (ca54_any B _ d facts w6 _ (HF.out.below B6.out) (by omega)).mono ?_
    rintro e w7 ⟨A7, k7, rfl, o7, b7⟩
    have S7 := Lib.hid (o7.sl (by decide)); have B7 := Lib.hid (B6.out.trans (b7.mono B6.out.size)); have S67 := Lib.hid (S6.out.below b7); clear o7 b7 S6
    go_wp2_with fail
    refine (HE1.out A6 k6 A7 k7 w7 _ _ S67.out S7.out (HL.out.below B7.out)).mono ?_
    rintro e w8 ⟨A8, n8, k8, rfl, s8, b8⟩
    have hn8 := s8.len
    subst hn8
    have hle8 := s8.le
    have S8 := Lib.hid (s8.wide (S' := fun k => k < w8.heap.size) (fun k hk _ => hk) (by decide)); have B8 := Lib.hid (B7.out.trans (b8.mono B7.out.size)); clear s8 b8 S67 S7 B3 B4 B6 B7 HE1
    simp only at S8 hle8 HG HN ⊢
    by_cases h1 : e1 = 0
    · subst h1
      have HC := Lib.hid (HG.out rfl); clear HG HN
      have hml : m1.length ≤ 1038 := by have := HC.out.len; omega
      have S8w := Lib.hid (HS.out.below B8.out); have F8w := Lib.hid (HF.out.below B8.out)
      go_wp2_with fail
      go_loopw [8, 42] (fun o i wr => ∃ k : Nat, k ≤ l.length ∧ i = .int .i64 k ∧ ∃ (al : List Atm) (A : Option Addr) (c : Nat), o = .slice A al.length c ∧ Own wr (fun _ => True) w8.heap.size 31 A c al ∧ al.length ≤ 1024 * k ∧ Below w8.heap.size w8 wr ∧ Hid ((∀ a ∈ al, a ∈ m1) ∧ ∀ r ∈ l.take k, (stepS r m1).2 = 0 ∧ ∀ a ∈ (stepS r m1).1, a ∈ al)) (fun _ i _ => l.length - (intOf i).toNat)
      case atStart => exact ⟨0, by omega, rfl, [], none, 0, rfl, Own.nil _ _ _ _, by simp, Below.refl _ _, Lib.hid ⟨fun a h => by simp at h, fun r h => by simp at h⟩⟩
      case round =>
        obtain ⟨k, hk, rfl, al, A9, k9, rfl, hown, hall, hb, hP⟩ := hrel
        by_cases hlt : k < l.length
        · obtain ⟨b, o, rfl, -, hbs, A2, n2, c2, A3, n3, c3, q1, q2, q3, hs1, hs2⟩ := (S8w.out.below hb).rul hlt
          have hrm : l[k] ∈ l := List.getElem_mem hlt
          have htk : l.take (k + 1) = l.take k ++ [l[k]] := List.take_succ_eq_append_getElem hlt
          have hcr := HC.out.rules l[k] hrm
          have hst := HC.out.step l[k] hrm
          have hor := HO.out l[k] hrm
          generalize l[k] = x at *
          have hstep := fun (w' : World) (S T : Nat → Prop) (A' : Option Addr) (c' : Nat) (h1 : Sl w' S A2 n2 c2 x.head.args) (h2 : Sl w' S A3 n3 c3 x.body) (h3 : Sl w' T A' m1.length c' m1) (hL : LD w') => StepQ_any x m1 A2 n2 c2 A3 n3 c3 A' m1.length c' w' S T h1 h2 h3 hor (fun a ha => (ground_okT (HC.out.gr a ha)).1) hL (fun _ => hcr)
          obtain ⟨V, hV⟩ : ∃ V, V = stepS x m1 := ⟨_, rfl⟩
          rw [← hV] at hst
          simp only [← hV] at hstep
          obtain ⟨vl, ve⟩ := V
          simp only at hst hstep
          have hwz := hb.size
          have HST := Lib.hid hst; have HSTEP := Lib.hid hstep; have HVV := Lib.hid hV; have HOW := Lib.hid hown; have HB := Lib.hid hb; have HTK := Lib.hid htk; have HS1 := Lib.hid hs1; have HS2 := Lib.hid hs2
          clear hst hstep hV hown hb htk hs1 hs2 hcr hor hrm
          go_wp2_with fail
          have hbx : Below wr.heap.size wr (wr.alloc (.cells #[.string ⟨x.head.name.toArray⟩, .slice A2 n2 c2, .slice A3 n3 c3] 34)) := boxed
          have hbk := blkAt wr (.cells #[.string ⟨x.head.name.toArray⟩, .slice A2 n2 c2, .slice A3 n3 c3] 34) rfl
          generalize wr.alloc (.cells #[.string ⟨x.head.name.toArray⟩, .slice A2 n2 c2, .slice A3 n3 c3] 34) = W at *
          have HX := Lib.hid (fun (z : World) (hz : Below W.heap.size W z) => And.intro ((cell_blk (keptBlk hz hbk) 0).trans rfl) (And.intro ((cell_blk (keptBlk hz hbk) 1).trans rfl) ((cell_blk (keptBlk hz hbk) 2).trans rfl)))
          have HBX := Lib.hid hbx
          clear hbx hbk q1 q2 q3
          refine wpH_region (fun z => Below W.heap.size W z) (by kernel_rfl) ?_
          have hS : Below W.heap.size W W.drew := (Below.refl _ _).drew
          (refine tkW 0 (v := ?_) hS ?_ ?_; rotate_left; (focus (intro x hx; have fx := HX.out x hx; go_simp; (try with_reducible rfl); done)); (try simp only [Act.put, lsa, lsz, lss]))
          (refine tkW 1 (v := ?_) hS ?_ ?_; rotate_left; (focus (intro x hx; have fx := HX.out x hx; go_simp; (try with_reducible rfl); done)); (try simp only [Act.put, lsa, lsz, lss]))
          have h8 : ∀ z, Below W.heap.size W z → Below w8.heap.size w8 z := fun z hz => (HB.out.trans (HBX.out.mono hwz)).trans (hz.mono (Nat.le_trans hwz HBX.out.size))
          have h9 : ∀ z, Below W.heap.size W z → Below wr.heap.size wr z := fun z hz => HBX.out.trans (hz.mono HBX.out.size)
          have H8 := Lib.hid h8; have H9 := Lib.hid h9; clear h8 h9
          (refine wpAnyH_one 2 (by kernel_rfl) rfl ?_; intro K' hK'; go_simp; refine (ca54_any A8 _ k8 m1 _ _ (S8.out.below (H8.out _ hS)) (by omega)).mono ?_; rintro e wc ⟨Ac, kc, rfl, oc, bc⟩; have hS := hS.trans (bc.mono hS.size); have OC := Lib.hid (oc.sl (by decide)); clear oc bc; refine hK'.out _ _ hS ?_; clear hK' K')
          (refine wpAnyH_one 3 (by kernel_rfl) rfl ?_; intro K' hK'; go_simp; refine (HSTEP.out wc _ _ Ac kc (HS1.out.below (H9.out _ hS)) (HS2.out.below (H9.out _ hS)) OC.out (HL.out.below (B8.out.trans ((H8.out _ hS).mono B8.out.size)))).mono ?_; rintro e wd ⟨Ad, nd, kd, rfl, sd, bd⟩; have hSc := hS; have hS := hS.trans (bd.mono hS.size); have SD := Lib.hid sd; have HSC := Lib.hid hSc; clear sd bd hSc; refine hK'.out _ _ hS ?_; clear hK' K')
          obtain rfl : nd = vl.length := SD.out.len
          (refine tkW 4 (v := ?_) hS ?_ ?_; rotate_left; (focus (intro x hx; have fx := HX.out x hx; go_simp; (try with_reducible rfl); done)); (try simp only [Act.put, lsa, lsz, lss]))
          (refine tkW 5 (v := ?_) hS ?_ ?_; rotate_left; (focus (intro x hx; have fx := HX.out x hx; go_simp; (try with_reducible rfl); done)); (try simp only [Act.put, lsa, lsz, lss]))
          (refine tkW 6 (v := ?_) hS ?_ ?_; rotate_left; (focus (intro x hx; have fx := HX.out x hx; go_simp; (try with_reducible rfl); done)); (try simp only [Act.put, lsa, lsz, lss]))
          (refine tkW 7 (v := ?_) hS ?_ ?_; rotate_left; (focus (intro x hx; have fx := HX.out x hx; go_simp; (try with_reducible rfl); done)); (try simp only [Act.put, lsa, lsz, lss]))
          (refine tkW 8 (v := ?_) hS ?_ ?_; rotate_left; (focus (intro x hx; have fx := HX.out x hx; go_simp; (try with_reducible rfl); done)); (try simp only [Act.put, lsa, lsz, lss]))
          refine wpAnyH_done (by kernel_rfl) ?_ _
          have hb8 := H8.out _ hS
          have hb9 := H9.out _ hS
          have HB8 := Lib.hid hb8; have HB9 := Lib.hid hb9
          have hszc : wr.heap.size ≤ wc.heap.size := (H9.out _ HSC.out).size
          have hwd := hb9.size
          clear hS hb8 hb9 HX H8 H9 HSC OC HSTEP HS1 HS2
          rcases HST.out with h10 | ⟨h0, hvl, hsub⟩
          · have h10 : ve = 10 := h10
            subst h10
            go_wp2_with fail
            exact bodyPost_ret (v := .bool true) (by simp [results, Tryz.results6, go_sem]) rfl ⟨rfl, B8.out.trans (HB8.out.mono B8.out.size)⟩
          · have h0 : ve = 0 := h0
            subst h0
            have HSUB := Lib.hid hsub; clear hsub HST
            go_wp2_with (at_builtin; go_loud (refine wpList_appN (e := 31) (T := fun _ => True) (base := w8.heap.size) (xs := al) (ys := vl) rfl _ _ eltAtm rfl (by decide) rfl rfl rfl (HOW.out.below HB9.out) rfl (SD.out.wide (fun z _ hz => ⟨trivial, fun e => by have := (HOW.out.lt z e).2; omega⟩) (by decide)) (by omega) (by omega) HB8.out.size ?_); intro Ae ke we howe hge hate)
            have hbe : Below w8.heap.size w8 we := HB8.out.grown hge HB8.out.size (fun z hz => (HOW.out.lt z hz).1)
            have HOE := Lib.hid howe; have HBE := Lib.hid hbe
            have HP2 := Lib.hid (show (∀ a ∈ al ++ vl, a ∈ m1) ∧ ∀ r ∈ l.take (k + 1), (stepS r m1).2 = 0 ∧ ∀ a ∈ (stepS r m1).1, a ∈ al ++ vl from by
              refine ⟨fun a ha => (List.mem_append.1 ha).elim (hP.out.1 a) (HSUB.out a), fun r hr => ?_⟩
              rw [HTK.out] at hr
              rcases List.mem_append.1 hr with hr | hr
              · exact ⟨(hP.out.2 r hr).1, fun a ha => List.mem_append_left _ ((hP.out.2 r hr).2 a ha)⟩
              · rw [List.mem_singleton.1 hr, ← HVV.out]
                exact ⟨rfl, fun a ha => List.mem_append_right _ ha⟩)
            clear howe hge hate hbe HOW HB SD HB8 HB9 HSUB
            go_wp2_with fail
            go_roundw
            case rel => exact ⟨k + 1, by omega, by go_num, al ++ vl, Ae, ke, by simp, HOE.out, by simp; omega, HBE.out, HP2⟩
            case measure => simp [intOf]; omega
        · have hke : k = l.length := by omega
          subst hke
          rw [List.take_length] at hP
          have hwz := hb.size
          have SAL := Lib.hid ((hown.sl (by decide)).wide (S' := fun q => q < wr.heap.size) (fun q hq _ => hq) (by decide))
          have hlal : al.length ≤ 6144 := by omega
          have hlal2 := SAL.out.le
          have HB := Lib.hid hb; have B9 := Lib.hid (B8.out.trans (hb.mono B8.out.size))
          have S9 := Lib.hid (S8.out.below hb); have F9 := Lib.hid (HF.out.below B9.out)
          have HSUP := Lib.hid (HC.out.supp (fun r hr => (hP.out.2 r hr).1))
          have HMEM := Lib.hid (show ∀ a ∈ m1, a ∈ facts ∨ a ∈ al from fun a ha => (HSUP.out a ha).elim .inl fun ⟨r, hr, h⟩ => .inr ((hP.out.2 r hr).2 a h))
          have HALL := Lib.hid (show ∀ a ∈ al ++ facts, a ∈ m1 from fun a ha => (List.mem_append.1 ha).elim (hP.out.1 a) (HC.out.sub a))
          have HORD := Lib.hid HC.out.ord
          clear hown hb hP HSUP S8 S8w F8w HF HS HC HL HO HOF B8 HB
          obtain ⟨W, hW⟩ : ∃ W, W = wr := ⟨_, rfl⟩
          subst hW
          go_wp2_with fail
          refine (ca54_any A9 _ k9 al W _ SAL.out (by omega)).mono ?_
          rintro e wc ⟨Ac, kc, rfl, oc, bc⟩
          have HOC := Lib.hid oc; have BC := Lib.hid bc; clear oc bc
          go_wp2_with (at_builtin; go_loud (refine wpList_appN (e := 31) (T := fun q => q < W.heap.size) (base := W.heap.size) (xs := al) (ys := facts) rfl _ _ eltAtm rfl (by decide) rfl rfl rfl HOC.out rfl ((F9.out.below BC.out).wide (fun z _ hz => ⟨Nat.lt_of_lt_of_le hz B9.out.size, fun e => by have := (HOC.out.lt z e).1; have := B9.out.size; omega⟩) (by decide)) (by omega) (by omega) BC.out.size ?_); intro Ae ke we howe hge hate)
          have hbe : Below W.heap.size W we := BC.out.grown hge BC.out.size (fun z hz => (HOC.out.lt z hz).1)
          have hal : al.length + facts.length = (al ++ facts).length := by simp
          have hla : (al ++ facts).length ≤ 7000 := by rw [← hal]; omega
          have SE := Lib.hid (((howe.sl (by decide)).wide (S' := fun q => q < we.heap.size) (fun q hq _ => hq) (by decide)).cast hal.symm)
          have BE := Lib.hid hbe
          clear howe hge hate hbe HOC BC
          rw [hal] at SE ⊢
          generalize al ++ facts = af at *
          go_wp2_with fail
          go_loopw [66] (fun i wr => ∃ k : Nat, k ≤ af.length ∧ i = .int .i64 k ∧ Below W.heap.size W wr ∧ we.heap.size ≤ wr.heap.size ∧ Below we.heap.size we wr) (fun i _ => af.length - (intOf i).toNat)
          case atStart => exact ⟨0, by omega, rfl, BE.out, Nat.le_refl _, Below.refl _ _⟩
          case round =>
            obtain ⟨k, hk, rfl, hb, hwz2, hb2⟩ := hrel
            have HBW := Lib.hid hb; have HBE := Lib.hid hb2
            have hwr := hb.size
            by_cases hlt : k < af.length
            · have hkI : (k : Int) < (al.length : Int) + (facts.length : Int) := by omega
              obtain ⟨b, o, rfl, -, hbs, D1, q1, f1, g0, g1, hs⟩ := (SE.out.below hb2).atm hlt
              have hmem := HALL.out af[k] (List.getElem_mem hlt)
              generalize af[k] = x at *
              have hhas := fun (w' : World) (hb' : Below W.heap.size W w') (S : Nat → Prop) (hs : Sl w' S D1 q1 f1 x.args) => hasR_any m1 x A8 m1.length k8 D1 q1 f1 w' _ S (S9.out.below hb') hs
              have hv : hasQ m1 x = true := by unfold hasQ; simpa using hmem
              rw [hv] at hhas
              have HS1 := Lib.hid hs; have HH := Lib.hid hhas
              clear hs hb hb2 hmem hv hhas
              go_wp2_with fail
              refine (HH.out _ (HBW.out.alloc hwr _) _ (HS1.out.alloc _)).mono ?_
              rintro e w12 ⟨rfl, b12⟩
              have hbx : Below wr.heap.size wr w12 := boxed.trans (b12.mono (by simp))
              have HBX := Lib.hid hbx
              have hsx := hbx.size
              clear hbx b12 HH HS1 g0 g1
              go_wp2_with fail
              go_roundw
              case rel => exact ⟨k + 1, by omega, by go_num, HBW.out.trans (HBX.out.mono hwr), by omega, HBE.out.trans (HBX.out.mono hwz2)⟩
              case measure => simp [intOf]; omega
            · have hkI : ¬ (k : Int) < (al.length : Int) + (facts.length : Int) := by omega
              clear hb hb2 SE
              go_wp2_with fail
              clear HALL
              obtain ⟨V, hVW⟩ : ∃ V, V = wr := ⟨_, rfl⟩
              subst hVW
              have HBV := Lib.hid HBW.out
              clear HBE HBW BE hwz2
              go_loopw [77] (fun i wr => ∃ k : Nat, k ≤ m1.length ∧ i = .int .i64 k ∧ Below W.heap.size W wr) (fun i _ => m1.length - (intOf i).toNat)
              case atStart => exact ⟨0, by omega, rfl, HBV.out⟩
              case round =>
                obtain ⟨i, hi, rfl, hb⟩ := hrel
                have hwr := hb.size
                by_cases hli : i < m1.length
                · obtain ⟨b, o, rfl, -, hbs, D1, q1, f1, g0, g1, hs⟩ := (S9.out.below hb).atm hli
                  have HB := Lib.hid hb; have HS1 := Lib.hid hs
                  cases i with
                  | zero =>
                    clear hb hs
                    simp only [Nat.zero_mul, Nat.add_zero] at g0 g1
                    go_wp2_with fail
                    have hbx : Below W.heap.size W (wr.alloc (.cells #[.string ⟨m1[0].name.toArray⟩, .slice D1 q1 f1] 31)) := HB.out.alloc hwr _
                    have hbb : Below wr.heap.size wr (wr.alloc (.cells #[.string ⟨m1[0].name.toArray⟩, .slice D1 q1 f1] 31)) := boxed
                    have hbk := blkAt wr (.cells #[.string ⟨m1[0].name.toArray⟩, .slice D1 q1 f1] 31) rfl
                    have hs2 := HS1.out.alloc (.cells #[.string ⟨m1[0].name.toArray⟩, .slice D1 q1 f1] 31)
                    generalize wr.alloc (.cells #[.string ⟨m1[0].name.toArray⟩, .slice D1 q1 f1] 31) = W2 at *
                    have hw2 := hbx.size
                    have HX := Lib.hid (fun (z : World) (hz : Below W2.heap.size W2 z) => And.intro ((cell_blk (keptBlk hz hbk) 0).trans rfl) ((cell_blk (keptBlk hz hbk) 1).trans rfl))
                    have h8 : ∀ z, Below W2.heap.size W2 z → Below W.heap.size W z := fun z hz => hbx.trans (hz.mono hw2)
                    have H8 := Lib.hid h8; have HS2 := Lib.hid hs2
                    have hmem := HMEM.out m1[0] (List.getElem_mem hli)
                    have hf1 := fun z (hz : Below W2.heap.size W2 z) => hasR_any facts m1[0] B facts.length d D1 q1 f1 z _ _ (F9.out.below (h8 z hz)) (hs2.below hz)
                    have hf2 := fun z (hz : Below W2.heap.size W2 z) => hasR_any al m1[0] A9 al.length k9 D1 q1 f1 z _ _ (SAL.out.below (h8 z hz)) (hs2.below hz)
                    have HF1 := Lib.hid hf1; have HF2 := Lib.hid hf2; have HM2 := Lib.hid hmem
                    clear hbx hbb hbk hs2 h8 hf1 hf2 hmem g0 g1 HS1
                    refine wpH_region (fun z => Below W2.heap.size W2 z) (by kernel_rfl) ?_
                    have hS : Below W2.heap.size W2 W2.drew := (Below.refl _ _).drew
                    (refine tkW 0 (v := ?_) hS ?_ ?_; rotate_left; (focus (intro x hx; have fx := HX.out x hx; go_simp; (try with_reducible rfl); done)); (try simp only [Act.put, lsa, lsz, lss]))
                    (refine tkW 1 (v := ?_) hS ?_ ?_; rotate_left; (focus (intro x hx; have fx := HX.out x hx; go_simp; (try with_reducible rfl); done)); (try simp only [Act.put, lsa, lsz, lss]))
                    (refine wpAnyH_one 2 (by kernel_rfl) rfl ?_; intro K' hK'; go_simp; refine (HF1.out _ hS).mono ?_; rintro e u1 ⟨rfl, r1⟩; have hS := hS.trans (r1.mono hS.size); refine hK'.out _ _ hS ?_; clear hK' K')
                    cases hc : hasQ facts m1[0]
                    case false =>
                      have hal2 : hasQ al m1[0] = true := by unfold hasQ at hc ⊢; exact HM2.out.elim (fun h => absurd (List.contains_iff_mem.2 h) (by rw [hc]; simp)) (fun h => List.contains_iff_mem.2 h)
                      rw [hal2] at HF2
                      clear hc hal2
                      (refine tkW 3 (v := ?_) hS ?_ ?_; rotate_left; (focus (intro x hx; have fx := HX.out x hx; go_simp; (try with_reducible rfl); done)); (try simp only [Act.put, lsa, lsz, lss]))
                      (refine tkW 4 (v := ?_) hS ?_ ?_; rotate_left; (focus (intro x hx; have fx := HX.out x hx; go_simp; (try with_reducible rfl); done)); (try simp only [Act.put, lsa, lsz, lss]))
                      (refine tkW 5 (v := ?_) hS ?_ ?_; rotate_left; (focus (intro x hx; have fx := HX.out x hx; go_simp; (try with_reducible rfl); done)); (try simp only [Act.put, lsa, lsz, lss]))
                      (refine tkW 6 (v := ?_) hS ?_ ?_; rotate_left; (focus (intro x hx; have fx := HX.out x hx; go_simp; (try with_reducible rfl); done)); (try simp only [Act.put, lsa, lsz, lss]))
                      (refine wpAnyH_one 7 (by kernel_rfl) rfl ?_; intro K' hK'; go_simp; refine (HF2.out _ hS).mono ?_; rintro e u2 ⟨rfl, r2⟩; have hS := hS.trans (r2.mono hS.size); refine hK'.out _ _ hS ?_; clear hK' K')
                      (refine tkW 8 (v := ?_) hS ?_ ?_; rotate_left; (focus (intro x hx; have fx := HX.out x hx; go_simp; (try with_reducible rfl); done)); (try simp only [Act.put, lsa, lsz, lss]))
                      (refine tkW 9 (v := ?_) hS ?_ ?_; rotate_left; (focus (intro x hx; have fx := HX.out x hx; go_simp; (try with_reducible rfl); done)); (try simp only [Act.put, lsa, lsz, lss]))
                      (refine tkW 10 (v := ?_) hS ?_ ?_; rotate_left; (focus (intro x hx; have fx := HX.out x hx; go_simp; (try with_reducible rfl); done)); (try simp only [Act.put, lsa, lsz, lss]))
                      (refine tkW 11 (v := ?_) hS ?_ ?_; rotate_left; (focus (intro x hx; have fx := HX.out x hx; go_simp; (try with_reducible rfl); done)); (try simp only [Act.put, lsa, lsz, lss]))
                      (refine tkW 12 (v := ?_) hS ?_ ?_; rotate_left; (focus (intro x hx; have fx := HX.out x hx; go_simp; (try with_reducible rfl); done)); (try simp only [Act.put, lsa, lsz, lss]))
                      (refine tkW 13 (v := ?_) hS ?_ ?_; rotate_left; (focus (intro x hx; have fx := HX.out x hx; go_simp; (try with_reducible rfl); done)); (try simp only [Act.put, lsa, lsz, lss]))
                      (refine tkU 14 hS ?_; (try simp only [Act.put, lsa, lsz, lss]))
                      (refine tkU 15 hS ?_; (try simp only [Act.put, lsa, lsz, lss]))
                      (refine tkU 16 hS ?_; (try simp only [Act.put, lsa, lsz, lss]))
                      (refine tkU 17 hS ?_; (try simp only [Act.put, lsa, lsz, lss]))
                      (refine tkU 18 hS ?_; (try simp only [Act.put, lsa, lsz, lss]))
                      (refine tkU 19 hS ?_; (try simp only [Act.put, lsa, lsz, lss]))
                      (refine tkU 20 hS ?_; (try simp only [Act.put, lsa, lsz, lss]))
                      (refine tkU 21 hS ?_; (try simp only [Act.put, lsa, lsz, lss]))
                      (refine tkW 22 (v := ?_) hS ?_ ?_; rotate_left; (focus (intro x hx; have fx := HX.out x hx; go_simp; (try with_reducible rfl); done)); (try simp only [Act.put, lsa, lsz, lss]))
                      (refine tkW 23 (v := ?_) hS ?_ ?_; rotate_left; (focus (intro x hx; have fx := HX.out x hx; go_simp; (try with_reducible rfl); done)); (try simp only [Act.put, lsa, lsz, lss]))
                      refine wpAnyH_done (by kernel_rfl) ?_ _
                      have HB7 := Lib.hid (H8.out _ hS)
                      clear hS HX
                      go_wp2_with fail
                      go_roundw
                      case rel => exact ⟨0 + 1, by omega, by go_num, HB7.out⟩
                      case measure => simp [intOf]; omega
                    case true =>
                      clear hc
                      (refine tkW 3 (v := ?_) hS ?_ ?_; rotate_left; (focus (intro x hx; have fx := HX.out x hx; go_simp; (try with_reducible rfl); done)); (try simp only [Act.put, lsa, lsz, lss]))
                      (refine tkW 4 (v := ?_) hS ?_ ?_; rotate_left; (focus (intro x hx; have fx := HX.out x hx; go_simp; (try with_reducible rfl); done)); (try simp only [Act.put, lsa, lsz, lss]))
                      (refine tkU 5 hS ?_; (try simp only [Act.put, lsa, lsz, lss]))
                      (refine tkU 6 hS ?_; (try simp only [Act.put, lsa, lsz, lss]))
                      (refine tkU 7 hS ?_; (try simp only [Act.put, lsa, lsz, lss]))
                      (refine tkU 8 hS ?_; (try simp only [Act.put, lsa, lsz, lss]))
                      (refine tkW 9 (v := ?_) hS ?_ ?_; rotate_left; (focus (intro x hx; have fx := HX.out x hx; go_simp; (try with_reducible rfl); done)); (try simp only [Act.put, lsa, lsz, lss]))
                      (refine tkW 10 (v := ?_) hS ?_ ?_; rotate_left; (focus (intro x hx; have fx := HX.out x hx; go_simp; (try with_reducible rfl); done)); (try simp only [Act.put, lsa, lsz, lss]))
                      (refine tkW 11 (v := ?_) hS ?_ ?_; rotate_left; (focus (intro x hx; have fx := HX.out x hx; go_simp; (try with_reducible rfl); done)); (try simp only [Act.put, lsa, lsz, lss]))
                      (refine tkW 12 (v := ?_) hS ?_ ?_; rotate_left; (focus (intro x hx; have fx := HX.out x hx; go_simp; (try with_reducible rfl); done)); (try simp only [Act.put, lsa, lsz, lss]))
                      (refine tkW 13 (v := ?_) hS ?_ ?_; rotate_left; (focus (intro x hx; have fx := HX.out x hx; go_simp; (try with_reducible rfl); done)); (try simp only [Act.put, lsa, lsz, lss]))
                      (refine tkU 14 hS ?_; (try simp only [Act.put, lsa, lsz, lss]))
                      (refine tkU 15 hS ?_; (try simp only [Act.put, lsa, lsz, lss]))
                      (refine tkU 16 hS ?_; (try simp only [Act.put, lsa, lsz, lss]))
                      (refine tkU 17 hS ?_; (try simp only [Act.put, lsa, lsz, lss]))
                      (refine tkU 18 hS ?_; (try simp only [Act.put, lsa, lsz, lss]))
                      (refine tkU 19 hS ?_; (try simp only [Act.put, lsa, lsz, lss]))
                      (refine tkU 20 hS ?_; (try simp only [Act.put, lsa, lsz, lss]))
                      (refine tkU 21 hS ?_; (try simp only [Act.put, lsa, lsz, lss]))
                      (refine tkW 22 (v := ?_) hS ?_ ?_; rotate_left; (focus (intro x hx; have fx := HX.out x hx; go_simp; (try with_reducible rfl); done)); (try simp only [Act.put, lsa, lsz, lss]))
                      (refine tkW 23 (v := ?_) hS ?_ ?_; rotate_left; (focus (intro x hx; have fx := HX.out x hx; go_simp; (try with_reducible rfl); done)); (try simp only [Act.put, lsa, lsz, lss]))
                      refine wpAnyH_done (by kernel_rfl) ?_ _
                      have HB7 := Lib.hid (H8.out _ hS)
                      clear hS HX
                      go_wp2_with fail
                      go_roundw
                      case rel => exact ⟨0 + 1, by omega, by go_num, HB7.out⟩
                      case measure => simp [intOf]; omega
                  | succ j =>
                    obtain ⟨_, _, hAA, -, -, D0, q0, f0, p0, p1, hsp⟩ := (S9.out.below hb).atm (k := j) (by omega)
                    obtain ⟨rfl, rfl⟩ : b = _ ∧ o = _ := by simpa using hAA
                    have hj1 : (j : Int) < (m1.length : Int) := by omega
                    have hj0 : (0 : Int) ≤ (j : Int) := by omega
                    have hwj : IntKind.i64.wrap (j : Int) = (j : Int) := by simp [IntKind.wrap, IntKind.signed, IntKind.bits]; omega
                    clear hb hs hAA
                    go_wp2_with fail
                    have hbx : Below W.heap.size W (wr.alloc (.cells #[.string ⟨m1[j + 1].name.toArray⟩, .slice D1 q1 f1] 31)) := HB.out.alloc hwr _
                    have hbb : Below wr.heap.size wr (wr.alloc (.cells #[.string ⟨m1[j + 1].name.toArray⟩, .slice D1 q1 f1] 31)) := boxed
                    have hbk := blkAt wr (.cells #[.string ⟨m1[j + 1].name.toArray⟩, .slice D1 q1 f1] 31) rfl
                    have hs2 := HS1.out.alloc (.cells #[.string ⟨m1[j + 1].name.toArray⟩, .slice D1 q1 f1] 31)
                    generalize wr.alloc (.cells #[.string ⟨m1[j + 1].name.toArray⟩, .slice D1 q1 f1] 31) = W2 at *
                    have hw2 := hbx.size
                    have HX := Lib.hid (fun (z : World) (hz : Below W2.heap.size W2 z) => And.intro ((cell_blk (keptBlk hz hbk) 0).trans rfl) (And.intro ((cell_blk (keptBlk hz hbk) 1).trans rfl) (And.intro (cell_later (hbb.trans (hz.mono hbb.size)) p0) (cell_later (hbb.trans (hz.mono hbb.size)) p1))))
                    have h8 : ∀ z, Below W2.heap.size W2 z → Below W.heap.size W z := fun z hz => hbx.trans (hz.mono hw2)
                    have H8 := Lib.hid h8; have HS2 := Lib.hid hs2
                    have hmem := HMEM.out m1[j + 1] (List.getElem_mem hli)
                    have hf1 := fun z (hz : Below W2.heap.size W2 z) => hasR_any facts m1[j + 1] B facts.length d D1 q1 f1 z _ _ (F9.out.below (h8 z hz)) (hs2.below hz)
                    have hf2 := fun z (hz : Below W2.heap.size W2 z) => hasR_any al m1[j + 1] A9 al.length k9 D1 q1 f1 z _ _ (SAL.out.below (h8 z hz)) (hs2.below hz)
                    have hor := fun z (hz : Below W2.heap.size W2 z) => rorder_any m1[j] m1[j + 1] D0 q0 f0 D1 q1 f1 z _ _ (hsp.below (hbb.trans (hz.mono hbb.size))) (hs2.below hz)
                    rw [HORD.out j hli] at hor
                    have HOR := Lib.hid hor; clear hor
                    have HF1 := Lib.hid hf1; have HF2 := Lib.hid hf2; have HM2 := Lib.hid hmem
                    clear hbx hbb hbk hs2 h8 hf1 hf2 hmem g0 g1 HS1
                    refine wpH_region (fun z => Below W2.heap.size W2 z) (by kernel_rfl) ?_
                    have hS : Below W2.heap.size W2 W2.drew := (Below.refl _ _).drew
                    (refine tkW 0 (v := ?_) hS ?_ ?_; rotate_left; (focus (intro x hx; have fx := HX.out x hx; go_simp; (try with_reducible rfl); done)); (try simp only [Act.put, lsa, lsz, lss]))
                    (refine tkW 1 (v := ?_) hS ?_ ?_; rotate_left; (focus (intro x hx; have fx := HX.out x hx; go_simp; (try with_reducible rfl); done)); (try simp only [Act.put, lsa, lsz, lss]))
                    (refine wpAnyH_one 2 (by kernel_rfl) rfl ?_; intro K' hK'; go_simp; refine (HF1.out _ hS).mono ?_; rintro e u1 ⟨rfl, r1⟩; have hS := hS.trans (r1.mono hS.size); refine hK'.out _ _ hS ?_; clear hK' K')
                    cases hc : hasQ facts m1[j + 1]
                    case false =>
                      have hal2 : hasQ al m1[j + 1] = true := by unfold hasQ at hc ⊢; exact HM2.out.elim (fun h => absurd (List.contains_iff_mem.2 h) (by rw [hc]; simp)) (fun h => List.contains_iff_mem.2 h)
                      rw [hal2] at HF2
                      clear hc hal2
                      (refine tkW 3 (v := ?_) hS ?_ ?_; rotate_left; (focus (intro x hx; have fx := HX.out x hx; go_simp; (try with_reducible rfl); done)); (try simp only [Act.put, lsa, lsz, lss]))
                      (refine tkW 4 (v := ?_) hS ?_ ?_; rotate_left; (focus (intro x hx; have fx := HX.out x hx; go_simp; (try with_reducible rfl); done)); (try simp only [Act.put, lsa, lsz, lss]))
                      (refine tkW 5 (v := ?_) hS ?_ ?_; rotate_left; (focus (intro x hx; have fx := HX.out x hx; go_simp; (try with_reducible rfl); done)); (try simp only [Act.put, lsa, lsz, lss]))
                      (refine tkW 6 (v := ?_) hS ?_ ?_; rotate_left; (focus (intro x hx; have fx := HX.out x hx; go_simp; (try with_reducible rfl); done)); (try simp only [Act.put, lsa, lsz, lss]))
                      (refine wpAnyH_one 7 (by kernel_rfl) rfl ?_; intro K' hK'; go_simp; refine (HF2.out _ hS).mono ?_; rintro e u2 ⟨rfl, r2⟩; have hS := hS.trans (r2.mono hS.size); refine hK'.out _ _ hS ?_; clear hK' K')
                      (refine tkW 8 (v := ?_) hS ?_ ?_; rotate_left; (focus (intro x hx; have fx := HX.out x hx; go_simp; (try with_reducible rfl); done)); (try simp only [Act.put, lsa, lsz, lss]))
                      (refine tkW 9 (v := ?_) hS ?_ ?_; rotate_left; (focus (intro x hx; have fx := HX.out x hx; go_simp; (try with_reducible rfl); done)); (try simp only [Act.put, lsa, lsz, lss]))
                      (refine tkW 10 (v := ?_) hS ?_ ?_; rotate_left; (focus (intro x hx; have fx := HX.out x hx; go_simp; (try with_reducible rfl); done)); (try simp only [Act.put, lsa, lsz, lss]))
                      (refine tkW 11 (v := ?_) hS ?_ ?_; rotate_left; (focus (intro x hx; have fx := HX.out x hx; go_simp; (try with_reducible rfl); done)); (try simp only [Act.put, lsa, lsz, lss]))
                      (refine tkW 12 (v := ?_) hS ?_ ?_; rotate_left; (focus (intro x hx; have fx := HX.out x hx; go_simp; (try with_reducible rfl); done)); (try simp only [Act.put, lsa, lsz, lss]))
                      (refine tkW 13 (v := ?_) hS ?_ ?_; rotate_left; (focus (intro x hx; have fx := HX.out x hx; go_simp; (try with_reducible rfl); done)); (try simp only [Act.put, lsa, lsz, lss]))
                      (refine tkW 14 (v := ?_) hS ?_ ?_; rotate_left; (focus (intro x hx; have fx := HX.out x hx; go_simp; (try with_reducible rfl); done)); (try simp only [Act.put, lsa, lsz, lss]))
                      (refine tkW 15 (v := ?_) hS ?_ ?_; rotate_left; (focus (intro x hx; have fx := HX.out x hx; go_simp; (try with_reducible rfl); done)); (try simp only [Act.put, lsa, lsz, lss]))
                      (refine tkW 16 (v := ?_) hS ?_ ?_; rotate_left; (focus (intro x hx; have fx := HX.out x hx; go_simp; (try with_reducible rfl); done)); (try simp only [Act.put, lsa, lsz, lss]))
                      (refine tkW 17 (v := ?_) hS ?_ ?_; rotate_left; (focus (intro x hx; have fx := HX.out x hx; go_simp; (try with_reducible rfl); done)); (try simp only [Act.put, lsa, lsz, lss]))
                      (refine tkW 18 (v := ?_) hS ?_ ?_; rotate_left; (focus (intro x hx; have fx := HX.out x hx; go_simp; (try with_reducible rfl); done)); (try simp only [Act.put, lsa, lsz, lss]))
                      (refine tkW 19 (v := ?_) hS ?_ ?_; rotate_left; (focus (intro x hx; have fx := HX.out x hx; go_simp; (try with_reducible rfl); done)); (try simp only [Act.put, lsa, lsz, lss]))
                      (refine wpAnyH_one 20 (by kernel_rfl) rfl ?_; intro K' hK'; go_simp; refine (HOR.out _ hS).mono ?_; rintro e u3 ⟨rfl, r3⟩; have hS := hS.trans (r3.mono hS.size); refine hK'.out _ _ hS ?_; clear hK' K')
                      (refine tkW 21 (v := ?_) hS ?_ ?_; rotate_left; (focus (intro x hx; have fx := HX.out x hx; go_simp; (try with_reducible rfl); done)); (try simp only [Act.put, lsa, lsz, lss]))
                      (refine tkW 22 (v := ?_) hS ?_ ?_; rotate_left; (focus (intro x hx; have fx := HX.out x hx; go_simp; (try with_reducible rfl); done)); (try simp only [Act.put, lsa, lsz, lss]))
                      (refine tkW 23 (v := ?_) hS ?_ ?_; rotate_left; (focus (intro x hx; have fx := HX.out x hx; go_simp; (try with_reducible rfl); done)); (try simp only [Act.put, lsa, lsz, lss]))
                      refine wpAnyH_done (by kernel_rfl) ?_ _
                      have HB7 := Lib.hid (H8.out _ hS)
                      clear hS HX
                      go_wp2_with fail
                      go_roundw
                      case rel => exact ⟨j + 1 + 1, by omega, by go_num, HB7.out⟩
                      case measure => simp [intOf]; omega
                    case true =>
                      clear hc
                      (refine tkW 3 (v := ?_) hS ?_ ?_; rotate_left; (focus (intro x hx; have fx := HX.out x hx; go_simp; (try with_reducible rfl); done)); (try simp only [Act.put, lsa, lsz, lss]))
                      (refine tkW 4 (v := ?_) hS ?_ ?_; rotate_left; (focus (intro x hx; have fx := HX.out x hx; go_simp; (try with_reducible rfl); done)); (try simp only [Act.put, lsa, lsz, lss]))
                      (refine tkU 5 hS ?_; (try simp only [Act.put, lsa, lsz, lss]))
                      (refine tkU 6 hS ?_; (try simp only [Act.put, lsa, lsz, lss]))
                      (refine tkU 7 hS ?_; (try simp only [Act.put, lsa, lsz, lss]))
                      (refine tkU 8 hS ?_; (try simp only [Act.put, lsa, lsz, lss]))
                      (refine tkW 9 (v := ?_) hS ?_ ?_; rotate_left; (focus (intro x hx; have fx := HX.out x hx; go_simp; (try with_reducible rfl); done)); (try simp only [Act.put, lsa, lsz, lss]))
                      (refine tkW 10 (v := ?_) hS ?_ ?_; rotate_left; (focus (intro x hx; have fx := HX.out x hx; go_simp; (try with_reducible rfl); done)); (try simp only [Act.put, lsa, lsz, lss]))
                      (refine tkW 11 (v := ?_) hS ?_ ?_; rotate_left; (focus (intro x hx; have fx := HX.out x hx; go_simp; (try with_reducible rfl); done)); (try simp only [Act.put, lsa, lsz, lss]))
                      (refine tkW 12 (v := ?_) hS ?_ ?_; rotate_left; (focus (intro x hx; have fx := HX.out x hx; go_simp; (try with_reducible rfl); done)); (try simp only [Act.put, lsa, lsz, lss]))
                      (refine tkW 13 (v := ?_) hS ?_ ?_; rotate_left; (focus (intro x hx; have fx := HX.out x hx; go_simp; (try with_reducible rfl); done)); (try simp only [Act.put, lsa, lsz, lss]))
                      (refine tkW 14 (v := ?_) hS ?_ ?_; rotate_left; (focus (intro x hx; have fx := HX.out x hx; go_simp; (try with_reducible rfl); done)); (try simp only [Act.put, lsa, lsz, lss]))
                      (refine tkW 15 (v := ?_) hS ?_ ?_; rotate_left; (focus (intro x hx; have fx := HX.out x hx; go_simp; (try with_reducible rfl); done)); (try simp only [Act.put, lsa, lsz, lss]))
                      (refine tkW 16 (v := ?_) hS ?_ ?_; rotate_left; (focus (intro x hx; have fx := HX.out x hx; go_simp; (try with_reducible rfl); done)); (try simp only [Act.put, lsa, lsz, lss]))
                      (refine tkW 17 (v := ?_) hS ?_ ?_; rotate_left; (focus (intro x hx; have fx := HX.out x hx; go_simp; (try with_reducible rfl); done)); (try simp only [Act.put, lsa, lsz, lss]))
                      (refine tkW 18 (v := ?_) hS ?_ ?_; rotate_left; (focus (intro x hx; have fx := HX.out x hx; go_simp; (try with_reducible rfl); done)); (try simp only [Act.put, lsa, lsz, lss]))
                      (refine tkW 19 (v := ?_) hS ?_ ?_; rotate_left; (focus (intro x hx; have fx := HX.out x hx; go_simp; (try with_reducible rfl); done)); (try simp only [Act.put, lsa, lsz, lss]))
                      (refine wpAnyH_one 20 (by kernel_rfl) rfl ?_; intro K' hK'; go_simp; refine (HOR.out _ hS).mono ?_; rintro e u3 ⟨rfl, r3⟩; have hS := hS.trans (r3.mono hS.size); refine hK'.out _ _ hS ?_; clear hK' K')
                      (refine tkW 21 (v := ?_) hS ?_ ?_; rotate_left; (focus (intro x hx; have fx := HX.out x hx; go_simp; (try with_reducible rfl); done)); (try simp only [Act.put, lsa, lsz, lss]))
                      (refine tkW 22 (v := ?_) hS ?_ ?_; rotate_left; (focus (intro x hx; have fx := HX.out x hx; go_simp; (try with_reducible rfl); done)); (try simp only [Act.put, lsa, lsz, lss]))
                      (refine tkW 23 (v := ?_) hS ?_ ?_; rotate_left; (focus (intro x hx; have fx := HX.out x hx; go_simp; (try with_reducible rfl); done)); (try simp only [Act.put, lsa, lsz, lss]))
                      refine wpAnyH_done (by kernel_rfl) ?_ _
                      have HB7 := Lib.hid (H8.out _ hS)
                      clear hS HX
                      go_wp2_with fail
                      go_roundw
                      case rel => exact ⟨j + 1 + 1, by omega, by go_num, HB7.out⟩
                      case measure => simp [intOf]; omega
                · have HB := Lib.hid (B9.out.trans (hb.mono B9.out.size))
                  clear hb
                  go_wp2_with fail
                  exact bodyPost_ret (v := .bool true) (by simp [results, Tryz.results6, go_sem]) rfl ⟨rfl, HB.out⟩
    · have hb1 := ne_err h1
      have hnil := HN.out h1
      subst hnil
      clear h1
      go_wp2_with fail
      exact bodyPost_ret (v := .bool true) (by simp [results, Tryz.results6, go_sem]) rfl ⟨rfl, B8.out⟩
end Go.Proofs.YtkjoaodoioicpaaGreatDoor
