/- A part of the proofs of the laws of one package; see the law's own text, which comes last in 'order'. No conditions of its own. -/
import Derived.Test.YtpeamehplhpcjaaGreatDoorZ13
import Derived.Test.YtpeamehplhpcjaaGreatDoorZ29
set_option linter.unusedVariables false
set_option linter.unusedSimpArgs false
namespace Go.Proofs.YtpeamehplhpcjaaGreatDoor
open Go.RowKit
set_option maxRecDepth 100000 in
set_option maxHeartbeats 4000000 in
theorem rundef_any (W : World) (M : Nat → Prop) (B g : Nat) (t : List Fil) (p : Bs) (s : Rst) (q : RcP) (H : RcB W M B g q t p s) (x : Bs) (hF : s.flags.length ≤ 1000000) (hN : s.macros.length ≤ 1000000) :
    Calls Tryz.prog 141 #[.pointer (some ⟨g, 0, none⟩), .string ⟨x.toArray⟩] W fun e w' => RcR W M B g q t p (.int .i64 (rundef s x).2) (rundef s x).1 e w' := by
  have hde := rdefined_any W M B g t p s ⟨q, H⟩ x
  have hg := H.lt g (H.own g (.inl rfl))
  obtain ⟨V, hV⟩ : ∃ V, V = rundef s x := ⟨_, rfl⟩
  rw [← hV]
  unfold rundef at hV
  cases hd : rdefined s x with
  | false =>
    rw [hd] at hV hde
    have HDE := Lib.hid hde
    have HV := Lib.hid (show V = (s, 7) from hV)
    have HH := Lib.hid H
    clear hV hde H hd
    go_enter Tryz.func141, Tryz.ntmps141
    go_wp2_with fail
    refine HDE.out.mono ?_
    rintro e w1 ⟨rfl, hb1⟩
    have HB1 := Lib.hid hb1
    clear hb1
    go_wp2_with fail
    go_ret
    rw [HV.out]
    exact ⟨rfl, M, q, HH.out.below HB1.out, RcT.below M g q HB1.out⟩
  | true =>
    rw [hd] at hV hde
    have hV2 : V = ({ s with flags := s.flags.filter (fun y => y != x), macros := s.macros.filter (fun m => m.name != x) }, 0) := hV
    obtain ⟨vf, hvf⟩ : ∃ vf, vf = s.flags.filter (fun y => y != x) := ⟨_, rfl⟩
    obtain ⟨vm, hvm⟩ : ∃ vm, vm = s.macros.filter (fun m => m.name != x) := ⟨_, rfl⟩
    rw [← hvf, ← hvm] at hV2
    have hfl := H.flags; have hma := H.macs; have hcc := H.cells
    have hfn := hfl.len; have hmn := hma.len
    have hfe := hfl.le; have hme := hma.le
    have Hf : Hid (vf = [] ++ (s.flags.drop 0).filter (fun y => y != x)) := Lib.hid hvf
    have Hm : Hid (vm = [] ++ (s.macros.drop 0).filter (fun m => m.name != x)) := Lib.hid hvm
    have HDE := Lib.hid hde; have HV := Lib.hid hV2; have HH := Lib.hid H; have HFL := Lib.hid hfl; have HMA := Lib.hid (hma.wide (S' := fun k => ¬ M k ∧ k < W.heap.size) (fun k hk h => ⟨h, hk⟩) (by decide))
    have HML := Lib.hid (fun k hk => H.lt k hk)
    obtain ⟨tA, tn, tc, fA, fn, fc, mA, mn, mc, iA, ic, hA, hn, hc, lA, ln, lc, oA, oc⟩ := q
    unfold rcC at hcc
    simp only at hcc hfn hmn hfl hma HFL HMA
    obtain ⟨fl, hfl2⟩ : ∃ fl, fl = s.flags := ⟨_, rfl⟩
    obtain ⟨ms, hms2⟩ : ∃ ms, ms = s.macros := ⟨_, rfl⟩
    rw [← hfl2] at hF hfn HFL Hf
    rw [← hms2] at hN hmn HMA Hm
    obtain ⟨its, hits⟩ : ∃ l : Nat, l = s.items.length := ⟨_, rfl⟩
    obtain ⟨ops, hops⟩ : ∃ l : Nat, l = s.opn.length := ⟨_, rfl⟩
    obtain ⟨co, hco⟩ : ∃ l : Nat, l = s.count := ⟨_, rfl⟩
    rw [← hits, ← hops, ← hco] at hcc
    have HEQ := Lib.hid (And.intro hfl2 (And.intro hms2 (And.intro hits (And.intro hops hco))))
    have HC := Lib.hid hcc
    clear hfl2 hms2 hits hops hco hcc hvf hvm hV hV2 hde H hd hfl hma
    subst hfn hmn
    go_enter Tryz.func141, Tryz.ntmps141
    go_wp2_with fail
    refine HDE.out.mono ?_
    rintro e w1 ⟨rfl, hb1⟩
    have HB1 := Lib.hid hb1
    have c2 := (cell_blk (keptBlk hb1 HC.out) 2).trans rfl
    clear hb1 HDE
    go_wp2_with fail
    clear c2
    go_loopw [5, 21] (fun o i wr => ∃ (k : Nat) (out : List Bs) (A' : Option Addr) (c' : Nat), k ≤ fl.length ∧ o = .slice A' out.length c' ∧ i = .int .i64 k ∧ out.length ≤ k ∧ Own wr (fun _ => False) W.heap.size 9 A' c' out ∧ Below W.heap.size W wr ∧ Hid (vf = out ++ (fl.drop k).filter (fun y => y != x))) (fun _ i _ => fl.length - (intOf i).toNat)
    case atStart => exact ⟨0, [], none, 0, by omega, rfl, rfl, by simp, Own.nil _ _ _ _, HB1.out, Hf⟩
    case round =>
      obtain ⟨k, out, A', c', hk, rfl, rfl, hol, ho, hb, hf⟩ := hrel
      by_cases hlt : k < fl.length
      · obtain ⟨b, o, rfl, -, hbs, d0⟩ := (HFL.out.below hb).str hlt
        have hd := hf.out
        rw [drop_get hlt, List.filter_cons] at hd
        clear hf
        generalize fl[k] = y at *
        have HO := Lib.hid ho; have HB := Lib.hid hb
        have hsW := hb.size
        clear ho hb
        cases hxe : (y == x) with
        | false =>
          have hx : (y != x) = true := by rw [bne, hxe]; rfl
          have HD : Hid (vf = (out ++ [y]) ++ (fl.drop (k + 1)).filter (fun y => y != x)) := Lib.hid (by rw [hd, hx]; simp)
          clear hd
          go_wp2_with (at_builtin; go_loud (refine wpList_app1 rfl _ _ eltStr rfl (by decide) rfl rfl rfl (HO.out.alloc _) rfl [.string ⟨y.toArray⟩] y (blkAt _ _ (by simp)) rfl rfl (by omega) (by omega) (by simp; omega) ?_); intro A9 c9 w9 hown9 hg9 hat9)
          have hbl9 := (HB.out.alloc HB.out.size _).grown hg9 (by simp; omega) (fun k hk => by have := (HO.out.lt k hk).1; omega)
          go_roundw
          case rel => exact ⟨k + 1, out ++ [y], A9, c9, by omega, (by rw [List.length_append]; rfl), by go_num, by simp; omega, hown9, hbl9, HD⟩
          case measure => simp [intOf]; omega
        | true =>
          have hx : (y != x) = false := by rw [bne, hxe]; rfl
          have HD : Hid (vf = out ++ (fl.drop (k + 1)).filter (fun y => y != x)) := Lib.hid (by rw [hd, hx]; simp)
          clear hd
          go_wp2_with fail
          go_roundw
          case rel => exact ⟨k + 1, out, A', c', by omega, rfl, by go_num, by omega, HO.out, HB.out, HD⟩
          case measure => simp [intOf]; omega
      · have hd := hf.out
        rw [drop_end hlt] at hd
        have HO := Lib.hid ho; have HB := Lib.hid hb
        have HVF := Lib.hid (show vf = out by rw [hd]; simp)
        have c3 := (cell_blk (keptBlk hb HC.out) 3).trans rfl
        have hsW := hb.size
        clear hd hf ho hb
        go_wp2_with fail
        clear c3
        generalize wr = wa at *
        go_loopw [8, 39] (fun o i wz => ∃ (k : Nat) (out2 : List Mac) (A2 : Option Addr) (c2 : Nat), k ≤ ms.length ∧ o = .slice A2 out2.length c2 ∧ i = .int .i64 k ∧ out2.length ≤ k ∧ Own wz (fun k => ¬ M k ∧ k < W.heap.size) wa.heap.size 63 A2 c2 out2 ∧ Below wa.heap.size wa wz ∧ Hid (vm = out2 ++ (ms.drop k).filter (fun m => m.name != x))) (fun _ i _ => ms.length - (intOf i).toNat)
        case atStart => exact ⟨0, [], none, 0, by omega, rfl, rfl, by simp, Own.nil _ _ _ _, Below.refl _ _, Hm⟩
        case round =>
          obtain ⟨k2, out2, A2, c2, hk2, rfl, rfl, hol2, ho2, hb2, hf2⟩ := hrel
          by_cases hlt2 : k2 < ms.length
          · obtain ⟨b, o, rfl, -, hbs, A1, n1, e1, d0, d1, d2, d3, d4, hpar⟩ := ((HMA.out.below HB.out).below hb2).mac hlt2
            have hd := hf2.out
            rw [drop_get hlt2, List.filter_cons] at hd
            clear hf2
            generalize ms[k2] = m at *
            have HO2 := Lib.hid (ho2.alloc (.cells #[.string ⟨m.name.toArray⟩, .slice A1 n1 e1, .string ⟨m.body.path.toArray⟩, .int .i64 m.body.fr, .int .i64 m.body.tu] 63))
            have HB2 := Lib.hid (hb2.alloc hb2.size (.cells #[.string ⟨m.name.toArray⟩, .slice A1 n1 e1, .string ⟨m.body.path.toArray⟩, .int .i64 m.body.fr, .int .i64 m.body.tu] 63))
            have HX := Lib.hid (blkAt wr (.cells #[.string ⟨m.name.toArray⟩, .slice A1 n1 e1, .string ⟨m.body.path.toArray⟩, .int .i64 m.body.fr, .int .i64 m.body.tu] 63) rfl)
            have HPA := Lib.hid (hpar.alloc (.cells #[.string ⟨m.name.toArray⟩, .slice A1 n1 e1, .string ⟨m.body.path.toArray⟩, .int .i64 m.body.fr, .int .i64 m.body.tu] 63))
            have hs2 := hb2.size
            go_upto_region 14 with fail
            generalize (wr.alloc (.cells #[.string ⟨m.name.toArray⟩, .slice A1 n1 e1, .string ⟨m.body.path.toArray⟩, .int .i64 m.body.fr, .int .i64 m.body.tu] 63)) = W1 at *
            generalize wr.heap.size = gx at *
            have x0 := (cell_blk HX.out 0).trans rfl
            have hsW1 := HB2.out.size
            clear ho2 hb2 hpar d0 d1 d2 d3 d4 hbs
            cases hxe : (m.name == x) with
            | false =>
              have hx : (m.name != x) = true := by rw [bne, hxe]; rfl
              have HD : Hid (vm = (out2 ++ [m]) ++ (ms.drop (k2 + 1)).filter (fun m => m.name != x)) := Lib.hid (by rw [hd, hx]; simp)
              have x1 := (cell_blk HX.out 1).trans rfl; have x2 := (cell_blk HX.out 2).trans rfl; have x3 := (cell_blk HX.out 3).trans rfl; have x4 := (cell_blk HX.out 4).trans rfl
              clear hd
              go_wp2_with (at_builtin; go_loud (refine wpList_app1 rfl _ _ eltMac rfl (by decide) rfl rfl rfl (HO2.out.alloc _) rfl [.string ⟨m.name.toArray⟩, .slice A1 n1 e1, .string ⟨m.body.path.toArray⟩, .int .i64 m.body.fr, .int .i64 m.body.tu] m (blkAt _ _ (by simp)) rfl ⟨rfl, rfl, rfl, rfl, A1, n1, e1, rfl, (HPA.out.wide (fun k _ hk => ⟨hk, fun e => by have := (HO2.out.lt k e).1; have := hk.2; omega⟩) (by decide)).alloc _⟩ (by omega) (by omega) (by simp; omega) ?_); intro A9 c9 w9 hown9 hg9 hat9)
              have hbl9 := (HB2.out.alloc HB2.out.size _).grown hg9 (by simp; omega) (fun k hk => by have := (HO2.out.lt k hk).1; omega)
              go_roundw
              case rel => exact ⟨k2 + 1, out2 ++ [m], A9, c9, by omega, (by rw [List.length_append]; rfl), by go_num, by simp; omega, hown9, hbl9, HD⟩
              case measure => simp [intOf]; omega
            | true =>
              have hx : (m.name != x) = false := by rw [bne, hxe]; rfl
              have HD : Hid (vm = out2 ++ (ms.drop (k2 + 1)).filter (fun m => m.name != x)) := Lib.hid (by rw [hd, hx]; simp)
              clear hd
              go_wp2_with fail
              go_roundw
              case rel => exact ⟨k2 + 1, out2, A2, c2, by omega, rfl, by go_num, by omega, HO2.out, HB2.out, HD⟩
              case measure => simp [intOf]; omega
          · have hd := hf2.out
            rw [drop_end hlt2] at hd
            have HVM := Lib.hid (show vm = out2 by rw [hd]; simp)
            have HO2 := Lib.hid ho2; have HB2 := Lib.hid hb2
            have hgr := keptBlk hb2 (keptBlk HB.out HC.out)
            clear hd hf2 ho2 hb2
            have z2 := frz_blk hgr 2; have z3 := frz_blk hgr 3
            have y2 := (cell_blk hgr 2).trans rfl; have y3 := (cell_blk hgr 3).trans rfl
            have HGR := Lib.hid hgr
            clear hgr
            have hs2 := HB2.out.size
            have hcF := Blk.set (wr.setCell ⟨g, 2, none⟩ (.slice A' out.length c')) (Blk.set wr HGR.out 2 (.slice A' out.length c')) 3 (.slice A2 out2.length c2)
            have hoF : ∀ k, k ≠ g → ((wr.setCell ⟨g, 2, none⟩ (.slice A' out.length c')).setCell ⟨g, 3, none⟩ (.slice A2 out2.length c2)).heap[k]? = wr.heap[k]? := fun k hne => by rw [set_other _ _ _ _ _ hne, set_other _ _ _ _ _ hne]
            have hkF : ∀ k, k < W.heap.size → k ≠ g → ((wr.setCell ⟨g, 2, none⟩ (.slice A' out.length c')).setCell ⟨g, 3, none⟩ (.slice A2 out2.length c2)).heap[k]? = W.heap[k]? := fun k hk hne => by rw [hoF k hne, HB2.out.block k (by omega), HB.out.block k hk]
            have hzF : W.heap.size ≤ ((wr.setCell ⟨g, 2, none⟩ (.slice A' out.length c')).setCell ⟨g, 3, none⟩ (.slice A2 out2.length c2)).heap.size := by simp; omega
            have h1F : ((wr.setCell ⟨g, 2, none⟩ (.slice A' out.length c')).setCell ⟨g, 3, none⟩ (.slice A2 out2.length c2)).os = W.os := HB2.out.1.trans HB.out.1
            have h2F : ((wr.setCell ⟨g, 2, none⟩ (.slice A' out.length c')).setCell ⟨g, 3, none⟩ (.slice A2 out2.length c2)).tape = W.tape := HB2.out.2.trans HB.out.2
            have h3F : ((wr.setCell ⟨g, 2, none⟩ (.slice A' out.length c')).setCell ⟨g, 3, none⟩ (.slice A2 out2.length c2)).output = W.output := HB2.out.3.trans HB.out.3
            have HF1 := Lib.hid hcF; have HF2 := Lib.hid hoF; have HF3 := Lib.hid hkF; have HF4 := Lib.hid hzF; have HF5 := Lib.hid h1F; have HF6 := Lib.hid h2F; have HF7 := Lib.hid h3F
            clear hcF hoF hkF hzF h1F h2F h3F
            go_wp2_with fail
            go_ret
            generalize ((wr.setCell ⟨g, 2, none⟩ (.slice A' out.length c')).setCell ⟨g, 3, none⟩ (.slice A2 out2.length c2)) = XF at *
            obtain ⟨hq1, hq2, hq3, hq4, hq5⟩ := HEQ.out
            have hMg : M g := HH.out.own g (.inl rfl)
            have hsf : Sl XF (fun k => ¬ M k) A' out.length c' out := (((HO.out.below HB2.out).sl (by decide)).wide (fun k _ hk hM => hk.elim False.elim (fun hk => by have := (HO.out.lt k hk).1; have := HML.out k hM; omega)) (by decide)).keep (fun k _ hM => HF2.out k (fun e => hM (e ▸ hMg)))
            have hsm : Sl XF (fun k => ¬ M k) A2 out2.length c2 out2 := ((HO2.out.sl (by decide)).wide (fun k _ hk hM => hk.elim (fun h => h.1 hM) (fun hk => by have := (HO2.out.lt k hk).1; have := HML.out k hM; omega)) (by decide)).keep (fun k _ hM => HF2.out k (fun e => hM (e ▸ hMg)))
            rw [HV.out, HVF.out, HVM.out]
            subst hq1 hq2 hq3 hq4 hq5
            exact ⟨rfl, M, ⟨tA, tn, tc, A', out.length, c', A2, out2.length, c2, iA, ic, hA, hn, hc, lA, ln, lc, oA, oc⟩, HH.out.turn _ _ HF1.out ⟨rfl, rfl, rfl⟩ ⟨rfl, rfl, rfl⟩ ⟨rfl, rfl, rfl⟩ HF3.out HF4.out hsf hsm (HH.out.oldf HF3.out HH.out.heads) (HH.out.oldf HF3.out HH.out.files), HH.out.turnedT rfl rfl HF3.out HF4.out HF5.out HF6.out HF7.out⟩
end Go.Proofs.YtpeamehplhpcjaaGreatDoor
namespace Go.Proofs.YtpeamehplhpcjaaGreatDoor
open Go.RowKit
set_option maxRecDepth 100000 in
set_option maxHeartbeats 4000000 in
theorem rdefine_any (W : World) (M : Nat → Prop) (B g : Nat) (t : List Fil) (p : Bs) (s : Rst) (q : RcP) (H : RcB W M B g q t p s) (d : Mac) (A0 : Option Addr) (n0 e0 : Nat) (hp0 : Sl W (fun k => ¬ M k) A0 n0 e0 d.params) :
    Calls Tryz.prog 140 #[.pointer (some ⟨g, 0, none⟩), .agg #[.string ⟨d.name.toArray⟩, .slice A0 n0 e0, .string ⟨d.body.path.toArray⟩, .int .i64 d.body.fr, .int .i64 d.body.tu]] W fun e w' => RcR W M B g q t p (.int .i64 (rdefine s d).2) (rdefine s d).1 e w' := by
  have hde := fun w h => rdefined_any w M B g t p s h d.name
  have hg := H.lt g (H.own g (.inl rfl))
  obtain ⟨V, hV⟩ : ∃ V, V = rdefine s d := ⟨_, rfl⟩
  rw [← hV]
  unfold rdefine at hV
  have hP0 : Sl W (fun k => ¬ M k ∧ k < W.heap.size) A0 n0 e0 d.params := hp0.wide (fun k hk h => ⟨h, hk⟩) (by decide)
  have HP0 := Lib.hid hP0
  have HH := Lib.hid H
  have hb0 : Below W.heap.size W (W.alloc (.cells #[.string ⟨d.name.toArray⟩, .slice A0 n0 e0, .string ⟨d.body.path.toArray⟩, .int .i64 d.body.fr, .int .i64 d.body.tu] 63)) := boxed
  have HB0 := Lib.hid hb0
  have HG0 := Lib.hid (blkAt W (.cells #[.string ⟨d.name.toArray⟩, .slice A0 n0 e0, .string ⟨d.body.path.toArray⟩, .int .i64 d.body.fr, .int .i64 d.body.tu] 63) rfl)
  have HDE := Lib.hid (hde (W.alloc (.cells #[.string ⟨d.name.toArray⟩, .slice A0 n0 e0, .string ⟨d.body.path.toArray⟩, .int .i64 d.body.fr, .int .i64 d.body.tu] 63)) ⟨q, H.below hb0⟩)
  clear hde hp0 hP0 hb0
  cases hd : rdefined s d.name with
  | true =>
    rw [hd] at hV HDE
    have HV := Lib.hid (show V = (s, 6) from hV)
    clear hV H hd
    go_enter Tryz.func140, Tryz.ntmps140
    go_upto_region 1 with fail
    generalize (W.alloc (.cells #[.string ⟨d.name.toArray⟩, .slice A0 n0 e0, .string ⟨d.body.path.toArray⟩, .int .i64 d.body.fr, .int .i64 d.body.tu] 63)) = W0 at *
    have x0 := (cell_blk HG0.out 0).trans rfl
    go_wp2_with fail
    refine HDE.out.mono ?_
    rintro e w1 ⟨rfl, hb1⟩
    have HB1 := Lib.hid (HB0.out.trans (hb1.mono HB0.out.size))
    clear hb1
    go_wp2_with fail
    go_ret
    rw [HV.out]
    exact ⟨rfl, M, q, HH.out.below HB1.out, RcT.below M g q HB1.out⟩
  | false =>
    rw [hd] at hV HDE
    have hV1 : V = if 128 ≤ s.macros.length then (s, 10) else ({ s with macros := s.macros.filter (fun x => ltS x.name d.name) ++ [d] ++ s.macros.filter (fun x => ltS d.name x.name) }, 0) := hV
    have hma := H.macs; have hcc := H.cells
    have hmn := hma.len
    have hme := hma.le
    obtain ⟨v1, hv1⟩ : ∃ v1, v1 = s.macros.filter (fun m => ltS m.name d.name) := ⟨_, rfl⟩
    obtain ⟨v2, hv2⟩ : ∃ v2, v2 = (v1 ++ [d]) ++ s.macros.filter (fun m => ltS d.name m.name) := ⟨_, rfl⟩
    rw [← hv1, ← hv2] at hV1
    have Hf1 : Hid (v1 = [] ++ (s.macros.drop 0).filter (fun m => ltS m.name d.name)) := Lib.hid hv1
    have Hf2 : Hid (v2 = (v1 ++ [d]) ++ (s.macros.drop 0).filter (fun m => ltS d.name m.name)) := Lib.hid hv2
    have HMA := Lib.hid (show Sl W (fun k => ¬ M k ∧ k < W.heap.size) _ _ _ _ from hma.wide (fun k hk h => ⟨h, hk⟩) (by decide))
    have HML := Lib.hid (fun k hk => H.lt k hk)
    obtain ⟨tA, tn, tc, fA, fn, fc, mA, mn, mc, iA, ic, hA, hn, hc, lA, ln, lc, oA, oc⟩ := q
    unfold rcC at hcc
    simp only at hcc hmn hma HMA
    obtain ⟨ms, hms2⟩ : ∃ ms, ms = s.macros := ⟨_, rfl⟩
    rw [← hms2] at hmn HMA Hf1 Hf2 hV1
    obtain ⟨its, hits⟩ : ∃ l : Nat, l = s.items.length := ⟨_, rfl⟩
    obtain ⟨ops, hops⟩ : ∃ l : Nat, l = s.opn.length := ⟨_, rfl⟩
    obtain ⟨co, hco⟩ : ∃ l : Nat, l = s.count := ⟨_, rfl⟩
    rw [← hits, ← hops, ← hco] at hcc
    have HEQ := Lib.hid (And.intro hms2 (And.intro hits (And.intro hops hco)))
    have HC := Lib.hid hcc; have HV := Lib.hid hV1
    clear hms2 hits hops hco hcc hv1 hv2 hV hV1 H hd hma
    subst hmn
    go_enter Tryz.func140, Tryz.ntmps140
    go_upto_region 1 with fail
    generalize (W.alloc (.cells #[.string ⟨d.name.toArray⟩, .slice A0 n0 e0, .string ⟨d.body.path.toArray⟩, .int .i64 d.body.fr, .int .i64 d.body.tu] 63)) = W0 at *
    have x0 := (cell_blk HG0.out 0).trans rfl
    go_wp2_with fail
    refine HDE.out.mono ?_
    rintro e w1 ⟨rfl, hb1⟩
    have HB1 := Lib.hid (HB0.out.trans (hb1.mono HB0.out.size)); have HG1 := Lib.hid (keptBlk hb1 HG0.out)
    have c3 := (cell_blk (keptBlk HB1.out HC.out) 3).trans rfl
    clear hb1 HDE x0
    by_cases h128 : 128 ≤ ms.length
    · have hI : (128 : Int) ≤ (ms.length : Int) := by omega
      have HV2 := Lib.hid (show V = (s, 10) by rw [HV.out, if_pos h128])
      go_wp2_with fail
      go_ret
      rw [HV2.out]
      exact ⟨rfl, M, _, HH.out.below HB1.out, RcT.below M g _ HB1.out⟩
    · have hI : ¬ (128 : Int) ≤ (ms.length : Int) := by omega
      have HV2 := Lib.hid (HV.out.trans (if_neg h128))
      clear HV
      go_upto_region 7 with fail
      clear c3
      go_loopw [5, 27] (fun o i wz => ∃ (k : Nat) (out : List Mac) (A' : Option Addr) (c' : Nat), k ≤ ms.length ∧ o = .slice A' out.length c' ∧ i = .int .i64 k ∧ out.length ≤ 0 + k ∧ Own wz (fun k => ¬ M k ∧ k < W.heap.size) (W.heap.size + 1) 63 A' c' out ∧ Below W.heap.size W wz ∧ wz.heap[W.heap.size]? = some (.cells #[.string ⟨d.name.toArray⟩, .slice A0 n0 e0, .string ⟨d.body.path.toArray⟩, .int .i64 d.body.fr, .int .i64 d.body.tu] 63 (0, 0)) ∧ Hid (v1 = out ++ (ms.drop k).filter (fun m => ltS m.name d.name))) (fun _ i _ => ms.length - (intOf i).toNat)
      case atStart => exact ⟨0, [], none, 0, by omega, rfl, rfl, by simp, Own.nil _ _ _ _, HB1.out, HG1.out, Hf1⟩
      case round =>
        obtain ⟨k, out, A', c', hk, rfl, rfl, hol, ho, hb, hgx, hf⟩ := hrel
        by_cases hlt : k < ms.length
        · obtain ⟨b, o, rfl, -, hbs, A1, n1, e1, d0, d1, d2, d3, d4, hpar⟩ := (HMA.out.below hb).mac hlt
          have hd := hf.out
          rw [drop_get hlt, List.filter_cons] at hd
          clear hf
          generalize ms[k] = m at *
          have HO := Lib.hid (ho.alloc (.cells #[.string ⟨m.name.toArray⟩, .slice A1 n1 e1, .string ⟨m.body.path.toArray⟩, .int .i64 m.body.fr, .int .i64 m.body.tu] 63))
          have HB := Lib.hid (hb.alloc hb.size (.cells #[.string ⟨m.name.toArray⟩, .slice A1 n1 e1, .string ⟨m.body.path.toArray⟩, .int .i64 m.body.fr, .int .i64 m.body.tu] 63))
          have HX := Lib.hid (blkAt wr (.cells #[.string ⟨m.name.toArray⟩, .slice A1 n1 e1, .string ⟨m.body.path.toArray⟩, .int .i64 m.body.fr, .int .i64 m.body.tu] 63) rfl)
          have HG := Lib.hid (blkOld hgx (.cells #[.string ⟨m.name.toArray⟩, .slice A1 n1 e1, .string ⟨m.body.path.toArray⟩, .int .i64 m.body.fr, .int .i64 m.body.tu] 63))
          have HPA := Lib.hid (hpar.alloc (.cells #[.string ⟨m.name.toArray⟩, .slice A1 n1 e1, .string ⟨m.body.path.toArray⟩, .int .i64 m.body.fr, .int .i64 m.body.tu] 63))
          have hs2 := hb.size
          have hgs := (Array.getElem?_eq_some_iff.1 hgx).1
          go_upto_region 9 with fail
          generalize (wr.alloc (.cells #[.string ⟨m.name.toArray⟩, .slice A1 n1 e1, .string ⟨m.body.path.toArray⟩, .int .i64 m.body.fr, .int .i64 m.body.tu] 63)) = W1 at *
          generalize wr.heap.size = gx at *
          have x0 := (cell_blk HX.out 0).trans rfl; have y0 := (cell_blk HG.out 0).trans rfl
          have hsW1 := HB.out.size
          have hgW1 := (Array.getElem?_eq_some_iff.1 HG.out).1
          clear ho hb hgx hpar d0 d1 d2 d3 d4 hbs
          have hls := less_ltS m.name d.name
          cases hx : ltS m.name d.name with
          | true =>
            rw [hx] at hls
            have HD : Hid (v1 = (out ++ [m]) ++ (ms.drop (k + 1)).filter (fun m => ltS m.name d.name)) := Lib.hid (by rw [hd, hx]; simp)
            have x1 := (cell_blk HX.out 1).trans rfl; have x2 := (cell_blk HX.out 2).trans rfl; have x3 := (cell_blk HX.out 3).trans rfl; have x4 := (cell_blk HX.out 4).trans rfl
            clear hd
            go_wp2_with (at_builtin; go_loud (refine wpList_app1 rfl _ _ eltMac rfl (by decide) rfl rfl rfl (HO.out.alloc _) rfl [.string ⟨m.name.toArray⟩, .slice A1 n1 e1, .string ⟨m.body.path.toArray⟩, .int .i64 m.body.fr, .int .i64 m.body.tu] m (blkAt _ _ (by simp)) rfl ⟨rfl, rfl, rfl, rfl, A1, n1, e1, rfl, (HPA.out.wide (fun k _ hk => ⟨hk, fun e => by have := (HO.out.lt k e).1; have := hk.2; omega⟩) (by decide)).alloc _⟩ (by omega) (by omega) (by simp; omega) ?_); intro A9 c9 w9 hown9 hg9 hat9)
            have hbl9 := (HB.out.alloc HB.out.size _).grown hg9 (by simp; omega) (fun k hk => by have := (HO.out.lt k hk).1; omega)
            have hgg9 := grownBlk hg9 (blkOld HG.out _) (HO.out.ne_lt (Nat.lt_succ_self _))
            go_roundw
            case rel => exact ⟨k + 1, out ++ [m], A9, c9, by omega, (by rw [List.length_append]; rfl), by go_num, by simp; omega, hown9, hbl9, hgg9, HD⟩
            case measure => simp [intOf]; omega
          | false =>
            rw [hx] at hls
            have HD : Hid (v1 = out ++ (ms.drop (k + 1)).filter (fun m => ltS m.name d.name)) := Lib.hid (by rw [hd, hx]; simp)
            clear hd
            go_wp2_with fail
            go_roundw
            case rel => exact ⟨k + 1, out, A', c', by omega, rfl, by go_num, by omega, HO.out, HB.out, HG.out, HD⟩
            case measure => simp [intOf]; omega
        · have hd := hf.out
          rw [drop_end hlt] at hd
          have HO := Lib.hid ho; have HB := Lib.hid hb; have HG := Lib.hid hgx
          have HV1 := Lib.hid (show v1 = out by rw [hd]; simp)
          have hsW := hb.size
          have hgW := (Array.getElem?_eq_some_iff.1 hgx).1
          have x0 := (cell_blk HG.out 0).trans rfl; have x1 := (cell_blk HG.out 1).trans rfl; have x2 := (cell_blk HG.out 2).trans rfl; have x3 := (cell_blk HG.out 3).trans rfl; have x4 := (cell_blk HG.out 4).trans rfl
          clear hd hf ho hb hgx
          go_upto_region 14 with (at_builtin; go_loud (refine wpList_app1 rfl _ _ eltMac rfl (by decide) rfl rfl rfl (HO.out.alloc _) rfl [.string ⟨d.name.toArray⟩, .slice A0 n0 e0, .string ⟨d.body.path.toArray⟩, .int .i64 d.body.fr, .int .i64 d.body.tu] d (blkAt _ _ (by simp)) rfl ⟨rfl, rfl, rfl, rfl, A0, n0, e0, rfl, ((HP0.out.below HB.out).wide (fun k _ hk => ⟨hk, fun e => by have := (HO.out.lt k e).1; have := hk.2; omega⟩) (by decide)).alloc _⟩ (by omega) (by omega) (by simp; omega) ?_); intro A3 c4 w3 hown3 hg3 hat3; have c3 := (cell_blk (grownBlk hg3 (blkOld (keptBlk HB.out HC.out) _) (HO.out.ne_lt (by omega))) 3).trans rfl)
          have HO3 := Lib.hid hown3
          have HB3 := Lib.hid ((HB.out.alloc HB.out.size _).grown hg3 (by simp; omega) (fun k hk => by have := (HO.out.lt k hk).1; omega))
          have HG3 := Lib.hid (grownBlk hg3 (blkOld HG.out _) (HO.out.ne_lt (Nat.lt_succ_self _)))
          have HFQ3 : Hid (v2 = (out ++ [d]) ++ (ms.drop 0).filter (fun m => ltS d.name m.name)) := Lib.hid (by rw [← HV1.out]; exact Hf2.out)
          have hl1 : (out ++ [d]).length = out.length + 1 := by simp
          clear hown3 hg3 x0 x1 x2 x3 x4 c3 Hf1 Hf2
          have hst : ∃ ou1 : List Mac, ou1 = out ++ [d] := ⟨_, rfl⟩
          obtain ⟨ou1, hou1⟩ := hst
          rw [← hou1] at HO3 HFQ3 hl1
          have hob : ou1.length ≤ ms.length + 1 := by omega
          rw [show out.length + 1 = ou1.length from hl1.symm] at *
          clear hou1 HO HV1 HB HG
          go_loopw [5, 51] (fun o i wz => ∃ (k : Nat) (out : List Mac) (A' : Option Addr) (c' : Nat), k ≤ ms.length ∧ o = .slice A' out.length c' ∧ i = .int .i64 k ∧ out.length ≤ ou1.length + k ∧ Own wz (fun k => ¬ M k ∧ k < W.heap.size) (W.heap.size + 1) 63 A' c' out ∧ Below W.heap.size W wz ∧ wz.heap[W.heap.size]? = some (.cells #[.string ⟨d.name.toArray⟩, .slice A0 n0 e0, .string ⟨d.body.path.toArray⟩, .int .i64 d.body.fr, .int .i64 d.body.tu] 63 (0, 0)) ∧ Hid (v2 = out ++ (ms.drop k).filter (fun m => ltS d.name m.name))) (fun _ i _ => ms.length - (intOf i).toNat)
          case atStart => exact ⟨0, ou1, A3, c4, by omega, rfl, rfl, by omega, HO3.out, HB3.out, HG3.out, HFQ3⟩
          case round =>
            obtain ⟨k, out, A', c', hk, rfl, rfl, hol, ho, hb, hgx, hf⟩ := hrel
            by_cases hlt : k < ms.length
            · obtain ⟨b, o, rfl, -, hbs, A1, n1, e1, d0, d1, d2, d3, d4, hpar⟩ := (HMA.out.below hb).mac hlt
              have hd := hf.out
              rw [drop_get hlt, List.filter_cons] at hd
              clear hf
              generalize ms[k] = m at *
              have HO := Lib.hid (ho.alloc (.cells #[.string ⟨m.name.toArray⟩, .slice A1 n1 e1, .string ⟨m.body.path.toArray⟩, .int .i64 m.body.fr, .int .i64 m.body.tu] 63))
              have HB := Lib.hid (hb.alloc hb.size (.cells #[.string ⟨m.name.toArray⟩, .slice A1 n1 e1, .string ⟨m.body.path.toArray⟩, .int .i64 m.body.fr, .int .i64 m.body.tu] 63))
              have HX := Lib.hid (blkAt wr (.cells #[.string ⟨m.name.toArray⟩, .slice A1 n1 e1, .string ⟨m.body.path.toArray⟩, .int .i64 m.body.fr, .int .i64 m.body.tu] 63) rfl)
              have HG := Lib.hid (blkOld hgx (.cells #[.string ⟨m.name.toArray⟩, .slice A1 n1 e1, .string ⟨m.body.path.toArray⟩, .int .i64 m.body.fr, .int .i64 m.body.tu] 63))
              have HPA := Lib.hid (hpar.alloc (.cells #[.string ⟨m.name.toArray⟩, .slice A1 n1 e1, .string ⟨m.body.path.toArray⟩, .int .i64 m.body.fr, .int .i64 m.body.tu] 63))
              have hs2 := hb.size
              have hgs := (Array.getElem?_eq_some_iff.1 hgx).1
              go_upto_region 16 with fail
              generalize (wr.alloc (.cells #[.string ⟨m.name.toArray⟩, .slice A1 n1 e1, .string ⟨m.body.path.toArray⟩, .int .i64 m.body.fr, .int .i64 m.body.tu] 63)) = W1 at *
              generalize wr.heap.size = gx at *
              have x0 := (cell_blk HX.out 0).trans rfl; have y0 := (cell_blk HG.out 0).trans rfl
              have hsW1 := HB.out.size
              have hgW1 := (Array.getElem?_eq_some_iff.1 HG.out).1
              clear ho hb hgx hpar d0 d1 d2 d3 d4 hbs
              have hls := less_ltS m.name d.name
              have hlt2 := less_ltS d.name m.name
              have has : ltS d.name m.name = true → ltS m.name d.name = false := fun h => by
                cases h5 : ltS m.name d.name with
                | false => rfl
                | true => have := ltS_trans _ _ _ h h5; rw [ltS_irr] at this; cases this
              cases hx : ltS d.name m.name with
              | true =>
                rw [hx] at hlt2
                rw [has hx] at hls
                have hne : (m.name == d.name) = false := by
                  rw [beq_eq_false_iff_ne]
                  intro e
                  rw [e, ltS_irr] at hx
                  cases hx
                clear has
                have HD : Hid (v2 = (out ++ [m]) ++ (ms.drop (k + 1)).filter (fun m => ltS d.name m.name)) := Lib.hid (by rw [hd, hx]; simp)
                have x1 := (cell_blk HX.out 1).trans rfl; have x2 := (cell_blk HX.out 2).trans rfl; have x3 := (cell_blk HX.out 3).trans rfl; have x4 := (cell_blk HX.out 4).trans rfl
                clear hd
                go_upto_region 17 with fail
                go_wp2_with (at_builtin; go_loud (refine wpList_app1 rfl _ _ eltMac rfl (by decide) rfl rfl rfl (HO.out.alloc _) rfl [.string ⟨m.name.toArray⟩, .slice A1 n1 e1, .string ⟨m.body.path.toArray⟩, .int .i64 m.body.fr, .int .i64 m.body.tu] m (blkAt _ _ (by simp)) rfl ⟨rfl, rfl, rfl, rfl, A1, n1, e1, rfl, (HPA.out.wide (fun k _ hk => ⟨hk, fun e => by have := (HO.out.lt k e).1; have := hk.2; omega⟩) (by decide)).alloc _⟩ (by omega) (by omega) (by simp; omega) ?_); intro A9 c9 w9 hown9 hg9 hat9)
                have hbl9 := (HB.out.alloc HB.out.size _).grown hg9 (by simp; omega) (fun k hk => by have := (HO.out.lt k hk).1; omega)
                have hgg9 := grownBlk hg9 (blkOld HG.out _) (HO.out.ne_lt (Nat.lt_succ_self _))
                go_roundw
                case rel => exact ⟨k + 1, out ++ [m], A9, c9, by omega, (by rw [List.length_append]; rfl), by go_num, by simp; omega, hown9, hbl9, hgg9, HD⟩
                case measure => simp [intOf]; omega
              | false =>
                rw [hx] at hlt2
                clear has
                cases hy : ltS m.name d.name with
                | true =>
                  rw [hy] at hls
                  have HD : Hid (v2 = out ++ (ms.drop (k + 1)).filter (fun m => ltS d.name m.name)) := Lib.hid (by rw [hd, hx]; simp)
                  clear hd
                  go_wp2_with fail
                  go_roundw
                  case rel => exact ⟨k + 1, out, A', c', by omega, rfl, by go_num, by omega, HO.out, HB.out, HG.out, HD⟩
                  case measure => simp [intOf]; omega
                | false =>
                  rw [hy] at hls
                  have hne : (m.name == d.name) = true := by
                    rw [beq_iff_eq]
                    rcases ltS_tot m.name d.name with h5 | h5 | h5
                    · rw [hy] at h5; cases h5
                    · exact h5
                    · rw [hx] at h5; cases h5
                  have HD : Hid (v2 = out ++ (ms.drop (k + 1)).filter (fun m => ltS d.name m.name)) := Lib.hid (by rw [hd, hx]; simp)
                  clear hd
                  go_wp2_with fail
                  go_roundw
                  case rel => exact ⟨k + 1, out, A', c', by omega, rfl, by go_num, by omega, HO.out, HB.out, HG.out, HD⟩
                  case measure => simp [intOf]; omega
            · have hd := hf.out
              rw [drop_end hlt] at hd
              have HO := Lib.hid ho; have HB := Lib.hid hb
              have HV1 := Lib.hid (show v2 = out by rw [hd]; simp)
              have hsW := hb.size
              have hgr := keptBlk hb HC.out
              have z3 := frz_blk hgr 3; have y3 := (cell_blk hgr 3).trans rfl
              have HGR := Lib.hid hgr
              have hcF := Blk.set wr hgr 3 (.slice A' out.length c')
              have hoF : ∀ k, k ≠ g → (wr.setCell ⟨g, 3, none⟩ (.slice A' out.length c')).heap[k]? = wr.heap[k]? := fun k hne => set_other _ _ _ _ _ hne
              have hkF : ∀ k, k < W.heap.size → k ≠ g → (wr.setCell ⟨g, 3, none⟩ (.slice A' out.length c')).heap[k]? = W.heap[k]? := fun k hk hne => by rw [hoF k hne, HB.out.block k hk]
              have hzF : W.heap.size ≤ (wr.setCell ⟨g, 3, none⟩ (.slice A' out.length c')).heap.size := by simp; omega
              have h1F : (wr.setCell ⟨g, 3, none⟩ (.slice A' out.length c')).os = W.os := HB.out.1
              have h2F : (wr.setCell ⟨g, 3, none⟩ (.slice A' out.length c')).tape = W.tape := HB.out.2
              have h3F : (wr.setCell ⟨g, 3, none⟩ (.slice A' out.length c')).output = W.output := HB.out.3
              have HF1 := Lib.hid hcF; have HF2 := Lib.hid hoF; have HF3 := Lib.hid hkF; have HF4 := Lib.hid hzF; have HF5 := Lib.hid h1F; have HF6 := Lib.hid h2F; have HF7 := Lib.hid h3F
              clear hcF hoF hkF hzF h1F h2F h3F hd hf ho hb hgx hgr
              go_wp2_with fail
              go_ret
              generalize (wr.setCell ⟨g, 3, none⟩ (.slice A' out.length c')) = XF at *
              obtain ⟨hq2, hq3, hq4, hq5⟩ := HEQ.out
              have hMg : M g := HH.out.own g (.inl rfl)
              have hsm : Sl XF (fun k => ¬ M k) A' out.length c' out := ((HO.out.sl (by decide)).wide (fun k _ hk hM => hk.elim (fun h => h.1 hM) (fun hk => by have := (HO.out.lt k hk).1; have := HML.out k hM; omega)) (by decide)).keep (fun k _ hM => HF2.out k (fun e => hM (e ▸ hMg)))
              rw [HV2.out, HV1.out]
              subst hq2 hq3 hq4 hq5
              exact ⟨rfl, M, ⟨tA, tn, tc, fA, fn, fc, A', out.length, c', iA, ic, hA, hn, hc, lA, ln, lc, oA, oc⟩, HH.out.turn _ _ HF1.out ⟨rfl, rfl, rfl⟩ ⟨rfl, rfl, rfl⟩ ⟨rfl, rfl, rfl⟩ HF3.out HF4.out (HH.out.oldf HF3.out HH.out.flags) hsm (HH.out.oldf HF3.out HH.out.heads) (HH.out.oldf HF3.out HH.out.files), HH.out.turnedT rfl rfl HF3.out HF4.out HF5.out HF6.out HF7.out⟩
end Go.Proofs.YtpeamehplhpcjaaGreatDoor
