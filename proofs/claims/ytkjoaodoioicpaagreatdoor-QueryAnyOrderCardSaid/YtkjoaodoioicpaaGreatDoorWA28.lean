/- Query (package licitlaw54): a part of the proofs of its laws; see the law's own text, which comes last in 'order'. No conditions of its own. -/
import Derived.Test.YtkjoaodoioicpaaGreatDoorWA03
import Derived.Test.YtkjoaodoioicpaaGreatDoorWA27
set_option linter.unusedVariables false
set_option linter.unusedSimpArgs false
namespace Go.Proofs.YtkjoaodoioicpaaGreatDoor
open Go.RowKit
theorem eltArgs : Elt 56 29 1 24 := .mk' (z := .slice none 0 0) (by kernel_rfl) (by kernel_rfl) rfl
def mkV (s : Bs) : Arg := ⟨1, s, 0⟩
set_option maxRecDepth 100000 in
set_option maxHeartbeats 16000000 in
theorem AskQ_any (question : List Ltl) (model : List Atm) (A2 : Option Addr) (n2 c2 : Nat) (A : Option Addr) (n c : Nat) (w : World) (S T : Nat → Prop) (h2 : Sl w S A2 n2 c2 question) (hm : Sl w T A n c model) (hq : ∀ l ∈ question, OkL l) (hom : ∀ a ∈ model, OkT a) (hL : LD w) (hcnt : cntB question ≤ 1000)
    (hr : readyS ⟨⟨sAsk, []⟩, question⟩ model = 0 → ruleS ⟨⟨sAsk, (varsS ⟨⟨sAsk, []⟩, question⟩).map mkV⟩, question⟩ = true ∧ safeS ⟨⟨sAsk, (varsS ⟨⟨sAsk, []⟩, question⟩).map mkV⟩, question⟩ = true) :
    Calls Tryz.prog 20 #[.slice A n c, .slice A2 n2 c2] w fun e w' => ∃ A' n' c', e = .returned (.tuple #[.slice A' n' c', .int .i64 (askS model question).2]) ∧ Sl w' (fun k => w.heap.size ≤ k) A' n' c' (askS model question).1 ∧ Below w.heap.size w w' := by
  obtain ⟨V, hV⟩ : ∃ V, V = askS model question := ⟨_, rfl⟩
  rw [← hV]
  unfold askS at hV
  simp only at hV
  have hb1 : Below w.heap.size w (w.alloc (.cells #[.string ⟨sAsk.toArray⟩, .slice none 0 0, .slice A2 n2 c2] 34)) := boxed
  have hx1 := blkAt w (.cells #[.string ⟨sAsk.toArray⟩, .slice none 0 0, .slice A2 n2 c2] 34) rfl
  have hrd := readyQ_any ⟨⟨sAsk, []⟩, question⟩ model none 0 0 A2 n2 c2 A n c _ S T (Sl.nil _ _ _ _ (by decide)) (h2.below hb1) (hm.below hb1) ⟨⟨by show sAsk.length ≤ _; decide, fun x hx => by cases hx⟩, hq⟩ hom (hL.below hb1)
  by_cases he : readyS ⟨⟨sAsk, []⟩, question⟩ model = 0
  · rw [if_neg (by rw [he]; decide)] at hV
    rw [he] at hrd
    obtain ⟨hlen, hgr⟩ := readyS_zero he
    obtain ⟨hr1, hr2⟩ := hr he
    have hvs := fun w' (hb' : Below w.heap.size w w') => variables_any ⟨⟨sAsk, []⟩, question⟩ none 0 0 A2 n2 c2 w' S (Sl.nil _ _ _ _ (by decide)) (h2.below hb') (by show 0 + cntB question ≤ _; omega)
    generalize varsS ⟨⟨sAsk, []⟩, question⟩ = vs at *
    have hV : V = if 1024 < (outS ⟨⟨sAsk, vs.map mkV⟩, question⟩ model).length then ([], 10) else ((sortT (outS ⟨⟨sAsk, vs.map mkV⟩, question⟩ model)).map (·.args), 0) := hV
    obtain ⟨r, hrdef⟩ : ∃ r : Rul, r = ⟨⟨sAsk, vs.map mkV⟩, question⟩ := ⟨_, rfl⟩
    rw [← hrdef] at hV hr1 hr2
    obtain ⟨hok, hbo, hkd, hh6, hhd⟩ := ruleS_ok hr1
    have hrok : RuleOk r := ⟨safe_safe hr2, hhd⟩
    have hgg := gr_given hgr
    have hpr := heads_ground hrok (nb := givenS model) hgg
    have hgv := fun w' (hb' : Below w.heap.size w w') => givenQ_any A n c model w' T (hm.below hb') hgr (by omega) (hL.below hb')
    have hvl : vs.length ≤ 6 := by have h := hh6; rw [hrdef] at h; simpa using h
    have HRD := Lib.hid hrd; have HGV := Lib.hid hgv; have HV := Lib.hid hV; have HB1 := Lib.hid hb1; have HX1 := Lib.hid hx1; have HBO := Lib.hid hbo; have HKD := Lib.hid hkd; have HPR := Lib.hid hpr; have HL := Lib.hid hL; have HOK := Lib.hid hok; have HVS := Lib.hid hvs; have HRDEF := Lib.hid hrdef; have HH2 := Lib.hid (show Sl w S A2 n2 c2 r.body by rw [hrdef]; exact h2)
    have hhn : r.head.name = sAsk := by rw [hrdef]
    have hha : r.head.args = vs.map mkV := by rw [hrdef]
    have HHN := Lib.hid hhn; have HHA := Lib.hid hha
    clear hrd hgv hV hb1 hx1 hbo hkd hpr h2 hL hok hm hq hom hr he hlen hgr hr1 hr2 hhd hrok hgg hvs hrdef hhn hha
    go_enter Tryz.func20, Tryz.ntmps20
    go_wp2_with fail
    refine HRD.out.mono ?_
    rintro e w1 ⟨rfl, hb1⟩
    have hb1' := HB1.out.trans (hb1.mono HB1.out.size)
    have hx1 := keptBlk hb1 HX1.out
    have c0 := (cell_blk hx1 0).trans rfl; have c1 := (cell_blk hx1 1).trans rfl; have c2' := (cell_blk hx1 2).trans rfl
    have HBx := Lib.hid hb1'; have HXx := Lib.hid hx1; clear hb1 hb1' hx1 HB1 HX1 HRD
    go_wp2_with fail
    clear c0 c1 c2'
    refine (HVS.out w1 HBx.out).mono ?_
    rintro e wv ⟨Av, cv, rfl, hsv, hbv⟩
    have hbv' := HBx.out.trans (hbv.mono HBx.out.size)
    have hxv := keptBlk hbv HXx.out
    have hsv' := hsv.wide (S' := fun k => w.heap.size ≤ k ∧ k < wv.heap.size ∧ k ≠ w.heap.size) (fun k hk h => ⟨Nat.le_trans HBx.out.size h, hk, by have := (Array.getElem?_eq_some_iff.1 HXx.out).1; omega⟩) (by decide)
    have hlv := hsv.le
    have HSV := Lib.hid hsv'; have HBV := Lib.hid hbv'; have HXV := Lib.hid hxv
    clear hsv hsv' hbv hbv' hxv HVS HXx HBx
    go_wp2_with fail
    go_loopw [27] (fun i wr => ∃ k : Nat, k ≤ vs.length ∧ i = .int .i64 k ∧ Hid (Below w.heap.size w wr ∧ wv.heap.size ≤ wr.heap.size ∧ (∀ k, k < wv.heap.size → k ≠ w.heap.size → wr.heap[k]? = wv.heap[k]?) ∧ ∃ A c, wr.heap[w.heap.size]? = some (.cells #[.string ⟨sAsk.toArray⟩, .slice A k c, .slice A2 n2 c2] 34 (0, 0)) ∧ Own wr (fun _ => False) wv.heap.size 46 A c ((vs.take k).map mkV))) (fun i _ => vs.length - (intOf i).toNat)
    case atStart => exact ⟨0, by omega, rfl, Lib.hid ⟨HBV.out, Nat.le_refl _, fun _ _ _ => rfl, none, 0, HXV.out, Own.nil _ _ _ _⟩⟩
    case round =>
      obtain ⟨k, hk, rfl, hqq⟩ := hrel
      obtain ⟨hb, hwsz, hkeep, A3, c3, hbox, hown⟩ := hqq.out
      clear hqq
      by_cases hlt : k < vs.length
      · obtain ⟨b1, o1, rfl, -, hbs1, g1⟩ := (HSV.out.keep (w' := wr) fun k _ hk => hkeep k hk.2.1 hk.2.2).str hlt
        have htk : (vs.take (k + 1)).map mkV = (vs.take k).map mkV ++ [mkV vs[k]] := by rw [List.take_succ_eq_append_getElem hlt, List.map_append]; rfl
        generalize vs[k] = s at *
        have hxl : ((vs.take k).map mkV).length = k := by rw [List.length_map, List.length_take]; omega
        have e1 := (cell_blk hbox 1).trans rfl
        have hwl : w.heap.size < wr.heap.size := (Array.getElem?_eq_some_iff.1 hbox).1
        have hwv : w.heap.size < wv.heap.size := (Array.getElem?_eq_some_iff.1 HXV.out).1
        have hkb : ∀ w5, (wr.alloc (.cells #[.int .i64 1, .string ⟨s.toArray⟩, .int .i64 0] 46)).grownBy w5 (A3.map Addr.block) → w5.heap[w.heap.size]? = some (.cells #[.string ⟨sAsk.toArray⟩, .slice A3 k c3, .slice A2 n2 c2] 34 (0, 0)) := fun w5 hg5 => grownBlk hg5 (blkOld hbox _) (fun e => by have := (hown.lt _ e).1; omega)
        have HB := Lib.hid hb; have HKP := Lib.hid hkeep; have HOWN := Lib.hid hown; have HTK := Lib.hid htk; have HKB := Lib.hid hkb; have HXL := Lib.hid hxl
        clear hb hkeep hown htk hkb hbox hxl
        go_wp2_with (at_builtin; go_loud (refine wpList_app1 rfl _ _ eltArg rfl (by decide) rfl rfl HXL.out.symm (HOWN.out.alloc _) rfl [.int .i64 1, .string ⟨s.toArray⟩, .int .i64 0] (mkV s) (blkAt _ _ rfl) rfl ⟨rfl, rfl, rfl⟩ (by rw [HXL.out]; omega) (by rw [HXL.out]; omega) (Nat.le_trans hwsz (Nat.le_of_lt (lt_alloc _ _))) ?_); intro A5 c5 w5 hown5 hg5 hat5; have k5 := (cell_blk (HKB.out w5 hg5) 1).trans rfl; have z5 := frz_blk (HKB.out w5 hg5) 1; have HX5 := Lib.hid (HKB.out w5 hg5); have HO5 := Lib.hid hown5; have HG5 := Lib.hid hg5; have HA5 := Lib.hid hat5; clear hown5 hg5 hat5)
        have hsA : (wr.alloc (.cells #[.int .i64 1, .string ⟨s.toArray⟩, .int .i64 0] 46)).heap.size = wr.heap.size + 1 := by simp
        have hg5s := HG5.out.size
        have hx6 : (w5.setCell ⟨w.heap.size, 1, none⟩ (.slice A5 (k + 1) c5)).heap[w.heap.size]? = some (.cells #[.string ⟨sAsk.toArray⟩, .slice A5 (k + 1) c5, .slice A2 n2 c2] 34 (0, 0)) := by rw [Blk.set w5 HX5.out 1]; simp
        have hb6 : Below w.heap.size w (w5.setCell ⟨w.heap.size, 1, none⟩ (.slice A5 (k + 1) c5)) := ((HB.out.alloc HB.out.size _).grown HG5.out (by have := HB.out.size; omega) (fun k hk => by have := (HOWN.out.lt k hk).1; omega)).setCell (p := ⟨w.heap.size, 1, none⟩) (Nat.le_refl _) _
        have ho6 : Own (w5.setCell ⟨w.heap.size, 1, none⟩ (.slice A5 (k + 1) c5)) (fun _ => False) wv.heap.size 46 A5 c5 ((vs.take (k + 1)).map mkV) := by
          rw [HTK.out]
          exact HO5.out.keep fun k _ hT => set_other _ _ _ _ _ (by rcases hT with hT | hT; exact hT.elim; have := (HO5.out.lt k hT).1; omega)
        have hk6 : ∀ k', k' < wv.heap.size → k' ≠ w.heap.size → (w5.setCell ⟨w.heap.size, 1, none⟩ (.slice A5 (k + 1) c5)).heap[k']? = wv.heap[k']? := fun k' hk' hne => by
          rw [set_other _ _ _ _ _ hne, HG5.out.block k' (by omega) (fun e => by have := (HOWN.out.lt k' e.symm).1; omega), Below.heap_alloc wr _ k' (by omega), HKP.out k' hk' hne]
        have hz6 : (w5.setCell ⟨w.heap.size, 1, none⟩ (.slice A5 (k + 1) c5)).heap.size = w5.heap.size := by simp [World.setCell]
        have HQ := Lib.hid (show Below w.heap.size w (w5.setCell ⟨w.heap.size, 1, none⟩ (.slice A5 (k + 1) c5)) ∧ wv.heap.size ≤ (w5.setCell ⟨w.heap.size, 1, none⟩ (.slice A5 (k + 1) c5)).heap.size ∧ (∀ q, q < wv.heap.size → q ≠ w.heap.size → (w5.setCell ⟨w.heap.size, 1, none⟩ (.slice A5 (k + 1) c5)).heap[q]? = wv.heap[q]?) ∧ ∃ A c, (w5.setCell ⟨w.heap.size, 1, none⟩ (.slice A5 (k + 1) c5)).heap[w.heap.size]? = some (.cells #[.string ⟨sAsk.toArray⟩, .slice A (k + 1) c, .slice A2 n2 c2] 34 (0, 0)) ∧ Own (w5.setCell ⟨w.heap.size, 1, none⟩ (.slice A5 (k + 1) c5)) (fun _ => False) wv.heap.size 46 A c ((vs.take (k + 1)).map mkV) from ⟨hb6, by omega, hk6, A5, c5, hx6, ho6⟩)
        clear hx6 hb6 ho6 hk6 hz6 k5 z5 hsA hg5s
        go_wp2_with fail
        go_roundw
        case rel => exact ⟨k + 1, by omega, by go_num, HQ⟩
        case measure => simp [intOf]; omega
      · have hke : k = vs.length := by omega
        subst hke
        rw [List.take_length] at hown
        have hargs : vs.map mkV = r.head.args := HHA.out.symm
        rw [hargs] at hown
        rw [← HHN.out] at hbox
        have hsl1 : Sl wr (fun k => A3.map Addr.block = some k ∧ wv.heap.size ≤ k ∧ k < wr.heap.size) A3 vs.length c3 r.head.args := ((hown.sl (by decide)).wide (fun k hk hk' => by
          rcases hk' with h | h
          · exact h.elim
          · exact ⟨h, (hown.lt k h).1, hk⟩) (by decide)).cast (by rw [← hargs, List.length_map])
        have HB2 := Lib.hid hb; have HX2 := Lib.hid hbox; have HH1 := Lib.hid hsl1
        clear hargs hown hbox hsl1 hkeep HSV HBV HXV hb
        go_wp2_with fail
        refine (HGV.out wr HB2.out).mono ?_
        rintro e w3 ⟨p, F, I, rfl, hbr, hbd, hp, hb3⟩
        have hb3' := HB2.out.trans (hb3.mono HB2.out.size)
        have HB3 := Lib.hid hb3'; have HX3 := Lib.hid (keptBlk hb3 HX2.out); have HBR := Lib.hid hbr; have HBD := Lib.hid hbd
        have HB23 := Lib.hid hb3
        clear hb3 hb3' hbr hbd HX2 HGV
        go_wp2_with fail
        refine (emptyQ_any w3 (fun _ => False) (fun _ h => h.elim)).mono ?_
        rintro e w4 ⟨rfl, hbe, hb4⟩
        have hb4' := HB3.out.trans (hb4.mono HB3.out.size)
        have HB4 := Lib.hid hb4'; have HX4 := Lib.hid (keptBlk hb4 HX3.out); have HBR4 := Lib.hid (HBR.out.below hb4); have HBE := Lib.hid hbe; have hw3s : w.heap.size < w3.heap.size := (Array.getElem?_eq_some_iff.1 HX3.out).1
        have HB24 := Lib.hid (HB23.out.trans (hb4.mono HB23.out.size))
        clear hb4 hb4' hbe HX3
        have k2 := (cell_blk HX4.out 2).trans rfl
        have hwl : w.heap.size < w4.heap.size := (Array.getElem?_eq_some_iff.1 HX4.out).1
        go_wp2_with fail
        clear k2
        have hb5 : Below w.heap.size w (w4.alloc (.cells #[.pointer (some ⟨w3.heap.size + 2, 0, none⟩)] 65)) := HB4.out.alloc HB4.out.size _
        have hb25 : Below wr.heap.size wr (w4.alloc (.cells #[.pointer (some ⟨w3.heap.size + 2, 0, none⟩)] 65)) := HB24.out.alloc HB24.out.size _
        have hwr3 := HB23.out.size
        have hx5 := blkOld HX4.out (.cells #[.pointer (some ⟨w3.heap.size + 2, 0, none⟩)] 65)
        have hko := blkAt w4 (.cells #[.pointer (some ⟨w3.heap.size + 2, 0, none⟩)] 65) rfl
        have hbr5 := HBR4.out.alloc (.cells #[.pointer (some ⟨w3.heap.size + 2, 0, none⟩)] 65)
        have hbe5 := HBE.out.alloc (.cells #[.pointer (some ⟨w3.heap.size + 2, 0, none⟩)] 65)
        have hs5 : w4.heap.size < (w4.alloc (.cells #[.pointer (some ⟨w3.heap.size + 2, 0, none⟩)] 65)).heap.size := lt_alloc _ _
        generalize w4.alloc (.cells #[.pointer (some ⟨w3.heap.size + 2, 0, none⟩)] 65) = W5 at *
        have hpe := HBE.out.lt
        have hpl := HBR.out.lt
        have hw3 := HB3.out.size
        have htwo : ∀ k, twoB w3.heap.size k → w3.heap.size ≤ k ∧ k < w3.heap.size + 2 := fun k hk => by rcases hk with h | h <;> omega
        have hst : StO w (w3.heap.size + 2) w4.heap.size w.heap.size A3 vs.length c3 A2 n2 c2 r.head (fun k => A3.map Addr.block = some k ∧ wv.heap.size ≤ k ∧ k < wr.heap.size) W5 [] (twoB w3.heap.size) :=
          ⟨⟨_, hbe5, fun k hk => by rcases hk with hk | hk; have := htwo k hk; omega; exact hk.elim⟩, hb5, fun k hk => by have := htwo k hk; omega, hko, hx5, HH1.out.below hb25, fun k hk => by
            rcases hk with hk | hk | hk
            · exact ⟨by omega, fun h => by have := htwo k h; omega⟩
            · exact ⟨by omega, fun h => by have := htwo k h; omega⟩
            · exact ⟨by have := hk.2.2; omega, fun h => by have := htwo k h; have := hk.2.2; omega⟩⟩
        have hea := eachQ_any (ask1_ok w HL.out (w3.heap.size + 2) w4.heap.size w.heap.size A3 vs.length c3 A2 n2 c2 r.head (fun k => A3.map Addr.block = some k ∧ wv.heap.size ≤ k ∧ k < wr.heap.size) HOK.out.1 (by omega)) (R := fun k => (S k ∧ k < w.heap.size) ∨ F k ∨ I k ∨ k = p) (A := A2) (n := n2) (c := c2) (ps := p) (pa := p) (Fs := F) (Is := I) (Fa := F) (Ia := I) HBO.out HKD.out W5 [] (twoB w3.heap.size)
          (((HH2.out.wide (S' := fun k => S k ∧ k < w.heap.size) (fun k hk h => ⟨h, hk⟩) (by decide)).below hb5).wide (fun k _ h => .inl h) (by decide)) hbr5 hbr5 hst (by simp) (fun k hk => by
            rcases hk with h | h | h | h | h | h
            · exact .inr (.inl h)
            · exact .inr (.inr (.inl h))
            · exact .inr (.inr (.inr h))
            · exact .inr (.inl h)
            · exact .inr (.inr (.inl h))
            · exact .inr (.inr (.inr h))) (fun k hk => by
            rcases hk with h | h | h | h
            · exact ⟨by have := h.2; omega, fun h' => by have := htwo k h'; have := h.2; omega⟩
            · have := HBD.out k (.inl h); exact ⟨by omega, fun h' => by have := htwo k h'; omega⟩
            · have := HBD.out k (.inr h); exact ⟨by omega, fun h' => by have := htwo k h'; omega⟩
            · exact ⟨by omega, fun h' => by have := htwo k h'; omega⟩) HPR.out
        have hout : (iterF (outF r.head) (eachQ r.body (givenS model) (givenS model)) []).1 = outS r model := rfl
        rw [hout] at hea
        have HEA := Lib.hid hea; have HB5 := Lib.hid hb5; have HTW := Lib.hid htwo
        clear hb25 hst hea hout hbr5 hbe5 hko hx5 hb5 htwo HBR HBD HBR4 HBE HX4 HB4 HB3 HBO HKD HPR HH1 HH2
        generalize outS r model = out at *
        refine HEA.out.mono ?_
        rintro e w6 ⟨rfl, G', hs6, hg6, hf6⟩
        have hb6 : Below w.heap.size w w6 := HB5.out.trans (hf6.below (by have := HB5.out.size; omega) fun k hk h => by have := HTW.out k h; omega)
        obtain ⟨⟨I6, hbr6, hbd6⟩, -, hg6', hko6, -, -, -⟩ := hs6
        obtain ⟨fb, fm, q0, -, hmv, hfl⟩ := hbr6.len
        have k0 := (cell_blk hko6 0).trans rfl; have hkl6 : w4.heap.size < w6.heap.size := (Array.getElem?_eq_some_iff.1 hko6).1
        have hlm := hmv.len Tryz.underlying88 3
        have hso := fun w' (hb' : Below w6.heap.size w6 w') hN => sortedQ_any G' I6 (w3.heap.size + 2) out w' (hbr6.below hb') hN
        have HV2 := HV; have HB6 := Lib.hid hb6; have HSO := Lib.hid hso
        clear hb6 hso hbr6 hbd6 hg6' hko6 hmv hg6 hf6 HEA
        by_cases hl : 1024 < out.length
        · have hlI : (1024 : Int) < (fm.length : Int) := by omega
          have hv := HV.out
          rw [if_pos hl] at hv
          have HD := Lib.hid hv; clear hv hl hfl HV HV2
          go_wp2_with fail
          refine bodyPost_ret (v := .tuple #[.slice none 0 0, .int .i64 10]) (by simp [results, Tryz.results20, go_sem]) rfl ?_
          rw [HD.out]
          exact ⟨none, 0, 0, rfl, Sl.nil _ _ _ _ (by decide), HB6.out⟩
        · have hlI : ¬ (1024 : Int) < (fm.length : Int) := by omega
          have hv := HV.out
          rw [if_neg hl] at hv
          have hso2 := fun w' hb' => HSO.out w' hb' (by omega)
          have HD := Lib.hid hv; have HSO2 := Lib.hid hso2; have HLQ := Lib.hid (show out.length ≤ 1024 by omega); clear hv hl hfl HV HV2 hso2
          have hsl100 : out.length ≤ 1024 := by have := HLQ.out; omega
          go_wp2_with fail
          have hsA : (w6.alloc (.cells #[] 29)).heap.size = w6.heap.size + 1 := by simp
          refine (HSO2.out _ boxed).mono ?_
          rintro e w7 ⟨A7, n7, c7, rfl, hs7, hb7⟩
          obtain rfl : n7 = (sortT out).length := hs7.len
          have hLl : (sortT out).length ≤ 1024 := by rw [len_sortT]; exact hsl100
          have hs7' := hs7.wide (S' := fun k => w6.heap.size + 1 ≤ k ∧ k < w7.heap.size) (fun k hk h => ⟨by rw [hsA] at h; exact h, hk⟩) (by decide)
          have hown0 : Own (α := List Arg) w7 (fun k => w6.heap.size + 1 ≤ k ∧ k < w7.heap.size) w6.heap.size 29 (some ⟨w6.heap.size, 0, none⟩) 0 [] := (Own.emp (blkAt _ _ rfl) (Nat.le_refl _)).below hb7
          have hb7' : Below w.heap.size w w7 := (HB6.out.alloc HB6.out.size _).trans (hb7.mono (by have := HB6.out.size; omega))
          have hz7 := hb7.size
          rw [hsA] at hz7
          have hw6 := HB6.out.size
          have HS7 := Lib.hid hs7'; have HO0 := Lib.hid hown0; have HB7 := Lib.hid hb7'
          clear hs7 hs7' hown0 hb7 hb7' hsA HSO2
          generalize sortT out = L at *
          go_wp2_with fail
          go_loopw [12, 60] (fun o i wr => ∃ k : Nat, k ≤ L.length ∧ i = .int .i64 k ∧ ∃ A c, o = .slice A k c ∧ Hid (Own wr (fun k => w6.heap.size + 1 ≤ k ∧ k < w7.heap.size) w6.heap.size 29 A c ((L.take k).map (·.args)) ∧ (∀ q, A.map Addr.block = some q → q = w6.heap.size ∨ w7.heap.size ≤ q) ∧ w7.heap.size ≤ wr.heap.size ∧ (∀ q, w6.heap.size + 1 ≤ q → q < w7.heap.size → wr.heap[q]? = w7.heap[q]?) ∧ Below w.heap.size w wr)) (fun _ i _ => L.length - (intOf i).toNat)
          case atStart => exact ⟨0, by omega, rfl, _, _, rfl, Lib.hid ⟨HO0.out, fun q hq => .inl (by injection hq with hq; exact hq.symm), Nat.le_refl _, fun _ _ _ => rfl, HB7.out⟩⟩
          case round =>
            obtain ⟨k, hk, rfl, A, c, rfl, hq⟩ := hrel
            obtain ⟨h1, h2, h3, h4, h5⟩ := hq.out
            clear hq
            by_cases hlt : k < L.length
            · obtain ⟨b2, o2, rfl, -, hbs2, An, nn, cn, g1, g2, hsx⟩ := (HS7.out.keep (w' := wr) fun q _ hq => h4 q hq.1 hq.2).atm hlt
              have htk : (L.take (k + 1)).map (·.args) = (L.take k).map (·.args) ++ [L[k].args] := by rw [List.take_succ_eq_append_getElem hlt, List.map_append]; rfl
              have hxl : ((L.take k).map (·.args)).length = k := by rw [List.length_map, List.length_take]; omega
              generalize L[k] = x at *
              have hne : ∀ q, (w6.heap.size + 1 ≤ q ∧ q < w7.heap.size) → A.map Addr.block ≠ some q := fun q hq e => by rcases h2 q e with h | h <;> omega
              have H1 := Lib.hid h1; have H2 := Lib.hid h2; have H3 := Lib.hid h3; have H4 := Lib.hid h4; have H5 := Lib.hid h5; have HSX := Lib.hid hsx; have HTK := Lib.hid htk; have HXL := Lib.hid hxl; have HNE := Lib.hid hne
              clear h1 h2 h4 h5 hsx htk hxl hne
              go_wp2_with (at_builtin; go_loud (refine wpList_app1 rfl _ _ eltArgs rfl (by decide) rfl rfl HXL.out.symm ((H1.out.alloc _).alloc _) rfl [.slice An nn cn] x.args (blkAt _ _ (by simp)) rfl ⟨An, nn, cn, rfl, ((HSX.out.alloc _).alloc _).wide (fun q _ hq => ⟨hq, HNE.out q hq⟩) (by decide), by decide⟩ (by rw [HXL.out]; omega) (by rw [HXL.out]; omega) (by simp; omega) ?_); intro A5 c5 w9 hown9 hg9 hat9)
              have hsz9 := hg9.size
              have hsB : ((wr.alloc (.cells #[.string ⟨x.name.toArray⟩, .slice An nn cn] 31)).alloc (.cells #[.slice An nn cn] 29)).heap.size = wr.heap.size + 2 := by simp
              rw [hsB] at hsz9 hat9
              have hb9 : Below w.heap.size w w9 := ((H5.out.alloc H5.out.size _).alloc (by have := H5.out.size; simp; omega) _).grown hg9 (by have := H5.out.size; omega) (fun q hq => by have := (H1.out.lt q hq).1; omega)
              have hk9 : ∀ q, w6.heap.size + 1 ≤ q → q < w7.heap.size → w9.heap[q]? = w7.heap[q]? := fun q hq1 hq2 => by
                rw [hg9.block q (by omega) (fun e => HNE.out q ⟨hq1, hq2⟩ e.symm), Below.heap_alloc _ _ q (by simp; omega), Below.heap_alloc _ _ q (by omega), H4.out q hq1 hq2]
              have hA9 : ∀ q, A5.map Addr.block = some q → q = w6.heap.size ∨ w7.heap.size ≤ q := fun q hq => by
                rcases hat9 with h | h
                · exact H2.out q (by rw [← h]; exact hq)
                · rw [h] at hq; injection hq with hq; exact .inr (by omega)
              have hwz : w7.heap.size ≤ w9.heap.size := by omega
              rw [← HTK.out] at hown9
              have HQ := Lib.hid (And.intro hown9 (And.intro hA9 (And.intro hwz (And.intro hk9 hb9))))
              clear hown9 hA9 hk9 hb9 hg9 hat9 hsz9 hsB hwz
              go_wp2_with fail
              go_roundw
              case rel => exact ⟨k + 1, by omega, by go_num, A5, c5, by first | rfl | simp, HQ⟩
              case measure => simp [intOf]; omega
            · have hke : k = L.length := by omega
              subst hke
              rw [List.take_length] at h1
              have H1 := Lib.hid h1; have H2 := Lib.hid h2; have H5 := Lib.hid h5
              clear h1 h2 h3 h4 h5
              go_wp2_with fail
              refine bodyPost_ret (v := .tuple #[.slice A L.length c, .int .i64 0]) (by simp [results, Tryz.results20, go_sem]) rfl ?_
              rw [HD.out]
              refine ⟨A, L.length, c, rfl, ((H1.out.sl (by decide)).cast (by rw [List.length_map])).wide (fun q _ hq => ?_) (by decide), H5.out⟩
              rcases hq with hq | hq
              · have := hq.1; omega
              · rcases H2.out q hq with h | h <;> omega
  · rw [if_pos he] at hV
    have hne : (readyS ⟨⟨sAsk, []⟩, question⟩ model == 0) = false := by simpa using he
    generalize readyS ⟨⟨sAsk, []⟩, question⟩ model = E at *
    have HRD := Lib.hid hrd; have HD := Lib.hid hV; have HB1 := Lib.hid hb1
    clear hrd hV hb1 hx1 h2 hL hm hq hom hr he
    go_enter Tryz.func20, Tryz.ntmps20
    go_wp2_with fail
    refine HRD.out.mono ?_
    rintro e w2 ⟨rfl, hb2⟩
    have hb2' := HB1.out.trans (hb2.mono HB1.out.size)
    have HB2 := Lib.hid hb2'; clear hb2 hb2'
    go_wp2_with fail
    refine bodyPost_ret (v := .tuple #[.slice none 0 0, .int .i64 E]) (by simp [results, Tryz.results20, go_sem]) rfl ?_
    rw [HD.out]
    exact ⟨none, 0, 0, rfl, Sl.nil _ _ _ _ (by decide), HB2.out⟩
end Go.Proofs.YtkjoaodoioicpaaGreatDoor
namespace Go.Proofs.YtkjoaodoioicpaaGreatDoor
open Go.RowKit
structure RkX (w0 : World) (pk kr kk kh : Nat) (A : Option Addr) (n c : Nat) (B : Option Addr) (m d : Nat) (head : Atm) (Fk Ik : Nat → Prop) (Lk : List Atm) (R : Nat → Prop) (w : World) (sh : List Atm) (Th : Nat → Prop) (Ah : Option Addr) (ch : Nat) : Prop where
  hb : w.heap[kh]? = some (.cells #[.slice Ah sh.length ch] 23 (0, 0))
  ho : Own w Th w0.heap.size 31 Ah ch sh
  d3 : ∀ k, Th k → k < w.heap.size ∧ k ≠ kh ∧ Ah.map Addr.block ≠ some k ∧ w0.heap.size ≤ k
  d4 : Ah.map Addr.block ≠ some kh ∧ w0.heap.size ≤ kh
  base : BaseR w Fk Ik pk Lk
  b1 : w.heap[kr]? = some (.cells #[.string ⟨head.name.toArray⟩, .slice A n c, .slice B m d] 34 (0, 0))
  b2 : w.heap[kk]? = some (.cells #[.pointer (some ⟨pk, 0, none⟩)] 65 (0, 0))
  sl : Sl w R A n c head.args
  rd : ∀ k, (k = kr ∨ k = kk ∨ R k ∨ Fk k ∨ Ik k ∨ k = pk) → k < w.heap.size ∧ k ≠ kh ∧ Ah.map Addr.block ≠ some k
  bel : Below w0.heap.size w0 w
section
variable {w0 : World} {pk kr kk kh : Nat} {A : Option Addr} {n c : Nat} {B : Option Addr} {m d : Nat} {head : Atm} {Fk Ik : Nat → Prop} {Lk : List Atm} {R : Nat → Prop} {w w' : World} {sh : List Atm} {Th : Nat → Prop} {Ah : Option Addr} {ch : Nat}
theorem RkX.below (h : RkX w0 pk kr kk kh A n c B m d head Fk Ik Lk R w sh Th Ah ch) (hb : Below w.heap.size w w') : RkX w0 pk kr kk kh A n c B m d head Fk Ik Lk R w' sh Th Ah ch where
  hb := keptBlk hb h.hb
  ho := h.ho.below hb
  d3 := fun k hk => ⟨Nat.lt_of_lt_of_le (h.d3 k hk).1 hb.size, (h.d3 k hk).2⟩
  d4 := h.d4
  base := h.base.below hb
  b1 := keptBlk hb h.b1
  b2 := keptBlk hb h.b2
  sl := h.sl.below hb
  rd := fun k hk => ⟨Nat.lt_of_lt_of_le (h.rd k hk).1 hb.size, (h.rd k hk).2⟩
  bel := h.bel.trans (hb.mono h.bel.size)
theorem RkX.app (h : RkX w0 pk kr kk kh A n c B m d head Fk Ik Lk R w sh Th Ah ch) {J : Nat → Prop} (hJ : ∀ k, J k → k < w.heap.size ∧ k ≠ kh ∧ Ah.map Addr.block ≠ some k ∧ w0.heap.size ≤ k) (o : Obj) :
    Own (w.alloc o) (fun k => Th k ∨ J k) w0.heap.size 31 Ah ch sh ∧ (∀ k, J k → (fun k => Th k ∨ J k) k ∧ Ah.map Addr.block ≠ some k) ∧
    ∀ (y : Atm) (w2 : World) A' c', Own w2 (fun k => Th k ∨ J k) w0.heap.size 31 A' c' (sh ++ [y]) → (w.alloc o).grownBy w2 (Ah.map Addr.block) → (A'.map Addr.block = Ah.map Addr.block ∨ A'.map Addr.block = some (w.alloc o).heap.size) →
      RkX w0 pk kr kk kh A n c B m d head Fk Ik Lk R (w2.setCell ⟨kh, 0, none⟩ (.slice A' (sh.length + 1) c')) (sh ++ [y]) (fun k => Th k ∨ J k) A' c' := by
  have hkh := (Array.getElem?_eq_some_iff.1 h.hb).1
  have hsz : (w.alloc o).heap.size = w.heap.size + 1 := by simp
  refine ⟨(h.ho.alloc o).wide fun k _ hk => .inl hk, fun k hk => ⟨.inr hk, (hJ k hk).2.2.1⟩, fun y w2 A' c' ho2 hg2 hat => ?_⟩
  have hz2 := hg2.size
  have hall : ∀ k, k < w.heap.size → k ≠ kh → Ah.map Addr.block ≠ some k → (w2.setCell ⟨kh, 0, none⟩ (.slice A' (sh.length + 1) c')).heap[k]? = w.heap[k]? := fun k hk hne hA => by
    rw [set_other _ _ _ _ _ hne, hg2.block k (by omega) (fun e => hA e.symm), Below.heap_alloc w o k hk]
  have hkh2 : w2.heap[kh]? = some (.cells #[.slice Ah sh.length ch] 23 (0, 0)) := by
    rw [hg2.block kh (by omega) (fun e => h.d4.1 e.symm), Below.heap_alloc w o kh hkh]; exact h.hb
  have hA' : ∀ k, k < w.heap.size → Ah.map Addr.block ≠ some k → A'.map Addr.block ≠ some k := fun k hk hA e => by
    rcases hat with hat | hat
    · exact hA (by rw [← hat]; exact e)
    · rw [hat] at e; injection e with e; omega
  have hk : ∀ k, (k = kr ∨ k = kk ∨ R k ∨ Fk k ∨ Ik k ∨ k = pk) → (w2.setCell ⟨kh, 0, none⟩ (.slice A' (sh.length + 1) c')).heap[k]? = w.heap[k]? := fun k hk => hall k (h.rd k hk).1 (h.rd k hk).2.1 (h.rd k hk).2.2
  have hz3 : (w2.setCell ⟨kh, 0, none⟩ (.slice A' (sh.length + 1) c')).heap.size = w2.heap.size := by simp [World.setCell]
  refine ⟨?_, ho2.keep fun k _ hT => set_other _ _ _ _ _ ?_, fun k hk' => ?_, ⟨hA' kh hkh h.d4.1, h.d4.2⟩, h.base.keep fun k _ hk' => hk k (by rcases hk' with e | e | e <;> simp [e]), (hk kr (by simp)).trans h.b1, (hk kk (by simp)).trans h.b2, h.sl.keep fun k _ hr => hk k (by simp [hr]),
    fun k hk' => ⟨by have := (h.rd k hk').1; omega, (h.rd k hk').2.1, hA' k (h.rd k hk').1 (h.rd k hk').2.2⟩, ?_⟩
  · rw [Blk.set w2 hkh2 0]
    simp
  · rcases hT with (hT | hT) | hT
    · exact (h.d3 k hT).2.1
    · exact (hJ k hT).2.1
    · intro e
      rw [e] at hT
      exact hA' kh hkh h.d4.1 hT
  · rcases hk' with hk' | hk'
    · have := h.d3 k hk'; exact ⟨by omega, this.2.1, hA' k this.1 this.2.2.1, this.2.2.2⟩
    · have := hJ k hk'; exact ⟨by omega, this.2.1, hA' k this.1 this.2.2.1, this.2.2.2⟩
  · have hb1 : Below w0.heap.size w0 (w.alloc o) := h.bel.alloc h.bel.size o
    exact (hb1.grown hg2 hb1.size (fun k hk => (h.ho.lt k hk).1)).setCell (p := ⟨kh, 0, none⟩) h.d4.2 _
end
def StK (w0 : World) (pk kr kk kh : Nat) (A : Option Addr) (n c : Nat) (B : Option Addr) (m d : Nat) (head : Atm) (Fk Ik : Nat → Prop) (Lk : List Atm) (R : Nat → Prop) (w : World) (s : List Atm) (G : Nat → Prop) : Prop :=
  ∃ Th Ah ch, RkX w0 pk kr kk kh A n c B m d head Fk Ik Lk R w s Th Ah ch ∧ ∀ k, G k ↔ (k = kh ∨ Ah.map Addr.block = some k)
set_option maxRecDepth 100000 in
set_option maxHeartbeats 16000000 in
theorem rank1_any (w0 : World) (hL : LD w0) (pk kr kk kh : Nat) (A : Option Addr) (n c : Nat) (B : Option Addr) (m d : Nat) (head : Atm) (Fk Ik : Nat → Prop) (Lk : List Atm) (R : Nat → Prop) (hok : OkT head) (hN : head.args.length ≤ 1000000)
    (w : World) (s : List Atm) (G : Nat → Prop) (b : Nat) (v : Bnd) (hst : StK w0 pk kr kk kh A n c B m d head Fk Ik Lk R w s G) (hlv : s.length + 1 ≤ 100000) (hm : MapA w b v) (hnb : ¬ G b) (hg : groundP (atomV v head) = true) :
    Calls Tryz.prog 43 (#[.map (some b)] ++ #[.pointer (some ⟨kr, 0, none⟩), .pointer (some ⟨kk, 0, none⟩), .pointer (some ⟨kh, 0, none⟩)]) w fun e w' => e = .returned (.bool (rankF Lk head s v).2) ∧
      ∃ G', StK w0 pk kr kk kh A n c B m d head Fk Ik Lk R w' (rankF Lk head s v).1 G' ∧ (∀ k, G' k → G k ∨ w.heap.size ≤ k) ∧ Frm G w w' := by
  obtain ⟨Th, Ah, ch, hx, hG⟩ := hst
  have hn := hx.sl.len
  subst hn
  have hat := fun w' (hb' : Below w.heap.size w w') => atomQ_any v head b A head.args.length c w' R (hm.below hb') (hx.sl.below hb') hok hN
  have hhas := fun (w' : World) (hb' : Below w.heap.size w w') (A' : Option Addr) (n' c' : Nat) (S' : Nat → Prop) (hs' : Sl w' S' A' n' c' (atomV v head).args) => hasQ_any Fk Ik pk Lk (atomV v head) A' n' c' w' S' (hx.base.below hb') hs' (ground_okT hg).1 (hL.below (hx.bel.trans (hb'.mono hx.bel.size)))
  obtain ⟨V, hV⟩ : ∃ V, V = rankF Lk head s v := ⟨_, rfl⟩
  rw [← hV]
  unfold rankF at hV
  generalize atomV v head = y at *
  have HVV := Lib.hid hV; clear hV
  have hGh : G kh := (hG kh).2 (.inl rfl)
  have hGA : ∀ k, Ah.map Addr.block = some k → G k := fun k hk => (hG k).2 (.inr hk)
  have k0 := (cell_blk hx.b1 0).trans rfl; have k1 := (cell_blk hx.b1 1).trans rfl
  have HAT := Lib.hid (hat w (Below.refl _ _)); have HHAS := Lib.hid hhas; have HX0 := Lib.hid hx; have HGH := Lib.hid hGh; have HGA := Lib.hid hGA; have HG := Lib.hid hG
  clear hat hhas hx hG hGh hGA hm hnb hok hN hg hL
  go_enter Tryz.func43, Tryz.ntmps43
  go_wp2_with fail
  refine HAT.out.mono ?_
  rintro e w1 ⟨⟨A1, n1, c1, rfl, hs1⟩, hb1⟩
  obtain rfl : n1 = y.args.length := hs1.len
  have hX1 := HX0.out.below hb1
  have k2 := (cell_blk hX1.b2 0).trans rfl
  have HB1 := Lib.hid hb1; have HX1 := Lib.hid hX1
  have hs1' := hs1.wide (S' := fun k => w.heap.size ≤ k ∧ k < w1.heap.size) (fun k hk h => ⟨h, hk⟩) (by decide)
  have HS1 := Lib.hid hs1'
  have hkb : kk < w1.heap.size := (Array.getElem?_eq_some_iff.1 HX1.out.b2).1
  clear hs1 hb1 hX1 k0 k1 HAT hs1'
  go_wp2_with fail
  have hb2 : Below w.heap.size w (w1.alloc (.cells #[.string ⟨y.name.toArray⟩, .slice A1 y.args.length c1] 31)) := HB1.out.alloc HB1.out.size _
  have hX2 := HX1.out.below (w' := w1.alloc (.cells #[.string ⟨y.name.toArray⟩, .slice A1 y.args.length c1] 31)) boxed
  have hy2 := blkAt w1 (.cells #[.string ⟨y.name.toArray⟩, .slice A1 y.args.length c1] 31) rfl
  have hs2 := HS1.out.alloc (.cells #[.string ⟨y.name.toArray⟩, .slice A1 y.args.length c1] 31)
  generalize w1.alloc (.cells #[.string ⟨y.name.toArray⟩, .slice A1 y.args.length c1] 31) = W2 at *
  clear k2 hkb
  refine (HHAS.out W2 hb2 _ _ _ _ hs2).mono ?_
  rintro e w3 ⟨rfl, hb3⟩
  have hb3' := hb2.trans (hb3.mono hb2.size)
  have hX3 := hX2.below hb3
  have hy3 := keptBlk hb3 hy2
  have hs3 := hs2.below hb3
  have hw13 : w1.heap.size < w3.heap.size := (Array.getElem?_eq_some_iff.1 hy3).1
  have hww1 := HB1.out.size
  have HX3 := Lib.hid hX3; have HY3 := Lib.hid hy3; have HS3 := Lib.hid hs3; have HB3 := Lib.hid hb3'
  clear hb2 hX2 hy2 hs2 hb3 hb3' hX3 hy3 hs3 HHAS
  cases hcb : Lk.contains y
  case true =>
    have hv := HVV.out
    rw [hcb, if_pos rfl] at hv
    have HV := Lib.hid hv
    clear hcb hv HVV
    go_wp2_with fail
    refine bodyPost_ret (v := .bool true) (by simp [results, Tryz.results43, go_sem]) rfl ?_
    rw [HV.out]
    exact ⟨rfl, _, ⟨_, _, _, HX3.out, fun k => Iff.rfl⟩, fun k hk => .inl ((HG.out k).2 hk), Frm.any HB3.out⟩
  case false =>
    have hv := HVV.out
    rw [hcb, if_neg (by decide)] at hv
    have HV := Lib.hid hv
    clear hcb hv HVV
    have hkl := (Array.getElem?_eq_some_iff.1 HX0.out.hb).1
    have hAl := HX0.out.ho.lt
    have happ := HX3.out.app (J := fun k => w.heap.size ≤ k ∧ k < w1.heap.size) (fun k hk => ⟨by have := hk.2; omega, fun e => by have := hk.1; omega, fun e => by have := (hAl k e).2; have := hk.1; omega, by have := HX0.out.bel.size; have := hk.1; omega⟩) (.cells #[.string ⟨y.name.toArray⟩, .slice A1 y.args.length c1] 31)
    have hkh5 : ∀ w5, (w3.alloc (.cells #[.string ⟨y.name.toArray⟩, .slice A1 y.args.length c1] 31)).grownBy w5 (Ah.map Addr.block) → w5.heap[kh]? = some (.cells #[.slice Ah s.length ch] 23 (0, 0)) := fun w5 hg5 => grownBlk hg5 (blkOld HX3.out.hb _) HX3.out.d4.1
    have k4 := (cell_blk HX3.out.hb 0).trans rfl
    have y0 := (cell_blk HY3.out 0).trans rfl; have y1 := (cell_blk HY3.out 1).trans rfl
    have hb0 : w0.heap.size ≤ (w3.alloc (.cells #[.string ⟨y.name.toArray⟩, .slice A1 y.args.length c1] 31)).heap.size := Nat.le_trans HX3.out.bel.size (Nat.le_of_lt (lt_alloc _ _))
    have HAPP := Lib.hid happ; have HKH := Lib.hid hkh5; have HAL := Lib.hid hAl
    clear happ hkh5 hAl
    go_wp2_with (at_builtin; go_loud (refine wpList_app1 rfl _ _ eltAtm rfl (by decide) rfl rfl rfl HAPP.out.1 rfl [.string ⟨y.name.toArray⟩, .slice A1 y.args.length c1] y (blkAt _ _ rfl) rfl ⟨rfl, A1, _, c1, rfl, (HS3.out.alloc _).wide (fun k _ hk => HAPP.out.2.1 k hk) (by decide)⟩ (by omega) (by omega) hb0 ?_); intro A3 c3 w5 hown5 hg5 hat5; have k5 := (cell_blk (HKH.out w5 hg5) 0).trans rfl; have z5 := frz_blk (HKH.out w5 hg5) 0; have hX6 := HAPP.out.2.2 y w5 A3 c3 hown5 hg5 hat5; have hfr6 : Frm G w (w5.setCell ⟨kh, 0, none⟩ (.slice A3 (s.length + 1) c3)) := (((Frm.any HB3.out).alloc _).grown hg5 (fun k hk _ => HGA.out k hk)).setCell (p := ⟨kh, 0, none⟩) (fun _ => HGH.out) _; have HX6 := Lib.hid hX6; have HFR6 := Lib.hid hfr6; have HAT5 := Lib.hid hat5; clear hown5 hg5 hat5 hX6 hfr6)
    refine bodyPost_ret (v := .bool true) (by simp [results, Tryz.results43, go_sem]) rfl ?_
    have hsA : (w3.alloc (.cells #[.string ⟨y.name.toArray⟩, .slice A1 y.args.length c1] 31)).heap.size = w3.heap.size + 1 := by simp
    have hat5 := HAT5.out
    rw [hsA] at hat5
    have hb3s := HB3.out.size
    rw [HV.out]
    refine ⟨rfl, _, ⟨_, _, _, HX6.out, fun k => Iff.rfl⟩, fun k hk => ?_, HFR6.out⟩
    rcases hk with hk | hk
    · exact .inl (by rw [hk]; exact HGH.out)
    · rcases hat5 with h | h
      · exact .inl (HGA.out k (by rw [← h]; exact hk))
      · rw [h] at hk; injection hk with hk; exact .inr (by omega)
theorem rank1_ok (w0 : World) (hL : LD w0) (pk kr kk kh : Nat) (A : Option Addr) (n c : Nat) (B : Option Addr) (m d : Nat) (head : Atm) (Fk Ik : Nat → Prop) (Lk : List Atm) (R : Nat → Prop) (hok : OkT head) (hN : head.args.length ≤ 1000000) :
    CbOk 43 #[.pointer (some ⟨kr, 0, none⟩), .pointer (some ⟨kk, 0, none⟩), .pointer (some ⟨kh, 0, none⟩)] (rankF Lk head) (fun v => groundP (atomV v head) = true) (fun s n => s.length + n ≤ 100000) (StK w0 pk kr kk kh A n c B m d head Fk Ik Lk R) where
  enter := fun _ _ => by kernel_rfl
  keep := fun h hb => by
    obtain ⟨Th, Ah, ch, hx, hG⟩ := h
    exact ⟨Th, Ah, ch, hx.below hb, hG⟩
  ld := fun h => by
    obtain ⟨Th, Ah, ch, hx, hG⟩ := h
    exact hL.below hx.bel
  bd := fun h k hk => by
    obtain ⟨Th, Ah, ch, hx, hG⟩ := h
    rcases (hG k).1 hk with e | e
    · rw [e]; exact (Array.getElem?_eq_some_iff.1 hx.hb).1
    · exact (hx.ho.lt k e).2
  lvm := fun s n m h1 h2 => by omega
  lv := fun s v n h1 h2 => by
    unfold rankF
    simp only
    split
    · omega
    · rw [List.length_append, List.length_singleton]; omega
  call := fun w s G b v h1 h2 h3 h4 h5 => rank1_any w0 hL pk kr kk kh A n c B m d head Fk Ik Lk R hok hN w s G b v h1 h2 h3 h4 h5
end Go.Proofs.YtkjoaodoioicpaaGreatDoor
