/- A part of the proofs of the laws of one package; see the law's own text, which comes last in 'order'. No conditions of its own. -/
import Derived.Test.YtpeamehplhpcjaaGreatDoorZ11
import Derived.Test.YtpeamehplhpcjaaGreatDoorZ26
import Derived.Test.YtpeamehplhpcjaaGreatDoorZ33
set_option linter.unusedVariables false
set_option linter.unusedSimpArgs false
namespace Go.Proofs.YtpeamehplhpcjaaGreatDoor
open Go.RowKit
theorem wpAnyV_two {P : Program} {ops : Array Oper} {Q : Exit → Act → World → Prop} {md : Region.Mode} {S : World → Prop} {N : List Nat} (i j : Nat) {o o' : Oper} {fuel : Nat} {listed : Array Bool} {a : Act} {w : World} (hr : Region.ready md ops listed = [i, j]) (ho : ops[i]? = some o) (ho' : ops[j]? = some o')
    (h : ∀ K' : Act → World → Prop, Shut (∀ a' w', (i ∉ N → S w → S w') → wpAnyV P md ops Q S N fuel (listed.setIfInBounds i true) a' w' → K' a' w') → if Region.wanted o (yielded ops a.tmps) = true then Oper.wp P o a w K' Q else K' (a.put o.dst undef) w)
    (h' : ∀ K' : Act → World → Prop, Shut (∀ a' w', (j ∉ N → S w → S w') → wpAnyV P md ops Q S N fuel (listed.setIfInBounds j true) a' w' → K' a' w') → if Region.wanted o' (yielded ops a.tmps) = true then Oper.wp P o' a w K' Q else K' (a.put o'.dst undef) w) :
    wpAnyV P md ops Q S N (fuel + 1) listed a w := by
  refine ⟨fun h0 => (by rw [hr] at h0; cases h0), fun x hx => ?_⟩
  rw [hr] at hx
  rcases List.mem_cons.1 hx with rfl | hx
  · exact wpOp_step ho (fun K' hK => h K' (fun a w hS hW => hK a w ⟨hS, hW⟩))
  · rcases List.mem_cons.1 hx with rfl | hx
    · exact wpOp_step ho' (fun K' hK => h' K' (fun a w hS hW => hK a w ⟨hS, hW⟩))
    · cases hx
theorem addR_cons (s : Spn) (r : List Spn) (x : Spn) (d : Bool) : addR (s :: r) x d = if touchS s x then addR r ⟨x.path, min x.fr s.fr, max x.tu s.tu⟩ d else if !d && afterS s x then x :: s :: addR r x true else s :: addR r x d := rfl
set_option maxRecDepth 100000 in
set_option maxHeartbeats 4000000 in
theorem addSpan_any (A : Option Addr) (n c : Nat) (w : World) (S : Nat → Prop) (l : List Spn) (hl : Sl w S A n c l) (xp : Bs) (xf0 xt0 : Int) (hN : l.length ≤ 1000000) :
    Calls Tryz.prog 176 #[.slice A n c, .agg #[.string ⟨xp.toArray⟩, .int .i64 xf0, .int .i64 xt0]] w fun e w' => ∃ A' n' c', e = .returned (.slice A' n' c') ∧ Sl w' (fun b => w.heap.size ≤ b) A' n' c' (addR l ⟨xp, xf0, xt0⟩ false) ∧ Below w.heap.size w w' := by
  have hn := hl.len
  have hlen := hl.le
  subst hn
  obtain ⟨V, hV⟩ : ∃ V, V = addR l ⟨xp, xf0, xt0⟩ false := ⟨_, rfl⟩
  rw [← hV]
  have Hf : Hid (V = [] ++ addR (l.drop 0) ⟨xp, xf0, xt0⟩ false) := hV
  have HL := Lib.hid hl
  clear hV hl
  go_enter Tryz.func176, Tryz.ntmps176
  go_upto_region 1 with fail
  have hb0 : Below w.heap.size w (w.alloc (.cells #[.string ⟨xp.toArray⟩, .int .i64 xf0, .int .i64 xt0] 46)) := by ((repeat (first | (with_reducible exact Below.refl _ _) | (with_reducible refine belowA ?_ _) | (with_reducible refine belowD ?_) | (with_reducible refine belowS ?_ (Nat.le_refl _) _ _) | (with_reducible refine next ?_ (by assumption) (Nat.le_refl _)))); done)
  have hg0 := blkAt w (.cells #[.string ⟨xp.toArray⟩, .int .i64 xf0, .int .i64 xt0] 46) rfl
  generalize (w.alloc (.cells #[.string ⟨xp.toArray⟩, .int .i64 xf0, .int .i64 xt0] 46)) = W at *
  have HB0 := Lib.hid hb0; have HG0 := Lib.hid hg0
  have hgb : w.heap.size + 1 ≤ W.heap.size := (Array.getElem?_eq_some_iff.1 hg0).1
  clear hb0 hg0
  go_wp2_with fail
  go_loopw [5, 6, 11] (fun o dn i wr => ∃ (k : Nat) (out : List Spn) (A' : Option Addr) (c' : Nat) (d : Bool) (xf xt : Int), k ≤ l.length ∧ o = .slice A' out.length c' ∧ dn = .bool d ∧ i = .int .i64 k ∧ out.length ≤ 2 * k ∧ Own wr (fun _ => False) (w.heap.size + 1) 46 A' c' out ∧ Below w.heap.size w wr ∧ wr.heap[w.heap.size]? = some (.cells #[.string ⟨xp.toArray⟩, .int .i64 xf, .int .i64 xt] 46 (0, 0)) ∧ Hid (V = out ++ addR (l.drop k) ⟨xp, xf, xt⟩ d)) (fun _ _ i _ => l.length - (intOf i).toNat)
  case atStart => exact ⟨0, [], none, 0, false, xf0, xt0, by omega, rfl, rfl, rfl, by simp, Own.nil _ _ _ _, HB0.out, HG0.out, Hf⟩
  case round =>
    obtain ⟨k, out, A', c', d, xf, xt, hk, rfl, rfl, rfl, hol, ho, hb, hg, hf⟩ := hrel
    by_cases hlt : k < l.length
    · obtain ⟨b, o, rfl, -, hbs, c0, c1, c2⟩ := (HL.out.below hb).spn hlt
      have hd := hf.out
      rw [drop_get hlt, addR_cons] at hd
      clear hf Hf
      generalize l[k] = s at *
      obtain ⟨sp, sf, st⟩ := s
      simp only at c0 c1 c2
      unfold touchS afterS at hd
      simp only at hd
      have HO := Lib.hid (ho.alloc (.cells #[.string ⟨sp.toArray⟩, .int .i64 sf, .int .i64 st] 46))
      have HB := Lib.hid (hb.alloc hb.size (.cells #[.string ⟨sp.toArray⟩, .int .i64 sf, .int .i64 st] 46))
      have HG := Lib.hid (blkOld hg (.cells #[.string ⟨sp.toArray⟩, .int .i64 sf, .int .i64 st] 46))
      have HXN := Lib.hid (ho.ne (Nat.le_refl wr.heap.size))
      have HX := Lib.hid (blkAt wr (.cells #[.string ⟨sp.toArray⟩, .int .i64 sf, .int .i64 st] 46) rfl)
      have hgs : w.heap.size < wr.heap.size := (Array.getElem?_eq_some_iff.1 hg).1
      go_upto_region 6 with fail
      generalize (wr.alloc (.cells #[.string ⟨sp.toArray⟩, .int .i64 sf, .int .i64 st] 46)) = W1 at *
      generalize wr.heap.size = gs at *
      have hsW := HB.out.size
      have hgW : w.heap.size + 1 ≤ W1.heap.size := (Array.getElem?_eq_some_iff.1 HG.out).1
      have s0 := (cell_blk HX.out 0).trans rfl; have s1 := (cell_blk HX.out 1).trans rfl; have s2 := (cell_blk HX.out 2).trans rfl
      have x0 := (cell_blk HG.out 0).trans rfl; have x1 := (cell_blk HG.out 1).trans rfl; have x2 := (cell_blk HG.out 2).trans rfl
      clear ho hb hg c0 c1 c2 hbs
      by_cases ht : sp = xp ∧ sf ≤ xt ∧ xf ≤ st
      · obtain ⟨rfl, ht1, ht2⟩ := ht
        have HD := Lib.hid (show V = out ++ addR (l.drop (k + 1)) ⟨sp, min xf sf, max xt st⟩ d by rw [hd]; simp [ht1, ht2])
        clear hd
        go_upto_region 7 with fail
        have HX7 := HX.out
        have HZ := HG.out
        clear s0 s1 s2 x0 x1 x2
        have HO1 := Lib.hid HO.out.drew; have HB1 := Lib.hid HB.out.drew
        have HX := Lib.hid (fun (z : World) (hz : z.heap[w.heap.size]? = some (.cells #[.string ⟨sp.toArray⟩, .int .i64 xf, .int .i64 xt] 46 (0, 0)) ∧ z.heap[gs]? = some (.cells #[.string ⟨sp.toArray⟩, .int .i64 sf, .int .i64 st] 46 (0, 0))) => And.intro ((cell_blk hz.1 1).trans rfl) (And.intro ((cell_blk hz.1 2).trans rfl) (And.intro ((cell_blk hz.2 1).trans rfl) ((cell_blk hz.2 2).trans rfl))))
        refine wpV_region (fun z => z.heap[w.heap.size]? = some (.cells #[.string ⟨sp.toArray⟩, .int .i64 xf, .int .i64 xt] 46 (0, 0)) ∧ z.heap[gs]? = some (.cells #[.string ⟨sp.toArray⟩, .int .i64 sf, .int .i64 st] 46 (0, 0))) [11, 13] (by kernel_rfl) ?_
        have hS := And.intro (blkDrw HZ) (blkDrw HX7)
        clear HZ HX7
        generalize W1.drew = W2 at *
        have f1 := frz_blk hS.1 1; have f2 := frz_blk hS.1 2
        have c1 := (cell_blk hS.1 1).trans rfl; have c2 := (cell_blk hS.1 2).trans rfl
        have d2 := (cell_blk hS.2 2).trans rfl
        have HS := Lib.hid hS
        (refine wpAnyV_takeP 0 rfl rfl (by kernel_rfl) (by kernel_rfl) (by kernel_rfl) (fun _ _ _ h => h) (v := ?_) (by kernel_rfl) ?_ ?_; rotate_left; (focus (intro x; go_simp; (try with_reducible rfl); done)); (try simp only [Act.put, lsa, lsz, lss]))
        (refine wpAnyV_takeW 1 rfl rfl (by kernel_rfl) (by kernel_rfl) (by kernel_rfl) (by kernel_rfl) (fun _ _ _ h => h) (v := ?_) (by kernel_rfl) hS ?_ ?_; rotate_left; (focus (intro x hx; have fx := HX.out x hx; go_simp; (try with_reducible rfl); done)); (try simp only [Act.put, lsa, lsz, lss]))
        (refine wpAnyV_takeP 2 rfl rfl (by kernel_rfl) (by kernel_rfl) (by kernel_rfl) (fun _ _ _ h => h) (v := ?_) (by kernel_rfl) ?_ ?_; rotate_left; (focus (intro x; go_simp; (try with_reducible rfl); done)); (try simp only [Act.put, lsa, lsz, lss]))
        (refine wpAnyV_takeW 3 rfl rfl (by kernel_rfl) (by kernel_rfl) (by kernel_rfl) (by kernel_rfl) (fun _ _ _ h => h) (v := ?_) (by kernel_rfl) hS ?_ ?_; rotate_left; (focus (intro x hx; have fx := HX.out x hx; go_simp; (try with_reducible rfl); done)); (try simp only [Act.put, lsa, lsz, lss]))
        (refine wpAnyV_takeP 4 rfl rfl (by kernel_rfl) (by kernel_rfl) (by kernel_rfl) (fun _ _ _ h => h) (v := ?_) (by kernel_rfl) ?_ ?_; rotate_left; (focus (intro x; go_simp; (try with_reducible rfl); done)); (try simp only [Act.put, lsa, lsz, lss]))
        (refine wpAnyV_takeP 5 rfl rfl (by kernel_rfl) (by kernel_rfl) (by kernel_rfl) (fun _ _ _ h => h) (v := ?_) (by kernel_rfl) ?_ ?_; rotate_left; (focus (intro x; go_simp; (try with_reducible rfl); done)); (try simp only [Act.put, lsa, lsz, lss]))
        (refine wpAnyV_takeW 6 rfl rfl (by kernel_rfl) (by kernel_rfl) (by kernel_rfl) (by kernel_rfl) (fun _ _ _ h => h) (v := ?_) (by kernel_rfl) hS ?_ ?_; rotate_left; (focus (intro x hx; have fx := HX.out x hx; go_simp; (try with_reducible rfl); done)); (try simp only [Act.put, lsa, lsz, lss]))
        (refine wpAnyV_takeP 7 rfl rfl (by kernel_rfl) (by kernel_rfl) (by kernel_rfl) (fun _ _ _ h => h) (v := ?_) (by kernel_rfl) ?_ ?_; rotate_left; (focus (intro x; go_simp; (try with_reducible rfl); done)); (try simp only [Act.put, lsa, lsz, lss]))
        (refine wpAnyV_takeP 10 rfl rfl (by kernel_rfl) (by kernel_rfl) (by kernel_rfl) (fun _ _ _ h => h) (v := ?_) (by kernel_rfl) ?_ ?_; rotate_left; (focus (intro x; go_simp; (try with_reducible rfl); done)); (try simp only [Act.put, lsa, lsz, lss]))
        refine wpAnyV_two 8 11 (by kernel_rfl) rfl rfl (fun K' hK' => ?_) (fun K' hK' => ?_)
        · go_simp
          refine hK'.out _ _ (fun _ h => h) ?_
          clear hK' K'
          (refine wpAnyV_takeP 9 rfl rfl (by kernel_rfl) (by kernel_rfl) (by kernel_rfl) (fun _ _ _ h => h) (v := ?_) (by kernel_rfl) ?_ ?_; rotate_left; (focus (intro x; go_simp; (try with_reducible rfl); done)); (try simp only [Act.put, lsa, lsz, lss]))
          refine wpAnyV_one 11 (by kernel_rfl) rfl ?_
          intro K' hK'
          go_simp
          refine hK'.out _ _ (fun h => absurd (by decide) h) ?_
          clear hK' K'
          (refine wpAnyV_takeP 12 rfl rfl (by kernel_rfl) (by kernel_rfl) (by kernel_rfl) (fun _ _ _ h => h) (v := ?_) (by kernel_rfl) ?_ ?_; rotate_left; (focus (intro x; go_simp; (try with_reducible rfl); done)); (try simp only [Act.put, lsa, lsz, lss]))
          refine wpAnyV_one 13 (by kernel_rfl) rfl ?_
          intro K' hK'
          go_simp
          refine hK'.out _ _ (fun h => absurd (by decide) h) ?_
          clear hK' K'
          ((have hbf := Blk.set (W2.setCell ⟨w.heap.size, 1, none⟩ (.int .i64 (min xf sf))) (Blk.set W2 HS.out.1 1 (.int .i64 (min xf sf))) 2 (.int .i64 (max xt st))); (have hown := HO1.out.keep (w' := ((W2.setCell ⟨w.heap.size, 1, none⟩ (.int .i64 (min xf sf))).setCell ⟨w.heap.size, 2, none⟩ (.int .i64 (max xt st)))) (fun k _ hk => by have := (HO1.out.lt k (hk.resolve_left id)).1; rw [set_other _ _ _ _ _ (show k ≠ w.heap.size by omega), set_other _ _ _ _ _ (show k ≠ w.heap.size by omega)])); (have hbl := (HB1.out.setCell (p := ⟨w.heap.size, 1, none⟩) (Nat.le_refl _) (.int .i64 (min xf sf))).setCell (p := ⟨w.heap.size, 2, none⟩) (Nat.le_refl _) (.int .i64 (max xt st))); (generalize ((W2.setCell ⟨w.heap.size, 1, none⟩ (.int .i64 (min xf sf))).setCell ⟨w.heap.size, 2, none⟩ (.int .i64 (max xt st))) = W3 at *); refine wpAnyV_done (by kernel_rfl) ?_ _; go_wp2_with fail; go_roundw; (case rel => exact ⟨k + 1, out, A', c', d, min xf sf, max xt st, by omega, rfl, rfl, by go_num, by omega, hown, hbl, hbf, HD⟩); (case measure => simp [intOf]; omega))
        · go_simp
          refine hK'.out _ _ (fun h => absurd (by decide) h) ?_
          clear hK' K'
          have d2 := (cell_blk ((set_other W2 w.heap.size 1 (.int .i64 (min xf sf)) gs (by omega)).trans HS.out.2) 2).trans rfl
          refine wpAnyV_one 8 (by kernel_rfl) rfl ?_
          intro K' hK'
          go_simp
          refine hK'.out _ _ (fun _ h => h) ?_
          clear hK' K'
          (refine wpAnyV_takeP 9 rfl rfl (by kernel_rfl) (by kernel_rfl) (by kernel_rfl) (fun _ _ _ h => h) (v := ?_) (by kernel_rfl) ?_ ?_; rotate_left; (focus (intro x; go_simp; (try with_reducible rfl); done)); (try simp only [Act.put, lsa, lsz, lss]))
          (refine wpAnyV_takeP 12 rfl rfl (by kernel_rfl) (by kernel_rfl) (by kernel_rfl) (fun _ _ _ h => h) (v := ?_) (by kernel_rfl) ?_ ?_; rotate_left; (focus (intro x; go_simp; (try with_reducible rfl); done)); (try simp only [Act.put, lsa, lsz, lss]))
          refine wpAnyV_one 13 (by kernel_rfl) rfl ?_
          intro K' hK'
          go_simp
          refine hK'.out _ _ (fun h => absurd (by decide) h) ?_
          clear hK' K'
          ((have hbf := Blk.set (W2.setCell ⟨w.heap.size, 1, none⟩ (.int .i64 (min xf sf))) (Blk.set W2 HS.out.1 1 (.int .i64 (min xf sf))) 2 (.int .i64 (max xt st))); (have hown := HO1.out.keep (w' := ((W2.setCell ⟨w.heap.size, 1, none⟩ (.int .i64 (min xf sf))).setCell ⟨w.heap.size, 2, none⟩ (.int .i64 (max xt st)))) (fun k _ hk => by have := (HO1.out.lt k (hk.resolve_left id)).1; rw [set_other _ _ _ _ _ (show k ≠ w.heap.size by omega), set_other _ _ _ _ _ (show k ≠ w.heap.size by omega)])); (have hbl := (HB1.out.setCell (p := ⟨w.heap.size, 1, none⟩) (Nat.le_refl _) (.int .i64 (min xf sf))).setCell (p := ⟨w.heap.size, 2, none⟩) (Nat.le_refl _) (.int .i64 (max xt st))); (generalize ((W2.setCell ⟨w.heap.size, 1, none⟩ (.int .i64 (min xf sf))).setCell ⟨w.heap.size, 2, none⟩ (.int .i64 (max xt st))) = W3 at *); refine wpAnyV_done (by kernel_rfl) ?_ _; go_wp2_with fail; go_roundw; (case rel => exact ⟨k + 1, out, A', c', d, min xf sf, max xt st, by omega, rfl, rfl, by go_num, by omega, hown, hbl, hbf, HD⟩); (case measure => simp [intOf]; omega))
      · have hd2 : V = out ++ (if !d && (ltS xp sp || (sp == xp && decide (xt < sf))) then ⟨xp, xf, xt⟩ :: ⟨sp, sf, st⟩ :: addR (l.drop (k + 1)) ⟨xp, xf, xt⟩ true else ⟨sp, sf, st⟩ :: addR (l.drop (k + 1)) ⟨xp, xf, xt⟩ d) := by
          rw [hd, if_neg]
          intro h
          simp only [Bool.and_eq_true, beq_iff_eq, decide_eq_true_eq] at h
          exact ht h
        clear hd
        cases d with
        | true =>
          have HD := Lib.hid (show V = (out ++ [⟨sp, sf, st⟩]) ++ addR (l.drop (k + 1)) ⟨xp, xf, xt⟩ true by rw [hd2]; simp)
          clear hd2
          by_cases hp : sp = xp
          · subst hp
            by_cases h1 : sf ≤ xt
            · have h2 : ¬ xf ≤ st := fun h => ht ⟨rfl, h1, h⟩
              go_upto_region 8 with fail
              (go_wp2_with (at_builtin; go_loud (refine wpList_app1 rfl _ _ eltSpn rfl (by decide) rfl rfl (by first | rfl | exact HOL3.out.symm) (HO.out.alloc _) rfl [.string ⟨sp.toArray⟩, .int .i64 sf, .int .i64 st] (⟨sp, sf, st⟩ : Spn) (blkAt _ _ (by simp)) rfl ⟨rfl, rfl, rfl⟩ (by (try have := HOL3.out); omega) (by (try have := HOL3.out); omega) (by have := HB.out.size; simp; omega) ?_); intro A9 c9 w9 hown9 hg9 hat9)); (have hb9 := grownBlk hg9 (blkOld HG.out _) (HO.out.ne_lt (Nat.lt_succ_self _))); (have hbl9 := (HB.out.alloc HB.out.size _).grown hg9 (by have := HB.out.size; simp; omega) (fun k hk => by have := (HO.out.lt k hk).1; omega)); go_roundw; (case rel => exact ⟨k + 1, out ++ [⟨sp, sf, st⟩], A9, c9, true, xf, xt, by omega, (by first | rfl | (simp only [List.length_append, List.length_cons, List.length_nil]; done) | (simp only [List.length_append, List.length_cons, List.length_nil]; rw [HOL3.out])), rfl, by go_num, (by (try have := HOL3.out); simp only [List.length_append, List.length_cons, List.length_nil]; omega), hown9, hbl9, hb9, HD⟩); (case measure => simp [intOf]; omega)
            · go_upto_region 8 with fail
              (go_wp2_with (at_builtin; go_loud (refine wpList_app1 rfl _ _ eltSpn rfl (by decide) rfl rfl (by first | rfl | exact HOL3.out.symm) (HO.out.alloc _) rfl [.string ⟨sp.toArray⟩, .int .i64 sf, .int .i64 st] (⟨sp, sf, st⟩ : Spn) (blkAt _ _ (by simp)) rfl ⟨rfl, rfl, rfl⟩ (by (try have := HOL3.out); omega) (by (try have := HOL3.out); omega) (by have := HB.out.size; simp; omega) ?_); intro A9 c9 w9 hown9 hg9 hat9)); (have hb9 := grownBlk hg9 (blkOld HG.out _) (HO.out.ne_lt (Nat.lt_succ_self _))); (have hbl9 := (HB.out.alloc HB.out.size _).grown hg9 (by have := HB.out.size; simp; omega) (fun k hk => by have := (HO.out.lt k hk).1; omega)); go_roundw; (case rel => exact ⟨k + 1, out ++ [⟨sp, sf, st⟩], A9, c9, true, xf, xt, by omega, (by first | rfl | (simp only [List.length_append, List.length_cons, List.length_nil]; done) | (simp only [List.length_append, List.length_cons, List.length_nil]; rw [HOL3.out])), rfl, by go_num, (by (try have := HOL3.out); simp only [List.length_append, List.length_cons, List.length_nil]; omega), hown9, hbl9, hb9, HD⟩); (case measure => simp [intOf]; omega)
          · have hxf : (sp == xp) = false := by rw [beq_eq_false_iff_ne]; exact hp
            go_upto_region 8 with fail
            (go_wp2_with (at_builtin; go_loud (refine wpList_app1 rfl _ _ eltSpn rfl (by decide) rfl rfl (by first | rfl | exact HOL3.out.symm) (HO.out.alloc _) rfl [.string ⟨sp.toArray⟩, .int .i64 sf, .int .i64 st] (⟨sp, sf, st⟩ : Spn) (blkAt _ _ (by simp)) rfl ⟨rfl, rfl, rfl⟩ (by (try have := HOL3.out); omega) (by (try have := HOL3.out); omega) (by have := HB.out.size; simp; omega) ?_); intro A9 c9 w9 hown9 hg9 hat9)); (have hb9 := grownBlk hg9 (blkOld HG.out _) (HO.out.ne_lt (Nat.lt_succ_self _))); (have hbl9 := (HB.out.alloc HB.out.size _).grown hg9 (by have := HB.out.size; simp; omega) (fun k hk => by have := (HO.out.lt k hk).1; omega)); go_roundw; (case rel => exact ⟨k + 1, out ++ [⟨sp, sf, st⟩], A9, c9, true, xf, xt, by omega, (by first | rfl | (simp only [List.length_append, List.length_cons, List.length_nil]; done) | (simp only [List.length_append, List.length_cons, List.length_nil]; rw [HOL3.out])), rfl, by go_num, (by (try have := HOL3.out); simp only [List.length_append, List.length_cons, List.length_nil]; omega), hown9, hbl9, hb9, HD⟩); (case measure => simp [intOf]; omega)
        | false =>
          by_cases hp : sp = xp
          · subst hp
            by_cases h1 : sf ≤ xt
            · have h2 : ¬ xf ≤ st := fun h => ht ⟨rfl, h1, h⟩
              have hls : Op.bytesLess sp sp = false := by rw [less_ltS]; exact ltS_irr sp
              have HD := Lib.hid (show V = (out ++ [⟨sp, sf, st⟩]) ++ addR (l.drop (k + 1)) ⟨sp, xf, xt⟩ false by rw [hd2]; simp [ltS_irr, show ¬ xt < sf by omega])
              clear hd2
              go_upto_region 8 with fail
              (go_wp2_with (at_builtin; go_loud (refine wpList_app1 rfl _ _ eltSpn rfl (by decide) rfl rfl (by first | rfl | exact HOL3.out.symm) (HO.out.alloc _) rfl [.string ⟨sp.toArray⟩, .int .i64 sf, .int .i64 st] (⟨sp, sf, st⟩ : Spn) (blkAt _ _ (by simp)) rfl ⟨rfl, rfl, rfl⟩ (by (try have := HOL3.out); omega) (by (try have := HOL3.out); omega) (by have := HB.out.size; simp; omega) ?_); intro A9 c9 w9 hown9 hg9 hat9)); (have hb9 := grownBlk hg9 (blkOld HG.out _) (HO.out.ne_lt (Nat.lt_succ_self _))); (have hbl9 := (HB.out.alloc HB.out.size _).grown hg9 (by have := HB.out.size; simp; omega) (fun k hk => by have := (HO.out.lt k hk).1; omega)); go_roundw; (case rel => exact ⟨k + 1, out ++ [⟨sp, sf, st⟩], A9, c9, false, xf, xt, by omega, (by first | rfl | (simp only [List.length_append, List.length_cons, List.length_nil]; done) | (simp only [List.length_append, List.length_cons, List.length_nil]; rw [HOL3.out])), rfl, by go_num, (by (try have := HOL3.out); simp only [List.length_append, List.length_cons, List.length_nil]; omega), hown9, hbl9, hb9, HD⟩); (case measure => simp [intOf]; omega)
            · have hls : Op.bytesLess sp sp = false := by rw [less_ltS]; exact ltS_irr sp
              have HD := Lib.hid (show V = ((out ++ [⟨sp, xf, xt⟩]) ++ [⟨sp, sf, st⟩]) ++ addR (l.drop (k + 1)) ⟨sp, xf, xt⟩ true by rw [hd2]; simp [show xt < sf by omega])
              clear hd2
              go_upto_region 9 with fail
              (go_upto_region 11 with (at_builtin; go_loud (refine wpList_app1 rfl _ _ eltSpn rfl (by decide) rfl rfl rfl (HO.out.alloc _) rfl [.string ⟨sp.toArray⟩, .int .i64 xf, .int .i64 xt] (⟨sp, xf, xt⟩ : Spn) (blkAt _ _ (by simp)) rfl ⟨rfl, rfl, rfl⟩ (by omega) (by omega) (by simp; omega) ?_); intro A3 c3 w3 hown3 hg3 hat3)); (have HG3 := Lib.hid (grownBlk hg3 (blkOld HG.out _) (HO.out.ne_lt (Nat.lt_succ_self _)))); (have HX3 := Lib.hid (grownBlk hg3 (blkOld HX.out _) HXN.out)); (have HB3 := Lib.hid ((HB.out.alloc HB.out.size _).grown hg3 (by simp; omega) (fun k hk => by have := (HO.out.lt k hk).1; omega))); (have HO3 := Lib.hid hown3); (have HOL3 := Lib.hid (show (out ++ [(⟨sp, xf, xt⟩ : Spn)]).length = out.length + 1 by simp)); clear s0 s1 s2 x0 x1 x2 hown3 hg3; (have s0 := (cell_blk HX3.out 0).trans rfl); (have s1 := (cell_blk HX3.out 1).trans rfl); (have s2 := (cell_blk HX3.out 2).trans rfl); (have hgW3 : w.heap.size + 1 ≤ w3.heap.size := (Array.getElem?_eq_some_iff.1 HG3.out).1); (generalize hol4 : out ++ [(⟨sp, xf, xt⟩ : Spn)] = out3 at *); clear hol4
              (go_wp2_with (at_builtin; go_loud (refine wpList_app1 rfl _ _ eltSpn rfl (by decide) rfl rfl (by first | rfl | exact HOL3.out.symm) (HO3.out.alloc _) rfl [.string ⟨sp.toArray⟩, .int .i64 sf, .int .i64 st] (⟨sp, sf, st⟩ : Spn) (blkAt _ _ (by simp)) rfl ⟨rfl, rfl, rfl⟩ (by (try have := HOL3.out); omega) (by (try have := HOL3.out); omega) (by have := HB3.out.size; simp; omega) ?_); intro A9 c9 w9 hown9 hg9 hat9)); (have hb9 := grownBlk hg9 (blkOld HG3.out _) (HO3.out.ne_lt (Nat.lt_succ_self _))); (have hbl9 := (HB3.out.alloc HB3.out.size _).grown hg9 (by have := HB3.out.size; simp; omega) (fun k hk => by have := (HO3.out.lt k hk).1; omega)); go_roundw; (case rel => exact ⟨k + 1, out3 ++ [⟨sp, sf, st⟩], A9, c9, true, xf, xt, by omega, (by first | rfl | (simp only [List.length_append, List.length_cons, List.length_nil]; done) | (simp only [List.length_append, List.length_cons, List.length_nil]; rw [HOL3.out])), rfl, by go_num, (by (try have := HOL3.out); simp only [List.length_append, List.length_cons, List.length_nil]; omega), hown9, hbl9, hb9, HD⟩); (case measure => simp [intOf]; omega)
          · have hxf : (sp == xp) = false := by rw [beq_eq_false_iff_ne]; exact hp
            have hls := less_ltS xp sp
            have hls3 : ltS xp sp = true → Op.bytesLess sp xp = false := fun h => by
              rw [less_ltS]
              cases h5 : ltS sp xp with
              | false => rfl
              | true => have := ltS_trans _ _ _ h h5; rw [ltS_irr] at this; cases this
            have hls5 : ltS xp sp = false → Op.bytesLess sp xp = true := fun h => by
              rw [less_ltS]
              rcases ltS_tot sp xp with h5 | h5 | h5
              · exact h5
              · exact absurd h5 hp
              · rw [h] at h5; cases h5
            generalize ltS xp sp = lt at *
            cases lt with
            | true =>
              have HD := Lib.hid (show V = ((out ++ [⟨xp, xf, xt⟩]) ++ [⟨sp, sf, st⟩]) ++ addR (l.drop (k + 1)) ⟨xp, xf, xt⟩ true by rw [hd2]; simp)
              have hls4 := hls3 rfl
              clear hd2 hls3 hls5
              go_upto_region 9 with fail
              (go_upto_region 11 with (at_builtin; go_loud (refine wpList_app1 rfl _ _ eltSpn rfl (by decide) rfl rfl rfl (HO.out.alloc _) rfl [.string ⟨xp.toArray⟩, .int .i64 xf, .int .i64 xt] (⟨xp, xf, xt⟩ : Spn) (blkAt _ _ (by simp)) rfl ⟨rfl, rfl, rfl⟩ (by omega) (by omega) (by simp; omega) ?_); intro A3 c3 w3 hown3 hg3 hat3)); (have HG3 := Lib.hid (grownBlk hg3 (blkOld HG.out _) (HO.out.ne_lt (Nat.lt_succ_self _)))); (have HX3 := Lib.hid (grownBlk hg3 (blkOld HX.out _) HXN.out)); (have HB3 := Lib.hid ((HB.out.alloc HB.out.size _).grown hg3 (by simp; omega) (fun k hk => by have := (HO.out.lt k hk).1; omega))); (have HO3 := Lib.hid hown3); (have HOL3 := Lib.hid (show (out ++ [(⟨xp, xf, xt⟩ : Spn)]).length = out.length + 1 by simp)); clear s0 s1 s2 x0 x1 x2 hown3 hg3; (have s0 := (cell_blk HX3.out 0).trans rfl); (have s1 := (cell_blk HX3.out 1).trans rfl); (have s2 := (cell_blk HX3.out 2).trans rfl); (have hgW3 : w.heap.size + 1 ≤ w3.heap.size := (Array.getElem?_eq_some_iff.1 HG3.out).1); (generalize hol4 : out ++ [(⟨xp, xf, xt⟩ : Spn)] = out3 at *); clear hol4
              (go_wp2_with (at_builtin; go_loud (refine wpList_app1 rfl _ _ eltSpn rfl (by decide) rfl rfl (by first | rfl | exact HOL3.out.symm) (HO3.out.alloc _) rfl [.string ⟨sp.toArray⟩, .int .i64 sf, .int .i64 st] (⟨sp, sf, st⟩ : Spn) (blkAt _ _ (by simp)) rfl ⟨rfl, rfl, rfl⟩ (by (try have := HOL3.out); omega) (by (try have := HOL3.out); omega) (by have := HB3.out.size; simp; omega) ?_); intro A9 c9 w9 hown9 hg9 hat9)); (have hb9 := grownBlk hg9 (blkOld HG3.out _) (HO3.out.ne_lt (Nat.lt_succ_self _))); (have hbl9 := (HB3.out.alloc HB3.out.size _).grown hg9 (by have := HB3.out.size; simp; omega) (fun k hk => by have := (HO3.out.lt k hk).1; omega)); go_roundw; (case rel => exact ⟨k + 1, out3 ++ [⟨sp, sf, st⟩], A9, c9, true, xf, xt, by omega, (by first | rfl | (simp only [List.length_append, List.length_cons, List.length_nil]; done) | (simp only [List.length_append, List.length_cons, List.length_nil]; rw [HOL3.out])), rfl, by go_num, (by (try have := HOL3.out); simp only [List.length_append, List.length_cons, List.length_nil]; omega), hown9, hbl9, hb9, HD⟩); (case measure => simp [intOf]; omega)
            | false =>
              have HD := Lib.hid (show V = (out ++ [⟨sp, sf, st⟩]) ++ addR (l.drop (k + 1)) ⟨xp, xf, xt⟩ false by rw [hd2]; simp [hxf])
              have hls6 := hls5 rfl
              clear hd2 hls3 hls5
              go_upto_region 8 with fail
              (go_wp2_with (at_builtin; go_loud (refine wpList_app1 rfl _ _ eltSpn rfl (by decide) rfl rfl (by first | rfl | exact HOL3.out.symm) (HO.out.alloc _) rfl [.string ⟨sp.toArray⟩, .int .i64 sf, .int .i64 st] (⟨sp, sf, st⟩ : Spn) (blkAt _ _ (by simp)) rfl ⟨rfl, rfl, rfl⟩ (by (try have := HOL3.out); omega) (by (try have := HOL3.out); omega) (by have := HB.out.size; simp; omega) ?_); intro A9 c9 w9 hown9 hg9 hat9)); (have hb9 := grownBlk hg9 (blkOld HG.out _) (HO.out.ne_lt (Nat.lt_succ_self _))); (have hbl9 := (HB.out.alloc HB.out.size _).grown hg9 (by have := HB.out.size; simp; omega) (fun k hk => by have := (HO.out.lt k hk).1; omega)); go_roundw; (case rel => exact ⟨k + 1, out ++ [⟨sp, sf, st⟩], A9, c9, false, xf, xt, by omega, (by first | rfl | (simp only [List.length_append, List.length_cons, List.length_nil]; done) | (simp only [List.length_append, List.length_cons, List.length_nil]; rw [HOL3.out])), rfl, by go_num, (by (try have := HOL3.out); simp only [List.length_append, List.length_cons, List.length_nil]; omega), hown9, hbl9, hb9, HD⟩); (case measure => simp [intOf]; omega)
    · have hd := hf.out
      rw [drop_end hlt] at hd
      have HO := Lib.hid ho; have HB := Lib.hid hb; have HG := Lib.hid hg
      have hsW := HB.out.size
      have hgW : w.heap.size + 1 ≤ wr.heap.size := (Array.getElem?_eq_some_iff.1 HG.out).1
      clear hf Hf ho hb hg
      cases d with
      | true =>
        have HD := Lib.hid (show V = out by rw [hd]; simp [addR])
        clear hd
        go_wp2_with fail
        go_ret
        exact ⟨A', _, c', rfl, by rw [HD.out]; exact (HO.out.sl (by decide)).wide (fun k _ hk => hk.elim False.elim (fun hk => by have := (HO.out.lt k hk).1; omega)) (by decide), HB.out⟩
      | false =>
        have HD := Lib.hid (show V = (out ++ [⟨xp, xf, xt⟩]) by rw [hd]; simp [addR])
        clear hd
        have x0 := (cell_blk HG.out 0).trans rfl; have x1 := (cell_blk HG.out 1).trans rfl; have x2 := (cell_blk HG.out 2).trans rfl
        go_wp2_with (at_builtin; go_loud (refine wpList_app1 rfl _ _ eltSpn rfl (by decide) rfl rfl rfl (HO.out.alloc _) rfl [.string ⟨xp.toArray⟩, .int .i64 xf, .int .i64 xt] (⟨xp, xf, xt⟩ : Spn) (blkAt _ _ (by simp)) rfl ⟨rfl, rfl, rfl⟩ (by omega) (by omega) (by simp; omega) ?_); intro A3 c3 w3 hown3 hg3 hat3)
        have HB3 := Lib.hid ((HB.out.alloc HB.out.size _).grown hg3 (by simp; omega) (fun k hk => by have := (HO.out.lt k hk).1; omega))
        have HO3 := Lib.hid hown3
        clear hown3 hg3 x0 x1 x2
        go_wp2_with fail
        go_ret
        exact ⟨A3, _, c3, rfl, by rw [HD.out]; exact ((HO3.out.sl (by decide)).cast (by simp)).wide (fun k _ hk => hk.elim False.elim (fun hk => by have := (HO3.out.lt k hk).1; omega)) (by decide), HB3.out⟩
theorem addLine_any (A : Option Addr) (n c : Nat) (w : World) (S : Nat → Prop) (l : List Spn) (hl : Sl w S A n c l) (p : Bs) (k : Int) (hN : l.length ≤ 1000000) (hk0 : 0 ≤ k) (hk1 : k ≤ 9223372036854775806) :
    Calls Tryz.prog 138 #[.slice A n c, .agg #[.string ⟨p.toArray⟩, .int .i64 k]] w fun e w' => ∃ A' n' c', e = .returned (.slice A' n' c') ∧ Sl w' (fun b => w.heap.size ≤ b) A' n' c' (addR l ⟨p, k, k + 1⟩ false) ∧ Below w.heap.size w w' := by
  have HSP := Lib.hid (fun w h => addSpan_any A n c w S l h p k (k + 1) hN)
  have HL := Lib.hid hl
  clear hl
  go_enter Tryz.func138, Tryz.ntmps138
  go_upto_region 1 with fail
  have hb0 : Below w.heap.size w (w.alloc (.cells #[.string ⟨p.toArray⟩, .int .i64 k] 38)) := by ((repeat (first | (with_reducible exact Below.refl _ _) | (with_reducible refine belowA ?_ _) | (with_reducible refine belowD ?_) | (with_reducible refine belowS ?_ (Nat.le_refl _) _ _) | (with_reducible refine next ?_ (by assumption) (Nat.le_refl _)))); done)
  have hg0 := blkAt w (.cells #[.string ⟨p.toArray⟩, .int .i64 k] 38) rfl
  generalize (w.alloc (.cells #[.string ⟨p.toArray⟩, .int .i64 k] 38)) = W at *
  have HB0 := Lib.hid hb0
  have g0 := (cell_blk hg0 0).trans rfl; have g1 := (cell_blk hg0 1).trans rfl
  clear hb0 hg0
  go_wp2_with fail
  refine (HSP.out W (HL.out.below HB0.out)).mono ?_
  rintro e w1 ⟨A1, n1, c1, rfl, hs1, hb1⟩
  have HS1 := Lib.hid (hs1.wide (fun k _ hk => Nat.le_trans HB0.out.size hk) (by decide)); have HB1 := Lib.hid (HB0.out.trans (hb1.mono HB0.out.size))
  go_wp2_with fail
  go_ret
  exact ⟨_, _, _, rfl, HS1.out, HB1.out⟩
end Go.Proofs.YtpeamehplhpcjaaGreatDoor
