/- A part of the proofs of the laws of one package; see the law's own text, which comes last in 'order'. No conditions of its own. -/
import Derived.Shelf.SlSortCmp.NoneTotal
import Derived.Test.YtpeamehplhpcjaaGreatDoorZ21
set_option linter.unusedVariables false
set_option linter.unusedSimpArgs false
namespace Go.Proofs.YtpeamehplhpcjaaGreatDoor
open Go.RowKit
theorem getLast_take {α : Type} (l : List α) (x : α) (init : List α) (h : l = init ++ [x]) : l.getLast? = some x ∧ l.dropLast = init ∧ l.length = init.length + 1 := by
  subst h; simp
theorem set_last {α : Type} (init : List α) (x y : α) : (init ++ [x]).set init.length y = init ++ [y] := by simp
theorem split_last {α : Type} (l : List α) (h : l ≠ []) : ∃ init x, l = init ++ [x] := ⟨l.dropLast, l.getLast h, (List.dropLast_concat_getLast h).symm⟩
theorem join_nil (l : Ln) (r : List Ln) : joinLn [] (l :: r) = joinLn [⟨l.path, l.n, l.n + 1⟩] r := by rw [joinLn]; rfl
theorem join_last (init : List Spn) (k : Spn) (l : Ln) (r : List Ln) : joinLn (init ++ [k]) (l :: r) = if k.path = l.path ∧ k.tu = l.n then joinLn (init ++ [⟨k.path, k.fr, k.tu + 1⟩]) r else joinLn (init ++ [k] ++ [⟨l.path, l.n, l.n + 1⟩]) r := by
  rw [joinLn]
  have h := getLast_take _ _ _ (rfl : init ++ [k] = init ++ [k])
  simp only [h.1, h.2.1]
structure SpW (w W : World) (blk nL cap : Nat) (L : List Ln) (A : Option Addr) (c : Nat) (out : List Spn) : Prop where
  bl : Below w.heap.size w W
  ls : Sl W (fun k => k = blk) (some ⟨blk, 0, none⟩) nL cap L
  ow : Own W (fun _ => False) w.heap.size 46 A c out
  ne : A.map Addr.block ≠ some blk
  lt : blk < W.heap.size
theorem SpW.app {w W W1 w7 : World} {blk nL cap : Nat} {L : List Ln} {A A3 : Option Addr} {c c3 : Nat} {out : List Spn} {x : Spn} (H : SpW w W blk nL cap L A c out) (hb : Below W.heap.size W W1) (ho : Own w7 (fun _ => False) w.heap.size 46 A3 c3 (out ++ [x])) (hg : W1.grownBy w7 (A.map Addr.block)) (hat : A3.map Addr.block = A.map Addr.block ∨ A3.map Addr.block = some W1.heap.size) : SpW w w7 blk nL cap L A3 c3 (out ++ [x]) :=
  ⟨(H.bl.trans (hb.mono H.bl.size)).grown hg (by have := H.bl.size; have := hb.size; omega) (fun k hk => (H.ow.lt k hk).1), (H.ls.below hb).keep fun k hk e => hg.block k hk (fun h => H.ne (by rw [← e]; exact h.symm)), ho, fun e => by
    rcases hat with h | h
    · exact H.ne (h ▸ e)
    · rw [h] at e; injection e with e; have := hb.size; have := H.lt; omega, by have := H.lt; have := hb.size; have := hg.size; omega⟩
theorem SpW.below {w W W' : World} {blk nL cap : Nat} {L : List Ln} {A : Option Addr} {c : Nat} {out : List Spn} (H : SpW w W blk nL cap L A c out) (hb : Below W.heap.size W W') : SpW w W' blk nL cap L A c out :=
  ⟨H.bl.trans (hb.mono H.bl.size), H.ls.below hb, H.ow.below hb, H.ne, Nat.lt_of_lt_of_le H.lt hb.size⟩
theorem SpW.put {w W : World} {blk nL cap : Nat} {L : List Ln} {g c : Nat} {out : List Spn} (H : SpW w W blk nL cap L (some ⟨g, 0, none⟩) c out) {k : Nat} (hk : k < out.length) (v : Int) (y : Spn) (h1 : y.path = out[k].path) (h2 : y.fr = out[k].fr) (h3 : y.tu = v) :
    SpW w (W.setCell ⟨g, k * 3 + 2, none⟩ (.int .i64 v)) blk nL cap L (some ⟨g, 0, none⟩) c (out.set k y) := by
  have hg := (H.ow.lt g rfl).1
  have hne : g ≠ blk := fun e => H.ne (by rw [← e]; rfl)
  refine ⟨H.bl.setCell (p := ⟨g, k * 3 + 2, none⟩) hg _, H.ls.keep fun j _ hj => set_other _ _ _ _ _ (fun e => hne (e ▸ hj)), ?_, H.ne, by rw [size_set]; exact H.lt⟩
  refine H.ow.put rfl (fun _ h => h.elim) hk (j := 2) (by decide) (.int .i64 v) y fun z hz => ?_
  obtain ⟨z0, z1, z2⟩ := hz
  exact ⟨by simpa [h1] using z0, by simpa [h2] using z1, by simp [h3]⟩
set_option maxRecDepth 100000 in
set_option maxHeartbeats 8000000 in
theorem spans_any (b : Nat) (m : List (Ln × Bool)) (w : World) (hm : MapV TLn w b (vHeads m)) (hin : ∀ x ∈ m.map (·.1), 0 ≤ x.n ∧ x.n ≤ 100000) (hN : m.length ≤ 100000) (hne : m ≠ []) :
    Calls Tryz.prog 48 #[.map (some b)] w fun e w' => ∃ A n c, e = .returned (.slice A n c) ∧ Sl w' (fun k => w.heap.size ≤ k) A n c (spansS (m.map (·.1))) ∧ Below w.heap.size w w' := by
  have hnd : (m.map (·.1)).Nodup := by
    have := hm.nodup
    unfold vHeads at this
    rw [List.map_map] at this
    exact this
  have HM := Lib.hid hm; have HIN := Lib.hid hin; have HND := Lib.hid hnd
  have hblt := hm.lt
  obtain ⟨R, hRR⟩ : ∃ R, R = spansS (m.map (·.1)) := ⟨_, rfl⟩
  rw [← hRR]
  have HRR := Lib.hid hRR
  clear hm hin hnd hRR
  go_enter Tryz.func48, Tryz.ntmps48
  go_wp2_with (at_range; refine wpList_rangeV rfl _ rfl Tryz.underlying94 rfl HM.out ?_; intro w2 hrg hb2 hs2)
  go_frame
  have HRG := Lib.hid hrg; have HB2 := Lib.hid hb2
  clear hrg hb2
  go_loopw [3] (fun o wr => ∃ (ls : List (Ln × Bool)) (out : List Ln) (A : Option Addr) (c : Nat), o = .slice A out.length c ∧ Hid (RangeV TLn wr b w.heap.size (vHeads m) (vHeads ls) ∧ Own wr (fun _ => False) w.heap.size 38 A c out ∧ A.map Addr.block ≠ some w.heap.size ∧ (out ++ ls.map (·.1)).Perm (m.map (·.1)) ∧ Below w.heap.size w wr ∧ w.heap.size < wr.heap.size)) (fun _ wr => wr.rangeLeft b w.heap.size)
  case atStart => exact ⟨m, [], none, 0, rfl, Lib.hid ⟨HRG.out, Own.nil _ _ _ _, by simp, by simp, HB2.out, by omega⟩⟩
  case round =>
    obtain ⟨ls, out, A, c, rfl, hr⟩ := hrel
    obtain ⟨h1, h2, h3, h4, h5, h6⟩ := hr.out
    clear hr
    have hol : out.length ≤ 100000 := by have := h4.length_eq; rw [List.length_append] at this; simp at this; omega
    have H1 := Lib.hid h1; have H2 := Lib.hid h2; have H3 := Lib.hid h3; have H4 := Lib.hid h4; have H5 := Lib.hid h5
    clear h1 h2 h3 h4 h5
    go_wp2_with (at_next; refine wpList_nextV rfl _ rfl rfl H1.out ?_ ?_)
    · intro h0
      have hls : ls = [] := by unfold vHeads at h0; simpa using h0
      subst hls
      have hpm := H4.out
      rw [List.map_nil, List.append_nil] at hpm
      have hpos : 0 < out.length := by rw [hpm.length_eq, List.length_map]; exact List.length_pos_iff.2 hne
      have hrow := H2.out.ne_none hpos
      obtain ⟨blk, rfl, hbk, hbk2, hfz⟩ := H2.out.blk hrow
      have hsl : Sl wr (fun k => k = blk) (some ⟨blk, 0, none⟩) out.length c out := (H2.out.sl (by decide)).wide (fun k _ hk => by rcases hk with hk | hk; exact hk.elim; injection hk with hk; exact hk.symm) (by decide)
      have hso := sortL_any blk c out wr hsl hfz hbk2 (fun x hx => HIN.out x (hpm.mem_iff.1 hx)) (by omega)
      have HSO := Lib.hid hso; have HPM := Lib.hid hpm
      clear hso hpm hfz hrow hpos h0 hsl H2 H4 H1
      go_wp2_with fail
      refine HSO.out.mono ?_
      rintro e w9 ⟨rfl, ys, hp, hsrt, hsl9, hg9⟩
      have hys := sorted_ln HND.out (hp.trans HPM.out) hsrt
      have hyl : ys.length = out.length := hp.length_eq
      have hyin : ∀ x ∈ ys, 0 ≤ x.n ∧ x.n ≤ 100000 := fun x hx => HIN.out x (HPM.out.mem_iff.1 (hp.mem_iff.1 hx))
      have hR : R = joinLn [] (ys.drop 0) := by rw [HRR.out, hys]; rfl
      have h0 : SpW w w9 blk out.length c ys none 0 [] := ⟨H5.out.grown hg9 H5.out.size (fun k hk => by injection hk with hk; omega), hsl9, Own.nil _ _ _ _, by simp, by have := hg9.size; omega⟩
      have H0 := Lib.hid h0; have HYI := Lib.hid hyin
      have HR0 : Hid (R = joinLn [] (ys.drop 0)) := hR
      clear hp hsrt hsl9 hg9 hys hyin hR h0 HSO HPM H3 H5
      generalize out.length = nL at *
      go_wp2_with fail
      go_loopw [5, 23] (fun o q wx => ∃ (k : Nat) (sp : List Spn) (A2 : Option Addr) (c2 : Nat), k ≤ nL ∧ q = .int .i64 k ∧ o = .slice A2 sp.length c2 ∧ Hid (SpW w wx blk nL c ys A2 c2 sp ∧ R = joinLn sp (ys.drop k) ∧ sp.length ≤ k)) (fun _ q _ => nL - (intOf q).toNat)
      case atStart => exact ⟨0, [], none, 0, Nat.zero_le _, rfl, rfl, Lib.hid ⟨H0.out, HR0.out, by simp⟩⟩
      case round =>
        obtain ⟨k, sp, A2, c2, hk, rfl, rfl, hr⟩ := hrel
        obtain ⟨h1, h2, h3⟩ := hr.out
        clear hr
        have HS := Lib.hid h1
        by_cases hlt : k < nL
        · have hky : k < ys.length := by omega
          have hjo := h2
          rw [drop_get hky] at hjo
          have hyk := HYI.out _ (List.getElem_mem hky)
          obtain ⟨b1, o1, e1, -, -, g0, g1⟩ := h1.ls.lne hky
          injection e1 with e1
          injection e1 with e1 e2
          subst e1 e2
          rw [Nat.zero_add] at g0
          rw [Nat.zero_add] at g1
          obtain ⟨⟨lp, lnn⟩, hle⟩ : ∃ z, z = ys[k] := ⟨_, rfl⟩
          rw [← hle] at hjo hyk g0 g1
          simp only at hyk g0 g1
          clear hle h1 h2
          have HJ := Lib.hid hjo
          clear hjo
          go_upto_region 12 with fail
          have hW1 : SpW w (wr.alloc (.cells #[.string ⟨lp.toArray⟩, .int .i64 lnn] 38)) blk nL c ys A2 c2 sp := HS.out.below boxed
          have hl0 := blkAt wr (.cells #[.string ⟨lp.toArray⟩, .int .i64 lnn] 38) rfl
          generalize (wr.alloc (.cells #[.string ⟨lp.toArray⟩, .int .i64 lnn] 38)) = W1 at *
          have HW1 := Lib.hid hW1; have HL0 := Lib.hid hl0
          clear hW1 hl0 g0 g1 HS
          have hspl : sp.length ≤ 100000 := by omega
          by_cases hsp : sp = []
          · subst hsp
            have HJ2 := Lib.hid (HJ.out.trans (join_nil _ _))
            clear HJ
            have l0 := (cell_blk HL0.out 0).trans rfl
            have l1 := (cell_blk HL0.out 1).trans rfl
            go_quiet (fail)
            clear l0 l1
            go_upto_region 14 with fail
            (have hW2 : SpW w (W1.drewN nq) blk nL c ys A2 c2 [] := HW1.out.below (dN (Below.refl _ _) _)); (have hl2 : (W1.drewN nq).heap[wr.heap.size]? = some (.cells #[.string ⟨lp.toArray⟩, .int .i64 lnn] 38 (0, 0)) := HL0.out); (generalize (W1.drewN nq) = W2 at *); (have l0 := (cell_blk hl2 0).trans rfl); (have l1 := (cell_blk hl2 1).trans rfl); (have HW2 := Lib.hid hW2); (clear hW2 hl2 HW1 HL0)
            (go_wp2_with (at_builtin; go_loud (refine wpList_app1 rfl _ _ eltSpn rfl (by decide) rfl rfl rfl (HW2.out.ow.alloc _) rfl [.string ⟨lp.toArray⟩, .int .i64 lnn, .int .i64 (lnn + 1)] (⟨lp, lnn, lnn + 1⟩ : Spn) (blkAt _ _ rfl) rfl ⟨rfl, rfl, rfl⟩ (by omega) (by omega) (by have := HW2.out.bl.size; simp; omega) ?_); intro A3 c3 w7 hown7 hg7 hat7; have HREL := Lib.hid (SpW.app HW2.out (by ((repeat (first | (with_reducible exact Below.refl _ _) | (with_reducible refine belowA ?_ _) | (with_reducible refine belowD ?_) | (with_reducible refine belowS ?_ (Nat.le_refl _) _ _) | (with_reducible refine next ?_ (by assumption) (Nat.le_refl _)))); done)) hown7 hg7 hat7); clear hown7 hg7 hat7)); go_roundw; (case measure => simp [intOf]; omega); (case rel => exact ⟨k + 1, [] ++ [⟨lp, lnn, lnn + 1⟩], A3, c3, by omega, by go_num, by simp, Lib.hid ⟨HREL.out, HJ2.out, by simp only [List.length_append, List.length_cons, List.length_nil] at *; omega⟩⟩)
          · obtain ⟨init, x, rfl⟩ := split_last sp hsp
            obtain ⟨xp, xf, xt⟩ := x
            clear hsp
            have HJ1 := Lib.hid (HJ.out.trans (join_last _ _ _ _))
            clear HJ
            have hln : (init ++ [(⟨xp, xf, xt⟩ : Spn)]).length = init.length + 1 := by simp
            have hln8 : ((init.length + 1 : Nat) : Int) - 1 = (init.length : Int) := by omega
            obtain ⟨g2, rfl, hg2a, hg2b, hg2f⟩ := HW1.out.ow.blk (HW1.out.ow.ne_none (by simp))
            obtain ⟨b9, o9, e9, -, -, s0, s1, s2⟩ := (HW1.out.ow.sl (by decide)).spn (k := init.length) (by simp)
            injection e9 with e9
            injection e9 with e9a e9b
            subst e9a e9b
            have hx : (init ++ [(⟨xp, xf, xt⟩ : Spn)])[init.length]'(by simp) = ⟨xp, xf, xt⟩ := by simp
            rw [hx, Nat.zero_add] at s0 s1 s2
            simp only at s0 s1 s2
            simp only [hln, hln8]
            have l0 := (cell_blk HL0.out 0).trans rfl
            have l1 := (cell_blk HL0.out 1).trans rfl
            have hspl2 : init.length ≤ 100000 := by omega
            clear hx
            by_cases hp : xp = lp
            · have hp' : lp = xp := hp.symm
              clear hp
              subst hp'
              by_cases ht : xt = lnn
              · have ht' : lnn = xt := ht.symm
                clear ht
                subst ht'
                have HJ2 := Lib.hid (HJ1.out.trans (if_pos ⟨rfl, rfl⟩))
                go_quiet (fail)
                clear s0 s1 s2 l0 l1
                go_upto_region 13 with fail
                (have hW2 : SpW w (W1.drewN nq) blk nL c ys (some ⟨g2, 0, none⟩) c2 (init ++ [⟨lp, xf, lnn⟩]) := HW1.out.below (dN (Below.refl _ _) _)); (have hl2 : (W1.drewN nq).heap[wr.heap.size]? = some (.cells #[.string ⟨lp.toArray⟩, .int .i64 lnn] 38 (0, 0)) := HL0.out); (generalize (W1.drewN nq) = W2 at *); (have l0 := (cell_blk hl2 0).trans rfl); (have l1 := (cell_blk hl2 1).trans rfl); (have HW2 := Lib.hid hW2); (clear hW2 hl2 HW1 HL0)
                obtain ⟨b9, o9, e9, -, -, -, -, s2⟩ := (HW2.out.ow.sl (by decide)).spn (k := init.length) (by simp)
                injection e9 with e9
                injection e9 with e9a e9b
                subst e9a e9b
                have hx : (init ++ [(⟨lp, xf, lnn⟩ : Spn)])[init.length]'(by simp) = ⟨lp, xf, lnn⟩ := by simp
                rw [hx, Nat.zero_add] at s2
                simp only at s2
                obtain ⟨g3, e3, -, -, hf3⟩ := HW2.out.ow.blk (by simp)
                injection e3 with e3
                injection e3 with e3
                subst e3
                have f2 := hf3 (init.length * 3 + 2)
                have hput := HW2.out.put (k := init.length) (by simp) (lnn + 1) (⟨lp, xf, lnn + 1⟩ : Spn) (by rw [hx]) (by rw [hx]) rfl
                rw [set_last] at hput
                have HREL := Lib.hid hput
                clear hx hput l0 l1
                go_wp2_with fail
                go_roundw
                case measure => simp [intOf]; omega
                case rel => exact ⟨k + 1, init ++ [⟨lp, xf, lnn + 1⟩], some ⟨g2, 0, none⟩, c2, by omega, by go_num, by simp, Lib.hid ⟨HREL.out, HJ2.out, by simp; omega⟩⟩
              · have HJ2 := Lib.hid (HJ1.out.trans (if_neg (fun h => ht h.2)))
                have htb : (xt == lnn) = false := by rw [beq_eq_false_iff_ne]; exact ht
                go_quiet (fail)
                clear s0 s1 s2 l0 l1
                go_upto_region 14 with fail
                (have hW2 : SpW w (W1.drewN nq) blk nL c ys (some ⟨g2, 0, none⟩) c2 (init ++ [⟨lp, xf, xt⟩]) := HW1.out.below (dN (Below.refl _ _) _)); (have hl2 : (W1.drewN nq).heap[wr.heap.size]? = some (.cells #[.string ⟨lp.toArray⟩, .int .i64 lnn] 38 (0, 0)) := HL0.out); (generalize (W1.drewN nq) = W2 at *); (have l0 := (cell_blk hl2 0).trans rfl); (have l1 := (cell_blk hl2 1).trans rfl); (have HW2 := Lib.hid hW2); (clear hW2 hl2 HW1 HL0)
                (go_wp2_with (at_builtin; go_loud (refine wpList_app1 rfl _ _ eltSpn rfl (by decide) rfl rfl (by simp) (HW2.out.ow.alloc _) rfl [.string ⟨lp.toArray⟩, .int .i64 lnn, .int .i64 (lnn + 1)] (⟨lp, lnn, lnn + 1⟩ : Spn) (blkAt _ _ rfl) rfl ⟨rfl, rfl, rfl⟩ (by omega) (by omega) (by have := HW2.out.bl.size; simp; omega) ?_); intro A3 c3 w7 hown7 hg7 hat7; have HREL := Lib.hid (SpW.app HW2.out (by ((repeat (first | (with_reducible exact Below.refl _ _) | (with_reducible refine belowA ?_ _) | (with_reducible refine belowD ?_) | (with_reducible refine belowS ?_ (Nat.le_refl _) _ _) | (with_reducible refine next ?_ (by assumption) (Nat.le_refl _)))); done)) hown7 hg7 hat7); clear hown7 hg7 hat7)); go_roundw; (case measure => simp [intOf]; omega); (case rel => exact ⟨k + 1, (init ++ [⟨lp, xf, xt⟩]) ++ [⟨lp, lnn, lnn + 1⟩], A3, c3, by omega, by go_num, by simp, Lib.hid ⟨HREL.out, HJ2.out, by simp only [List.length_append, List.length_cons, List.length_nil] at *; omega⟩⟩)
            · have HJ2 := Lib.hid (HJ1.out.trans (if_neg (fun h => hp h.1)))
              have hpb : (xp == lp) = false := by rw [beq_eq_false_iff_ne]; exact hp
              go_quiet (fail)
              clear s0 s1 s2 l0 l1
              go_upto_region 14 with fail
              (have hW2 : SpW w (W1.drewN nq) blk nL c ys (some ⟨g2, 0, none⟩) c2 (init ++ [⟨xp, xf, xt⟩]) := HW1.out.below (dN (Below.refl _ _) _)); (have hl2 : (W1.drewN nq).heap[wr.heap.size]? = some (.cells #[.string ⟨lp.toArray⟩, .int .i64 lnn] 38 (0, 0)) := HL0.out); (generalize (W1.drewN nq) = W2 at *); (have l0 := (cell_blk hl2 0).trans rfl); (have l1 := (cell_blk hl2 1).trans rfl); (have HW2 := Lib.hid hW2); (clear hW2 hl2 HW1 HL0)
              (go_wp2_with (at_builtin; go_loud (refine wpList_app1 rfl _ _ eltSpn rfl (by decide) rfl rfl (by simp) (HW2.out.ow.alloc _) rfl [.string ⟨lp.toArray⟩, .int .i64 lnn, .int .i64 (lnn + 1)] (⟨lp, lnn, lnn + 1⟩ : Spn) (blkAt _ _ rfl) rfl ⟨rfl, rfl, rfl⟩ (by omega) (by omega) (by have := HW2.out.bl.size; simp; omega) ?_); intro A3 c3 w7 hown7 hg7 hat7; have HREL := Lib.hid (SpW.app HW2.out (by ((repeat (first | (with_reducible exact Below.refl _ _) | (with_reducible refine belowA ?_ _) | (with_reducible refine belowD ?_) | (with_reducible refine belowS ?_ (Nat.le_refl _) _ _) | (with_reducible refine next ?_ (by assumption) (Nat.le_refl _)))); done)) hown7 hg7 hat7); clear hown7 hg7 hat7)); go_roundw; (case measure => simp [intOf]; omega); (case rel => exact ⟨k + 1, (init ++ [⟨xp, xf, xt⟩]) ++ [⟨lp, lnn, lnn + 1⟩], A3, c3, by omega, by go_num, by simp, Lib.hid ⟨HREL.out, HJ2.out, by simp only [List.length_append, List.length_cons, List.length_nil] at *; omega⟩⟩)
        · have hR : R = sp := by rw [h2, drop_end (by omega)]; cases sp <;> rfl
          have HR := Lib.hid hR
          go_wp2_with fail
          go_ret
          exact ⟨A2, sp.length, c2, rfl, by rw [HR.out]; exact (HS.out.ow.sl (by decide)).wide (fun k _ hk => by rcases hk with hk | hk; exact hk.elim; exact (HS.out.ow.lt k hk).1) (by decide), HS.out.bl⟩
    · intro l1 pk pv l2 w3 hsp hrg3 hg3 hs3 hen
      obtain ⟨a1, ar, rfl, rfl, e2⟩ := List.map_eq_append_iff.1 hsp
      obtain ⟨⟨la, lb⟩, a2, rfl, e3, rfl⟩ := List.map_eq_cons_iff.1 e2
      simp only [Prod.mk.injEq] at e3
      obtain ⟨rfl, rfl⟩ := e3
      have hb3 : Below w.heap.size w w3 := H5.out.grown hg3 H5.out.size (fun k hk => by injection hk with hk; omega)
      have how3 : Own w3 (fun _ => False) w.heap.size 38 A c out := H2.out.keep fun k hk hT => hg3.block k hk (fun e => by
        injection e with e
        rcases hT with hT | hT
        · exact hT
        · exact H3.out (by rw [hT, e]))
      have hw3 := hg3.size
      have HRG3 := Lib.hid hrg3; have HB3 := Lib.hid hb3; have HOW3 := Lib.hid how3
      obtain ⟨pl, nl⟩ := la
      have hkv : TLn.kv (⟨pl, nl⟩ : Ln) = .agg #[.string ⟨pl.toArray⟩, .int .i64 nl] := rfl
      have hrb := H1.out.lt
      rw [hkv] at hen ⊢
      clear hsp e2 hrg3 hg3 hb3 how3 hkv
      go_wp2_with (at_builtin; go_loud (refine wpList_app1 rfl _ _ eltLn rfl (by decide) rfl rfl rfl ((HOW3.out.alloc _).alloc _) rfl [.string ⟨pl.toArray⟩, .int .i64 nl] (⟨pl, nl⟩ : Ln) (blkAt _ _ (by simp [hs3])) rfl ⟨rfl, rfl⟩ (by omega) (by omega) (by simp; omega) ?_); intro A3 c3 w7 hown7 hg7 hat7)
      have hb4 : Below w3.heap.size w3 ((w3.alloc (.cells #[.string ⟨pl.toArray⟩, .int .i64 nl] 38)).alloc (.cells #[.string ⟨pl.toArray⟩, .int .i64 nl] 38)) := by ((repeat (first | (with_reducible exact Below.refl _ _) | (with_reducible refine belowA ?_ _) | (with_reducible refine belowD ?_) | (with_reducible refine belowS ?_ (Nat.le_refl _) _ _) | (with_reducible refine next ?_ (by assumption) (Nat.le_refl _)))); done)
      have hrg7 : RangeV TLn w7 b w.heap.size (vHeads m) (vHeads a1 ++ vHeads a2) := (HRG3.out.below hb4).grown hg7 (fun e => by have := (HOW3.out.lt b e).1; omega) H3.out
      have hz7 := hg7.size
      have hrr : A3.map Addr.block ≠ some w.heap.size := fun e => by
        rcases hat7 with h | h
        · exact H3.out (by rw [← h]; exact e)
        · rw [h] at e; injection e with e; simp at e; omega
      have hrel : RangeV TLn w7 b w.heap.size (vHeads m) (vHeads (a1 ++ a2)) := by unfold vHeads at hrg7 ⊢; rw [List.map_append]; exact hrg7
      have HR := Lib.hid (show RangeV TLn w7 b w.heap.size (vHeads m) (vHeads (a1 ++ a2)) ∧ Own w7 (fun _ => False) w.heap.size 38 A3 c3 (out ++ [(⟨pl, nl⟩ : Ln)]) ∧ A3.map Addr.block ≠ some w.heap.size ∧ ((out ++ [(⟨pl, nl⟩ : Ln)]) ++ (a1 ++ a2).map (fun p => p.1)).Perm (m.map (fun p => p.1)) ∧ Below w.heap.size w w7 ∧ w.heap.size < w7.heap.size from
        ⟨hrel, hown7, hrr, by
          refine List.Perm.trans ?_ H4.out
          rw [List.map_append, List.map_append, List.map_cons, List.append_assoc]
          refine List.Perm.append_left _ ?_
          show ((⟨pl, nl⟩ : Ln) :: (a1.map (fun p => p.1) ++ a2.map (fun p => p.1))).Perm (a1.map (fun p => p.1) ++ (⟨pl, nl⟩ : Ln) :: a2.map (fun p => p.1))
          exact List.perm_middle.symm, (HB3.out.trans (hb4.mono HB3.out.size)).grown hg7 (by have := hb4.size; omega) (fun k hk => (HOW3.out.lt k hk).1), by have := hb4.size; omega⟩)
      have HMS := Lib.hid (show w7.rangeLeft b w.heap.size < wr.rangeLeft b w.heap.size by
        rw [hrel.left_eq, H1.out.left_eq]
        unfold vHeads
        simp only [List.map_append, List.length_append, List.length_map, List.length_cons, List.map_cons]
        omega)
      clear hown7 hg7 hat7 hrg7 hrr hrel hb4 hz7 hen hrb
      go_wp2_with fail
      go_roundw
      case rel => exact ⟨a1 ++ a2, out ++ [(⟨pl, nl⟩ : Ln)], A3, c3, by simp, HR⟩
      case measure => exact HMS.out
end Go.Proofs.YtpeamehplhpcjaaGreatDoor
namespace Go.Proofs.YtpeamehplhpcjaaGreatDoor
open Go.RowKit Go.Shelf Go.Lib Go.Sort
theorem lt_ltS (a : Bs) : ∀ b : Bs, a < b ↔ ltS a b = true := by
  induction a with
  | nil => intro b; cases b <;> simp [ltS]
  | cons x r ih =>
    intro b
    cases b with
    | nil => simp [ltS]
    | cons y t =>
      rw [List.cons_lt_cons_iff, ih t]
      have e : ltS (x :: r) (y :: t) = if x = y then ltS r t else decide (x.toNat < y.toNat) := rfl
      rw [e]
      by_cases h : x = y
      · subst h; simp [UInt8.lt_irrefl]
      · simp [h, UInt8.lt_iff_toNat_lt]
theorem le_ltS (a b : Bs) : a ≤ b ↔ ltS b a = false := by
  show ¬ (b < a) ↔ _
  rw [lt_ltS]; simp
theorem merge_sortS (l : List Bs) (hn : l.Nodup) : l.mergeSort (fun x y => decide (x ≤ y)) = sortG ltS l := by
  have hp : (l.mergeSort (fun x y => decide (x ≤ y))).Perm l := List.mergeSort_perm _ _
  obtain ⟨s1, s2⟩ := sortG_law strS l (fun a _ b _ => ltS_tot b a)
  refine srt_unique strS ?_ s1 (fun x => by rw [hp.mem_iff, s2])
  have hs : (l.mergeSort (fun x y => decide (x ≤ y))).Pairwise (fun x y => decide (x ≤ y) = true) := by
    refine List.pairwise_mergeSort ?_ ?_ l
    · intro a b c h1 h2
      simp only [decide_eq_true_eq, le_ltS] at h1 h2 ⊢
      rcases ltS_tot a b with h | h | h
      · cases h3 : ltS c a with
        | false => rfl
        | true => have := ltS_trans c a b h3 h; rw [h2] at this; cases this
      · subst h; exact h2
      · rw [h1] at h; cases h
    · intro a b
      rcases ltS_tot a b with h | h | h
      · have : a ≤ b := by rw [le_ltS]; cases h3 : ltS b a with
          | false => rfl
          | true => have := ltS_trans _ _ _ h h3; rw [ltS_irr] at this; cases this
        simp [this]
      · subst h; simp
      · have : b ≤ a := by rw [le_ltS]; cases h3 : ltS a b with
          | false => rfl
          | true => have := ltS_trans _ _ _ h h3; rw [ltS_irr] at this; cases this
        simp [this]
  have hd : (l.mergeSort (fun x y => decide (x ≤ y))).Pairwise (· ≠ ·) := hp.nodup_iff.2 hn
  refine (hs.and hd).imp ?_
  rintro a b ⟨h1, h2⟩
  simp only [decide_eq_true_eq, le_ltS] at h1
  rcases ltS_tot a b with h | h | h
  · exact h
  · exact absurd h h2
  · rw [h1] at h; cases h
theorem sortS_any (A : Option Addr) (c base : Nat) (xs : List Bs) (w : World) (ho : Own w (fun _ => False) base 9 A c xs) (hn : xs.Nodup) (hN : xs.length ≤ 1000000) :
    Calls Tryz.prog 49 #[.slice A xs.length c] w fun e w' => e = .returned (.tuple #[]) ∧ Sl w' (fun k => base ≤ k ∧ A.map Addr.block = some k) A xs.length c (sortG ltS xs) ∧ w.grownBy w' (A.map Addr.block) := by
  have hcap := ho.cap
  rcases Classical.em (A = none) with hA | hA
  · subst hA
    have hx : xs = [] := by
      rcases Nat.eq_zero_or_pos xs.length with h | h
      · exact List.eq_nil_of_length_eq_zero h
      · exact absurd rfl (ho.ne_none h)
    subst hx
    refine (Tryz.slices_Sort_string_none none c w).mono ?_
    rintro e w' ⟨rfl, rfl⟩
    exact ⟨rfl, Sl.nil _ _ _ _ hcap.2, ⟨rfl, rfl, rfl, Nat.le_refl _, fun _ _ _ => rfl⟩⟩
  · obtain ⟨blk, rfl, hb1, hb2, hfz⟩ := ho.blk hA
    have hsl := ho.sl (by decide)
    have hH : Holds encStr w blk 0 xs.toArray := by
      intro j hj
      have hj' : j < xs.length := by simpa using hj
      obtain ⟨b, o, e, -, -, hc⟩ := hsl.str hj'
      injection e with e
      injection e with e1 e2
      subst e1 e2
      refine ⟨?_, by rw [Nat.zero_add]; exact hfz j⟩
      rw [hc, getElem!_pos xs.toArray j hj]
      rfl
    refine (Tryz.slices_Sort_string blk 0 c xs w hH hb2 (by omega)).mono ?_
    rintro e w' ⟨rfl, n, os, rfl⟩
    have hs := merge_sortS xs hn
    have hl : (xs.mergeSort fun x y => decide (x ≤ y)).toArray.size = xs.toArray.size := by simp [List.length_mergeSort]
    have hH2 := holds_putRow encStr (Sort.ahead w n) blk 0 xs.toArray (xs.mergeSort fun x y => decide (x ≤ y)).toArray (holds_ahead _ _ n _ _ _ hH) hl
    have hlen : (sortG ltS xs).length = xs.length := by rw [← hs, List.length_mergeSort]
    have hblk : ∀ k, k < w.heap.size → k ≠ blk → (grow (putRow encStr (Sort.ahead w n) blk 0 (xs.mergeSort fun x y => decide (x ≤ y)).toArray) os).heap[k]? = w.heap[k]? := by
      intro k hk hne
      have hne' : ¬ blk = k := fun e => hne e.symm
      simp [putRow, mapBlock, grow, Sort.ahead, Array.getElem?_append, Array.getElem?_modify, Array.getElem_modify, hk, hne']
    refine ⟨rfl, ⟨hlen.symm, hcap.1, hcap.2, fun i hi => ⟨_, rfl, ⟨hb1, rfl⟩, fun _ => encStr (sortG ltS xs)[i], fun j hj => ?_, rfl⟩⟩, ⟨rfl, rfl, rfl, by simp [grow, putRow, mapBlock, Sort.ahead], fun k hk hne => hblk k hk (fun e => hne (by rw [e]; rfl))⟩⟩
    have hj : j < 1 := hj
    obtain rfl : j = 0 := by omega
    have h1 := (hH2 i (by rw [hl]; simp; omega)).1
    rw [add_plain]
    have e2 : (xs.mergeSort fun x y => decide (x ≤ y)).toArray[i]! = (sortG ltS xs)[i] := by
      rw [getElem!_pos _ i (by simp [List.length_mergeSort]; omega)]
      simp [hs]
    rw [e2] at h1
    have hb3 := World.block_lt_of_cell? _ _ h1
    have e3 : (grow (putRow encStr (Sort.ahead w n) blk 0 (xs.mergeSort fun x y => decide (x ≤ y)).toArray) os).heap[blk]? = (putRow encStr (Sort.ahead w n) blk 0 (xs.mergeSort fun x y => decide (x ≤ y)).toArray).heap[blk]? := by
      simp only [grow]
      rw [Array.getElem?_append, if_pos hb3]
    rw [World.cell?_of_block (w := putRow encStr (Sort.ahead w n) blk 0 (xs.mergeSort fun x y => decide (x ≤ y)).toArray) e3]
    have e4 : GoT.size Bs = 1 := rfl
    rw [e4]
    simpa using h1
theorem sortMac_any (A : Option Addr) (c base : Nat) (xs : List Mac) (w : World) (T : Nat → Prop) (ho : Own w T base 63 A c xs) (hn : xs.Nodup) (hi : ∀ x ∈ xs, ∀ y ∈ xs, x.name = y.name → x = y) (hN : xs.length ≤ 1000000) :
    Calls Tryz.prog 50 #[.slice A xs.length c, .func (.func 51) #[] #[]] w fun e w' => e = .returned (.tuple #[]) ∧ Sl w' (fun _ => True) A xs.length c (sortG ltMac xs) ∧ w.grownBy w' (A.map Addr.block) := by
  have hcap := ho.cap
  rcases Classical.em (A = none) with hA | hA
  · subst hA
    have hx : xs = [] := by
      rcases Nat.eq_zero_or_pos xs.length with h | h
      · exact List.eq_nil_of_length_eq_zero h
      · exact absurd rfl (ho.ne_none h)
    subst hx
    refine (AnyF.slices_SortFunc_none Tryz.sortT50 none c _ w).mono ?_
    rintro e w' ⟨rfl, rfl⟩
    exact ⟨rfl, Sl.nil _ _ _ _ hcap.2, ⟨rfl, rfl, rfl, Nat.le_refl _, fun _ _ _ => rfl⟩⟩
  · obtain ⟨blk, rfl, hb1, hb2, hfz⟩ := ho.blk hA
    have hsl := (ho.sl (by decide)).wide (S' := fun k => T k ∨ k = blk) (fun k _ hk => by rcases hk with hk | hk; exact .inl hk; injection hk with hk; exact .inr hk.symm) (by decide)
    have hT : ∀ i (h : i < xs.length), ∃ A n c, w.cell? ⟨blk, i * 5, none⟩ = some (.string ⟨xs[i].name.toArray⟩) ∧ w.cell? ⟨blk, i * 5 + 1, none⟩ = some (.slice A n c) ∧ w.cell? ⟨blk, i * 5 + 2, none⟩ = some (.string ⟨xs[i].body.path.toArray⟩) ∧ w.cell? ⟨blk, i * 5 + 3, none⟩ = some (.int .i64 xs[i].body.fr) ∧ w.cell? ⟨blk, i * 5 + 4, none⟩ = some (.int .i64 xs[i].body.tu) ∧ Sl w (fun k => T k ∧ k ≠ blk) A n c xs[i].params := by
      intro i hi'
      obtain ⟨cs, ⟨h1, h2⟩, h3⟩ := ho
      rcases h2 with ⟨hv, h0⟩ | ⟨g, cap, cur, hv, hb, hg, hn', hm, hcs, htk⟩
      · injection hv with e1 e2 e3
        cases e1
      · injection hv with e1 e2 e3
        injection e1 with e1
        injection e1 with e1
        subst e1
        obtain ⟨r0, r2, r3, r4, A, n, c', r1, hs⟩ := h3 i hi'
        have hsz : GoT.size Mac = 5 := rfl
        rw [hsz] at h1 htk r0 r1 r2 r3 r4
        have hcell : ∀ j, j < 5 → w.cell? ⟨blk, i * 5 + j, none⟩ = some (cs.getD (i * 5 + j) undef) := fun j hj => by
          rw [cell_blk hg]
          have hlt : i * 5 + j < cs.length := by omega
          rw [List.getD_eq_getElem?_getD, List.getElem?_eq_getElem hlt, Option.getD_some]
          have h5 : cs[i * 5 + j]? = some cs[i * 5 + j] := List.getElem?_eq_getElem hlt
          rw [← h5]
          conv => rhs; rw [← htk]
          rw [List.getElem?_take, if_pos (by omega), Array.getElem?_toList]
        exact ⟨A, n, c', (hcell 0 (by omega)).trans (congrArg some r0), (hcell 1 (by omega)).trans (congrArg some r1), (hcell 2 (by omega)).trans (congrArg some r2), (hcell 3 (by omega)).trans (congrArg some r3), (hcell 4 (by omega)).trans (congrArg some r4),
          hs.wide (fun k hk hT => ⟨hT.1, fun e => hT.2 (by rw [e]; rfl)⟩) (by decide)⟩
    refine (sortM_any blk c xs w T hsl hfz hb2 hT hN).mono ?_
    rintro e w' ⟨rfl, ys, hp, hsrt, hs9, hg9⟩
    rw [← sorted_mac hn hi hp hsrt]
    exact ⟨rfl, hs9.any, hg9⟩
def VUnt (w : World) (v : Value) (u : Unt) : Prop := ∃ A1 n1 c1 A2 n2 c2 A3 n3 c3 A4 n4 c4 A5 n5 c5, v = .agg #[.string ⟨u.path.toArray⟩, .slice A1 n1 c1, .slice A2 n2 c2, .slice A3 n3 c3, .slice A4 n4 c4, .slice A5 n5 c5] ∧
  Sl w (fun _ => True) A1 n1 c1 u.flags ∧ Sl w (fun _ => True) A2 n2 c2 u.macros ∧ Sl w (fun _ => True) A3 n3 c3 u.items ∧ Sl w (fun _ => True) A4 n4 c4 u.heads ∧ Sl w (fun _ => True) A5 n5 c5 u.files
theorem VUnt.below {w w' : World} {v : Value} {u : Unt} (h : VUnt w v u) (hb : Below w.heap.size w w') : VUnt w' v u := by
  obtain ⟨A1, n1, c1, A2, n2, c2, A3, n3, c3, A4, n4, c4, A5, n5, c5, e, h1, h2, h3, h4, h5⟩ := h
  exact ⟨A1, n1, c1, A2, n2, c2, A3, n3, c3, A4, n4, c4, A5, n5, c5, e, h1.below hb, h2.below hb, h3.below hb, h4.below hb, h5.below hb⟩
def vFlt (f : Flt) : Value := .agg #[.int .i64 f.err, .int .i64 f.pkg, .int .i64 f.step, .string ⟨f.ln.path.toArray⟩, .int .i64 f.ln.n]
end Go.Proofs.YtpeamehplhpcjaaGreatDoor
namespace Go.Proofs.YtpeamehplhpcjaaGreatDoor
open Go.RowKit
theorem own_row {w : World} {base : Nat} {v : Value} {xs : List Bs} (h : w.ownsRow base 9 1 v xs.length (xs.map fun x => Value.string ⟨x.toArray⟩)) : ∃ A c, v = .slice A xs.length c ∧ Own w (fun _ => False) base 9 A c xs := by
  have hsz : GoT.size Bs = 1 := rfl
  have hrd : ∀ (A : Option Addr) i (h : i < xs.length), GoT.rd w (fun b => False ∧ A.map Addr.block ≠ some b) (fun j => (xs.map fun x => Value.string ⟨x.toArray⟩).getD (i * GoT.size Bs + j) undef) xs[i] := fun A i hi => by
    show List.getD _ (i * 1 + 0) undef = _
    rw [List.getD_eq_getElem?_getD]
    simp [hi]
  obtain ⟨h1, h2⟩ := h
  rcases h2 with ⟨hv, h0⟩ | ⟨g, cap, cur, hv, h3⟩
  · refine ⟨none, 0, by rw [hv, h0], _, ⟨h1, .inl ⟨by rw [h0], h0⟩⟩, hrd _⟩
  · refine ⟨some ⟨g, 0, none⟩, cap, hv, _, ⟨h1, .inr ⟨g, cap, cur, rfl, h3⟩⟩, hrd _⟩
theorem cloneB_any (A : Option Addr) (n c : Nat) (w : World) (S : Nat → Prop) (xs : List Bs) (hl : Sl w S A n c xs) (hN : n ≤ 1000000) :
    Calls Tryz.prog 28 #[.slice A n c] w fun e w' => ∃ A' c', e = .returned (.slice A' n c') ∧ Sl w' (fun k => w.heap.size ≤ k) A' n c' xs ∧ Below w.heap.size w w' := by
  have hn := hl.len
  subst hn
  cases A with
  | none =>
    have hx : xs = [] := by
      rcases Nat.eq_zero_or_pos xs.length with h | h
      · exact List.eq_nil_of_length_eq_zero h
      · obtain ⟨ad, hA, _⟩ := hl.at_ h; cases hA
    subst hx
    refine (Tryz.slices_Clone_string_nil 0 c w).mono ?_
    rintro e w' ⟨rfl, rfl⟩
    exact ⟨none, 0, rfl, Sl.nil _ _ _ _ (by decide), Below.refl _ _⟩
  | some ad =>
    rcases Nat.eq_zero_or_pos xs.length with h | h
    · have hx := List.eq_nil_of_length_eq_zero h
      subst hx
      refine (Tryz.slices_Clone_string_zero ad c w).mono ?_
      rintro e w' ⟨v, rfl, hrow, -, hb⟩
      obtain ⟨A', c', rfl, ho⟩ := own_row (xs := []) hrow
      exact ⟨A', c', rfl, (ho.sl (by decide)).wide (fun k _ hk => by rcases hk with hk | hk; exact hk.elim; exact (ho.lt k hk).1) (by decide), hb⟩
    · obtain ⟨b, o, hA, -, -, -⟩ := hl.str h
      injection hA with hA
      subst hA
      have hcell : ∀ j, j < (xs.map fun x => (⟨x.toArray⟩ : ByteArray)).length → w.cell? ⟨b, o + j, none⟩ = some (.string ((xs.map fun x => (⟨x.toArray⟩ : ByteArray)).getD j ByteArray.empty)) := fun j hj => by
        rw [List.length_map] at hj
        obtain ⟨b', o', hA', -, -, hc⟩ := hl.str hj
        injection hA' with hA'
        injection hA' with e1 e2
        subst e1 e2
        rw [hc, List.getD_eq_getElem?_getD]
        simp [hj]
      refine (Tryz.slices_Clone_string b o xs.length c (xs.map fun x => ⟨x.toArray⟩) w (by simp) (by omega) hcell).mono ?_
      rintro e w' ⟨v, rfl, hrow, -, hb⟩
      have e1 : ((xs.map fun x => (⟨x.toArray⟩ : ByteArray)).take xs.length).map Value.string = xs.map fun x => Value.string ⟨x.toArray⟩ := by
        rw [List.take_of_length_le (by simp), List.map_map]; rfl
      rw [e1] at hrow
      obtain ⟨A', c', rfl, ho⟩ := own_row hrow
      exact ⟨A', c', rfl, (ho.sl (by decide)).wide (fun k _ hk => by rcases hk with hk | hk; exact hk.elim; exact (ho.lt k hk).1) (by decide), hb⟩
theorem find_idx (l : List Itm) (x : Bs) (k : Nat) : (l.find? (fun y => y.name == x) = none ∧ idxS (fun y : Itm => y.name == x) l k = -1) ∨ ∃ i, ∃ h : i < l.length, idxS (fun y : Itm => y.name == x) l k = ((k + i : Nat) : Int) ∧ l.find? (fun y => y.name == x) = some l[i] := by
  induction l generalizing k with
  | nil => exact .inl ⟨rfl, rfl⟩
  | cons f r ih =>
    unfold idxS
    rw [List.find?_cons]
    by_cases h : (f.name == x) = true
    · rw [if_pos h, h]
      exact .inr ⟨0, by simp, by simp, rfl⟩
    · rw [if_neg h]
      rw [Bool.not_eq_true] at h
      rw [h]
      rcases ih (k + 1) with ⟨h1, h2⟩ | ⟨i, hi, h1, h2⟩
      · exact .inl ⟨h1, h2⟩
      · exact .inr ⟨i + 1, by simp; omega, by rw [h1]; congr 1; omega, by simpa using h2⟩
set_option maxHeartbeats 400000 in
theorem find1_any (w : World) (S : Nat → Prop) (v : Value) (x : Itm) (hv : VItm w S v x) (q : Nat) (nm : Bs) (hq : w.cell? ⟨q, 0, none⟩ = some (.string ⟨nm.toArray⟩)) :
    Calls Tryz.prog 65 #[v, .pointer (some ⟨q, 0, none⟩)] w fun e w' => e = .returned (.bool (x.name == nm)) ∧ Below w.heap.size w w' := by
  obtain ⟨A, n, c, rfl, -⟩ := hv
  have h1 := cell_alloc' hq (.cells #[.string ⟨x.name.toArray⟩, .int .i64 x.kind, .int .i64 x.mode, .slice A n c, .string ⟨x.body.path.toArray⟩, .int .i64 x.body.fr, .int .i64 x.body.tu] 48 (0, 0))
  clear hq
  go_enter Tryz.func65, Tryz.ntmps65
  go_wp2_with fail
  go_ret
  exact ⟨rfl, by ((repeat (first | (with_reducible exact Below.refl _ _) | (with_reducible refine belowA ?_ _) | (with_reducible refine belowD ?_) | (with_reducible refine belowS ?_ (Nat.le_refl _) _ _) | (with_reducible refine next ?_ (by assumption) (Nat.le_refl _)))); done)⟩
end Go.Proofs.YtpeamehplhpcjaaGreatDoor
