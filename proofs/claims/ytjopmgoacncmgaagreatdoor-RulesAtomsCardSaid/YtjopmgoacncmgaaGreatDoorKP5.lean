/- Rules: the parser's literal. -/
import Derived.Test.YtjopmgoacncmgaaGreatDoorKP4
import Derived.Test.YtjopmgoacncmgaaGreatDoorK6
import Derived.Test.YtjopmgoacncmgaaGreatDoorK13
set_option linter.unusedVariables false
set_option linter.unusedSimpArgs false
namespace Go.Proofs.YtjopmgoacncmgaaGreatDoor
open Go.RowKit

/-- A block b2 lies aside for the result; the parser is in state p. -/
structure RTW (w wx : World) (g b2 : Nat) (cs : Array Value) (t : TypeId) (p : KSt) : Prop where
  pw : PW wx g p
  hg : g < w.heap.size
  h2 : w.heap.size ≤ b2
  res : wx.heap[b2]? = some (.cells cs t (0, 0))
  frm : Frm (MG g) w wx
/-- The parser is in state p; blocks that were there are as they were. -/
structure PF (w wx : World) (g : Nat) (p : KSt) : Prop where
  pw : PW wx g p
  hg : g < w.heap.size
  frm : Frm (MG g) w wx
theorem PF.set {w wx : World} {g : Nat} {p : KSt} (h : PF w wx g p) {b : Nat} (hb : w.heap.size ≤ b) (i : Nat) (v : Value) : PF w (wx.setCell ⟨b, i, none⟩ v) g p := by
  have := h.hg
  exact ⟨h.pw.keepG (fun k hk => set_other _ _ _ _ _ (by omega)), h.hg, h.frm.setCell (p := ⟨b, i, none⟩) (fun hx => by have hx : b < w.heap.size := hx; omega) v⟩
theorem RTW.call {w wx wy : World} {g b2 : Nat} {cs : Array Value} {t : TypeId} {p q : KSt} (h : RTW w wx g b2 cs t p) (hp : PW wy g q) (hf : Frm (MG g) wx wy) : RTW w wy g b2 cs t q := by
  have := h.hg; have := h.h2
  exact ⟨hp, h.hg, h.h2, (hf.block _ (Array.getElem?_eq_some_iff.1 h.res).1 (fun e => by have : b2 = g := e; omega)).trans h.res, h.frm.trans hf⟩
theorem RTW.bad {w wx : World} {g b2 : Nat} {cs : Array Value} {t : TypeId} {p : KSt} (h : RTW w wx g b2 cs t p) (b : Bool) : RTW w (wx.setCell ⟨g, 1, none⟩ (.bool b)) g b2 cs t (p.1, b) :=
  h.call (h.pw.bad b) ((Frm.refl (MG g) wx).setCell (p := ⟨g, 1, none⟩) (fun _ => rfl) _)
theorem RTW.below {w wx wy : World} {g b2 : Nat} {cs : Array Value} {t : TypeId} {p : KSt} (h : RTW w wx g b2 cs t p) (hb : Below wx.heap.size wx wy) : RTW w wy g b2 cs t p := h.call (h.pw.below hb) (Frm.any hb)
theorem RTW.lt {w wx : World} {g b2 : Nat} {cs : Array Value} {t : TypeId} {p : KSt} (h : RTW w wx g b2 cs t p) : b2 < wx.heap.size := (Array.getElem?_eq_some_iff.1 h.res).1
theorem RTW.set {w wx : World} {g b2 : Nat} {cs : Array Value} {t : TypeId} {p : KSt} (h : RTW w wx g b2 cs t p) {b : Nat} (hb : w.heap.size ≤ b) (hne : b2 ≠ b) (i : Nat) (v : Value) : RTW w (wx.setCell ⟨b, i, none⟩ v) g b2 cs t p := by
  have := h.hg
  exact ⟨h.pw.keepG (fun k hk => set_other _ _ _ _ _ (by omega)), h.hg, h.h2, (set_other _ _ _ _ _ hne).trans h.res, h.frm.setCell (p := ⟨b, i, none⟩) (fun hx => by have hx : b < w.heap.size := hx; omega) v⟩
theorem RTW.pf {w wx : World} {g b2 : Nat} {cs : Array Value} {t : TypeId} {p : KSt} (h : RTW w wx g b2 cs t p) : PF w wx g p := ⟨h.pw, h.hg, h.frm⟩
def VPost (w : World) (g : Nat) (r : Ltl × KSt) (e : Ending) (w' : World) : Prop :=
  (∃ A n c, e = .returned (.agg #[.bool r.1.neg, .string ⟨r.1.op.toArray⟩, .string ⟨r.1.atom.name.toArray⟩, .slice A n c]) ∧ Sl w' (fun b => w.heap.size ≤ b) A n c r.1.atom.args) ∧ PW w' g r.2 ∧ Frm (MG g) w w' ∧ OkL r.1
theorem peekS_eq (p : KSt) (h : (peekS p).isEmpty = false) : (nextS p).1 = peekS p := by
  unfold nextS
  rw [h]
  rfl
theorem set4 {w : World} {b : Nat} {cs : Array Value} {t : TypeId} (h : w.heap[b]? = some (.cells cs t (0, 0))) (a0 a1 a2 a3 : Value) :
    ((((w.setCell ⟨b, 0, none⟩ a0).setCell ⟨b, 1, none⟩ a1).setCell ⟨b, 2, none⟩ a2).setCell ⟨b, 3, none⟩ a3).heap[b]? = some (.cells ((((cs.setIfInBounds 0 a0).setIfInBounds 1 a1).setIfInBounds 2 a2).setIfInBounds 3 a3) t (0, 0)) :=
  Blk.set _ (Blk.set _ (Blk.set _ (Blk.set _ h 0 a0) 1 a1) 2 a2) 3 a3

set_option maxRecDepth 100000 in
set_option maxHeartbeats 4000000 in
theorem literal_any (g : Nat) (p : KSt) (w : World) (h : PW w g p) (hN : p.1.length ≤ 1000000) :
    Calls Tryz.prog 89 #[.pointer (some ⟨g, 0, none⟩)] w (VPost w g (ltlP p)) := by
  have hgw := h.lt
  have hr0 : RTW w (w.alloc (.cells #[.bool false, .string ⟨#[]⟩, .string ⟨#[]⟩, .slice none 0 0] 54)) g w.heap.size #[.bool false, .string ⟨#[]⟩, .string ⟨#[]⟩, .slice none 0 0] 54 p :=
    ⟨h.alloc _, hgw, Nat.le_refl _, blkAt w _ rfl, (Frm.refl (MG g) w).alloc _⟩
  have hpk := peek_any g p _ hr0.pw
  have htk := h.peek
  obtain ⟨R, hR⟩ : ∃ R, R = ltlP p := ⟨_, rfl⟩
  rw [← hR]
  unfold ltlP at hR
  simp only at hR
  have hsz0 : (w.alloc (.cells #[.bool false, .string ⟨#[]⟩, .string ⟨#[]⟩, .slice none 0 0] 54)).heap.size = w.heap.size + 1 := by simp
  have HSZ := Lib.hid hsz0; clear hsz0
  by_cases hn : peekS p = sNot
  · rw [if_pos hn] at hR
    rw [hn] at hpk
    have hnx := next_any g p _ hr0.pw
    have hnl := nextS_len p
    generalize nextS p = x at *
    obtain ⟨x1, x2⟩ := x
    simp only at hnx hnl hR
    have hat := fun w h => atom_any g x2 w h (by omega)
    generalize atomP x2 = a at *
    obtain ⟨⟨nm, args⟩, q⟩ := a
    simp only at hR
    have HR0 := Lib.hid hr0; have HPK := Lib.hid hpk; have HNX := Lib.hid hnx; have HAT := Lib.hid hat; have HR := Lib.hid hR
    clear hr0 hpk hnx hat hR h hn htk
    go_enter Tryz.func89, Tryz.ntmps89
    go_wp2_with fail
    refine HPK.out.mono ?_
    rintro e w1 ⟨rfl, rfl⟩
    unfold sNot
    go_wp2_with fail
    refine HNX.out.mono ?_
    rintro e w1 ⟨rfl, hw1, hf1⟩
    have hr1 := HR0.out.call hw1 hf1
    have HR1 := Lib.hid hr1; clear hr1 hw1 HR0
    go_wp2_with fail
    refine (HAT.out _ HR1.out.pw).mono ?_
    rintro e w2 ⟨⟨A, n, c, rfl, hsl⟩, hw2, hf2, hok⟩
    have hr2 := HR1.out.call hw2 hf2
    have HR2 := Lib.hid hr2; have HSL := Lib.hid hsl; have HOK := Lib.hid hok
    have hsz1 := hf1.size
    clear hr2 hsl hok hw2 hf2 hf1
    have hB := HR2.out.res
    have r0 := (cell_blk hB 0).trans rfl; have r1 := (cell_blk hB 1).trans rfl; have r2 := (cell_blk hB 2).trans rfl; have r3 := (cell_blk hB 3).trans rfl
    have y0 := frz_blk hB 0; have y1 := frz_blk hB 1; have y2 := frz_blk hB 2; have y3 := frz_blk hB 3
    have HB := Lib.hid hB; clear hB
    go_wp2_with fail
    have HPF := Lib.hid HR2.out.pf
    have HOK2 := HOK; clear HOK; have HOK := Lib.hid (show OkL ⟨true, [], ⟨nm, args⟩⟩ from ⟨by simp, HOK2.out⟩)
    have hs2 := HSZ.out
    have hRF := set4 HB.out (.bool true) (.string ⟨#[]⟩) (.string ⟨nm.toArray⟩) (.slice A n c); have q0 := (cell_blk hRF 0).trans rfl; have q1 := (cell_blk hRF 1).trans rfl; have q2 := (cell_blk hRF 2).trans rfl; have q3 := (cell_blk hRF 3).trans rfl; refine bodyPost_ret (v := .agg #[.bool true, .string ⟨#[]⟩, .string ⟨nm.toArray⟩, .slice A n c]) (by simp [results, Tryz.results89, go_sem, q0, q1, q2, q3]) rfl ?_; unfold VPost; rw [HR.out]; have hpf := (((HPF.out.set (Nat.le_refl _) 0 (.bool true)).set (Nat.le_refl _) 1 (.string ⟨#[]⟩)).set (Nat.le_refl _) 2 (.string ⟨nm.toArray⟩)).set (Nat.le_refl _) 3 (.slice A n c); exact ⟨⟨A, n, c, rfl, (HSL.out.keep (fun k _ hs => (set_other _ _ _ _ _ (by omega)).trans ((set_other _ _ _ _ _ (by omega)).trans ((set_other _ _ _ _ _ (by omega)).trans (set_other _ _ _ _ _ (by omega)))))).wide (fun k _ hs => by omega) (by decide)⟩, hpf.pw, hpf.frm, HOK.out⟩
  · rw [if_neg hn] at hR
    by_cases hlo : (!(peekS p).isEmpty && lowB ((peekS p).headD 0)) = true
    · rw [if_pos hlo] at hR
      have hat := atom_any g p _ hr0.pw hN
      generalize atomP p = a at *
      obtain ⟨⟨nm, args⟩, q⟩ := a
      simp only at hR
      generalize peekS p = s at *
      cases s with
      | nil => cases hlo
      | cons x r =>
        have hlx : lowI x.toNat = true := show lowB x = true from by simpa using hlo
        have hne : ((x :: r : Bs) == [110, 111, 116]) = false := by simpa [sNot] using hn
        have hlw := fun w => lower_any x.toNat w
        rw [hlx] at hlw
        have HR0 := Lib.hid hr0; have HPK := Lib.hid hpk; have HAT := Lib.hid hat; have HR := Lib.hid hR; have HLW := Lib.hid hlw
        clear hr0 hpk hat hR h hn htk hlo hlx hlw
        go_enter Tryz.func89, Tryz.ntmps89
        go_wp2_with fail
        refine HPK.out.mono ?_
        rintro e w1 ⟨rfl, rfl⟩
        go_wp2_with fail
        refine (HLW.out _).mono ?_
        rintro e w1 ⟨rfl, rfl⟩
        go_wp2_with fail
        refine HAT.out.mono ?_
        rintro e w2 ⟨⟨A, n, c, rfl, hsl⟩, hw2, hf2, hok⟩
        have hr2 := HR0.out.call hw2 hf2
        have HR2 := Lib.hid hr2; have HSL := Lib.hid hsl; have HOK2 := Lib.hid hok
        clear hr2 hsl hok hw2 hf2
        have hB := HR2.out.res
        have r0 := (cell_blk hB 0).trans rfl; have r1 := (cell_blk hB 1).trans rfl; have r2 := (cell_blk hB 2).trans rfl; have r3 := (cell_blk hB 3).trans rfl
        have y0 := frz_blk hB 0; have y1 := frz_blk hB 1; have y2 := frz_blk hB 2; have y3 := frz_blk hB 3
        have HB := Lib.hid hB; clear hB
        go_wp2_with fail
        have HPF := Lib.hid HR2.out.pf
        have HOK := Lib.hid (show OkL ⟨false, [], ⟨nm, args⟩⟩ from ⟨by simp, HOK2.out⟩)
        have hs2 := HSZ.out
        have hRF := set4 HB.out (.bool false) (.string ⟨#[]⟩) (.string ⟨nm.toArray⟩) (.slice A n c); have q0 := (cell_blk hRF 0).trans rfl; have q1 := (cell_blk hRF 1).trans rfl; have q2 := (cell_blk hRF 2).trans rfl; have q3 := (cell_blk hRF 3).trans rfl; refine bodyPost_ret (v := .agg #[.bool false, .string ⟨#[]⟩, .string ⟨nm.toArray⟩, .slice A n c]) (by simp [results, Tryz.results89, go_sem, q0, q1, q2, q3]) rfl ?_; unfold VPost; rw [HR.out]; have hpf := (((HPF.out.set (Nat.le_refl _) 0 (.bool false)).set (Nat.le_refl _) 1 (.string ⟨#[]⟩)).set (Nat.le_refl _) 2 (.string ⟨nm.toArray⟩)).set (Nat.le_refl _) 3 (.slice A n c); exact ⟨⟨A, n, c, rfl, (HSL.out.keep (fun k _ hs => (set_other _ _ _ _ _ (by omega)).trans ((set_other _ _ _ _ _ (by omega)).trans ((set_other _ _ _ _ _ (by omega)).trans (set_other _ _ _ _ _ (by omega)))))).wide (fun k _ hs => by omega) (by decide)⟩, hpf.pw, hpf.frm, HOK.out⟩
    · rw [if_neg hlo] at hR
      have hga := arg_any g p _ hr0.pw
      have hgl := argP_len p
      have hgo := argP_ok h
      generalize argP p = a1 at *
      obtain ⟨a1, p1⟩ := a1
      simp only at hga hgl hgo hR
      have hnx := fun w h => next_any g p1 w h
      have hnl := nextS_len p1
      have hnt : ∀ w, PW w g p1 → TokOk (nextS p1).1 := fun w h => nextS_tok h
      generalize nextS p1 = x at *
      obtain ⟨op, p2⟩ := x
      simp only at hnx hnl hnt hR
      have hgb := fun w h => arg_any g p2 w h
      have hgbl := argP_len p2
      have hgbo : ∀ w, PW w g p2 → OkA (argP p2).1 := fun w h => argP_ok h
      generalize argP p2 = a2 at *
      obtain ⟨a2, p3⟩ := a2
      simp only at hgb hgbl hgbo hR
      generalize peekS p = s at *
      have HR0 := Lib.hid hr0; have HPK := Lib.hid hpk; have HGA := Lib.hid hga; have HR := Lib.hid hR; have HGO := Lib.hid hgo; have HNX := Lib.hid hnx; have HNT := Lib.hid hnt; have HGB := Lib.hid hgb; have HGBO := Lib.hid hgbo
      clear hr0 hpk hga hR h hgo hnx hnt hgb hgbo htk
      have hcase : s = [] ∨ ∃ x r, s = x :: r ∧ lowI x.toNat = false := by
        cases s with
        | nil => exact .inl rfl
        | cons x r => exact .inr ⟨x, r, rfl, show lowB x = false from by simpa using hlo⟩
      clear hlo
      go_enter Tryz.func89, Tryz.ntmps89
      go_wp2_with fail
      refine HPK.out.mono ?_
      rintro e w1 ⟨rfl, rfl⟩
      rcases hcase with rfl | ⟨x, r, rfl, hlx⟩
      focus
        go_wp2_with fail
      rotate_left
      focus
        have hne : ((x :: r : Bs) == [110, 111, 116]) = false := by simpa [sNot] using hn
        have hlw := fun w => lower_any x.toNat w
        rw [hlx] at hlw
        have HLW := Lib.hid hlw
        clear hlw hlx hn
        go_wp2_with fail
        refine (HLW.out _).mono ?_
        rintro e w1 ⟨rfl, rfl⟩
        go_wp2_with fail
      all_goals
        refine HGA.out.mono ?_
        rintro e w2 ⟨rfl, hw2, hf2⟩
        have hr2 := HR0.out.call hw2 hf2
        have HR2 := Lib.hid hr2
        have hs2 := hf2.size
        rw [HSZ.out] at hs2
        clear hr2 hw2 hf2
        unfold vArg
        go_wp2_with fail
        have hr3 := HR2.out.below (wy := w2.alloc (.cells (argC a1) 95)) boxed
        have hB3 : (w2.alloc (.cells (argC a1) 95)).heap[w2.heap.size]? = some (.cells (argC a1) 95 (0, 0)) := blkAt w2 _ rfl
        refine (HNX.out _ hr3.pw).mono ?_
        rintro e w3 ⟨rfl, hw3, hf3⟩
        have hop := HNT.out _ HR2.out.pw
        have hr4 := hr3.call hw3 hf3
        have hB4 : w3.heap[w2.heap.size]? = some (.cells (argC a1) 95 (0, 0)) := (hf3.block _ (by simp) (fun e => by have : w2.heap.size = g := e; omega)).trans hB3
        have hs3 := hf3.size
        simp only [World.size_alloc] at hs3
        have HR4 := Lib.hid hr4; have HB4 := Lib.hid hB4; have HOP := Lib.hid hop
        clear hr3 hB3 hr4 hB4 hw3 hf3 hop HR2 HR0 HNX HGA
        generalize w2.heap.size = b4 at *
        go_upto_region 9 with fail
        go_cut [6] from 32 to 39 (fun s6 wx => ∃ b6 A n c, s6 = .pointer (some ⟨b6, 0, none⟩) ∧ wx.heap[b6]? = some (.cells #[.bool false, .string ⟨op.toArray⟩, .string ⟨#[]⟩, .slice A n c] 54 (0, 0)) ∧ Sl wx (fun b => w.heap.size < b) A n c [a1, a2] ∧ RTW w wx g w.heap.size #[.bool false, .string ⟨#[]⟩, .string ⟨#[]⟩, .slice none 0 0] 54 p3 ∧ w.heap.size < b6)
        case first =>
          have hrow : ∀ (W : World) (k : Nat), W.heap[k]? = some (.cells #[.int .i64 a1.kind, .string ⟨a1.text.toArray⟩, .int .i64 a1.num, .int .i64 a2.kind, .string ⟨a2.text.toArray⟩, .int .i64 a2.num] 95 (0, 0)) → w.heap.size < k → Sl W (fun b => w.heap.size < b) (some ⟨k, 0, none⟩) 2 2 [a1, a2] := fun W k hb hk => by
            refine ⟨rfl, Nat.le_refl _, by decide, fun i hi => ⟨_, rfl, hk, fun j => (#[Value.int .i64 a1.kind, .string ⟨a1.text.toArray⟩, .int .i64 a1.num, .int .i64 a2.kind, .string ⟨a2.text.toArray⟩, .int .i64 a2.num] : Array Value).getD (i * 3 + j) undef, fun j hj => ?_, ?_⟩⟩
            · have hj : j < 3 := hj
              have hi : i < 2 := hi
              rw [add_plain, cell_blk hb]
              match i, j, hi, hj with
              | 0, 0, _, _ => rfl
              | 0, 1, _, _ => rfl
              | 0, 2, _, _ => rfl
              | 1, 0, _, _ => rfl
              | 1, 1, _, _ => rfl
              | 1, 2, _, _ => rfl
            · have hi : i < 2 := hi
              match i, hi with
              | 0, _ => exact ⟨rfl, rfl, rfl⟩
              | 1, _ => exact ⟨rfl, rfl, rfl⟩
          have HROW := Lib.hid hrow; clear hrow
          refine wpH_region (fun x => x.heap[b4]? = some (.cells (argC a1) 95 (0, 0))) (by kernel_rfl) ?_
          have hS : w3.drew.heap[b4]? = some (.cells (argC a1) 95 (0, 0)) := HB4.out
          have HX := Lib.hid (fun (x : World) (hx : x.heap[b4]? = some (.cells (argC a1) 95 (0, 0))) => (⟨(cell_blk hx 0).trans rfl, (cell_blk hx 1).trans rfl, (cell_blk hx 2).trans rfl⟩ : x.cell? ⟨b4, 0, none⟩ = some (.int .i64 a1.kind) ∧ x.cell? ⟨b4, 1, none⟩ = some (.string ⟨a1.text.toArray⟩) ∧ x.cell? ⟨b4, 2, none⟩ = some (.int .i64 a1.num)))
          have hrd := HR4.out.below (wy := w3.drew) (Below.refl _ _).drew
          have HRD := Lib.hid hrd; clear hrd
          (refine wpAnyH_takeW 0 rfl rfl (by kernel_rfl) (by kernel_rfl) (by kernel_rfl) (fun _ _ _ h => h) (v := ?_) (by kernel_rfl) hS ?_ ?_; rotate_left; (focus (intro x hx; have fx := HX.out x hx; go_simp; (try with_reducible rfl); done)); (try simp only [Act.put, List.setIfInBounds_toArray, List.set_cons_zero, List.set_cons_succ]))
          (refine wpAnyH_takeW 1 rfl rfl (by kernel_rfl) (by kernel_rfl) (by kernel_rfl) (fun _ _ _ h => h) (v := ?_) (by kernel_rfl) hS ?_ ?_; rotate_left; (focus (intro x hx; have fx := HX.out x hx; go_simp; (try with_reducible rfl); done)); (try simp only [Act.put, List.setIfInBounds_toArray, List.set_cons_zero, List.set_cons_succ]))
          (refine wpAnyH_takeW 2 rfl rfl (by kernel_rfl) (by kernel_rfl) (by kernel_rfl) (fun _ _ _ h => h) (v := ?_) (by kernel_rfl) hS ?_ ?_; rotate_left; (focus (intro x hx; have fx := HX.out x hx; go_simp; (try with_reducible rfl); done)); (try simp only [Act.put, List.setIfInBounds_toArray, List.set_cons_zero, List.set_cons_succ]))
          refine wpAnyH_two 3 7 (by kernel_rfl) rfl rfl ?_ ?_
          · intro K' hK'
            go_simp
            refine (HGB.out _ HRD.out.pw).mono ?_
            rintro e w5 ⟨rfl, hw5, hf5⟩
            have hS5 : w5.heap[b4]? = some (.cells (argC a1) 95 (0, 0)) := (hf5.block _ (Array.getElem?_eq_some_iff.1 hS).1 (fun e => by have : b4 = g := e; omega)).trans hS
            have HR5 := Lib.hid (HRD.out.call hw5 hf5); clear hw5 hf5
            refine hK'.out _ _ hS5 ?_
            clear hK' K'
            unfold vArg
            refine wpAnyH_two 4 7 (by kernel_rfl) rfl rfl ?_ ?_
            · intro K' hK'
              go_simp
              refine hK'.out _ _ (blkOld hS5 _) ?_
              clear hK' K'
              have hS : (w5.alloc (.cells #[.int .i64 a1.kind, .string ⟨a1.text.toArray⟩, .int .i64 a1.num, .int .i64 a2.kind, .string ⟨a2.text.toArray⟩, .int .i64 a2.num] 95)).heap[b4]? = some (.cells (argC a1) 95 (0, 0)) := blkOld hS5 _
              (refine wpAnyH_takeW 5 rfl rfl (by kernel_rfl) (by kernel_rfl) (by kernel_rfl) (fun _ _ _ h => h) (v := ?_) (by kernel_rfl) hS ?_ ?_; rotate_left; (focus (intro x hx; have fx := HX.out x hx; go_simp; (try with_reducible rfl); done)); (try simp only [Act.put, List.setIfInBounds_toArray, List.set_cons_zero, List.set_cons_succ]))
              (refine wpAnyH_takeW 6 rfl rfl (by kernel_rfl) (by kernel_rfl) (by kernel_rfl) (fun _ _ _ h => h) (v := ?_) (by kernel_rfl) hS ?_ ?_; rotate_left; (focus (intro x hx; have fx := HX.out x hx; go_simp; (try with_reducible rfl); done)); (try simp only [Act.put, List.setIfInBounds_toArray, List.set_cons_zero, List.set_cons_succ]))
              (refine wpAnyH_one 7 (by kernel_rfl) rfl ?_; intro K' hK'; go_simp; refine hK'.out _ _ (blkOld hS _) ?_; clear hK' K')
              (refine wpAnyH_one 8 (by kernel_rfl) rfl ?_; intro K' hK'; go_simp; refine hK'.out _ _ (blkOld hS _) ?_; clear hK' K')
              refine wpAnyH_done (by kernel_rfl) ?_ _
              go_wp2_with fail
              go_meet
              exact ⟨_, _, _, _, rfl, blkAt2 (by simp) rfl, HROW.out _ _ (blkOld (blkAt w5 _ rfl) _) HR5.out.lt, (HR5.out.below boxed).below boxed, by have := HR5.out.lt; omega⟩
            · intro K' hK'
              go_simp
              refine hK'.out _ _ (blkOld hS5 _) ?_
              clear hK' K'
              (refine wpAnyH_one 4 (by kernel_rfl) rfl ?_; intro K' hK'; go_simp; refine hK'.out _ _ (blkOld (blkOld hS5 _) _) ?_; clear hK' K')
              have hS : ((w5.alloc (.cells #[.bool false, .string ⟨#[]⟩, .string ⟨#[]⟩, .slice none 0 0] 54)).alloc (.cells #[.int .i64 a1.kind, .string ⟨a1.text.toArray⟩, .int .i64 a1.num, .int .i64 a2.kind, .string ⟨a2.text.toArray⟩, .int .i64 a2.num] 95)).heap[b4]? = some (.cells (argC a1) 95 (0, 0)) := blkOld (blkOld hS5 _) _
              (refine wpAnyH_takeW 5 rfl rfl (by kernel_rfl) (by kernel_rfl) (by kernel_rfl) (fun _ _ _ h => h) (v := ?_) (by kernel_rfl) hS ?_ ?_; rotate_left; (focus (intro x hx; have fx := HX.out x hx; go_simp; (try with_reducible rfl); done)); (try simp only [Act.put, List.setIfInBounds_toArray, List.set_cons_zero, List.set_cons_succ]))
              (refine wpAnyH_takeW 6 rfl rfl (by kernel_rfl) (by kernel_rfl) (by kernel_rfl) (fun _ _ _ h => h) (v := ?_) (by kernel_rfl) hS ?_ ?_; rotate_left; (focus (intro x hx; have fx := HX.out x hx; go_simp; (try with_reducible rfl); done)); (try simp only [Act.put, List.setIfInBounds_toArray, List.set_cons_zero, List.set_cons_succ]))
              refine wpAnyH_one 8 (by kernel_rfl) rfl ?_
              intro K' hK'
              go_simp
              refine hK'.out _ _ (blkOld (blkOld hS5 _) _) ?_
              clear hK' K'
              refine wpAnyH_done (by kernel_rfl) ?_ _
              go_wp2_with fail
              go_meet
              exact ⟨_, _, _, _, rfl, blkOld (blkAt w5 _ rfl) _, HROW.out _ _ (blkAt2 (by simp) rfl) (by have := HR5.out.lt; omega), (HR5.out.below boxed).below boxed, HR5.out.lt⟩
          · intro K' hK'
            go_simp
            refine hK'.out _ _ (blkOld hS _) ?_
            clear hK' K'
            refine wpAnyH_one 3 (by kernel_rfl) rfl ?_
            intro K' hK'
            go_simp
            have HRE := Lib.hid (HRD.out.below (wy := w3.drew.alloc (.cells #[.bool false, .string ⟨#[]⟩, .string ⟨#[]⟩, .slice none 0 0] 54)) boxed)
            refine (HGB.out _ HRE.out.pw).mono ?_
            rintro e w5 ⟨rfl, hw5, hf5⟩
            have hS5 : w5.heap[b4]? = some (.cells (argC a1) 95 (0, 0)) := (hf5.block _ (by have := (Array.getElem?_eq_some_iff.1 hS).1; simp; omega) (fun e => by have : b4 = g := e; omega)).trans (blkOld hS _)
            have hZ5 : w5.heap[w3.heap.size]? = some (.cells #[.bool false, .string ⟨#[]⟩, .string ⟨#[]⟩, .slice none 0 0] 54 (0, 0)) := (hf5.block _ (by simp) (fun e => by have : w3.heap.size = g := e; omega)).trans (blkAt w3.drew _ rfl)
            have HR5 := Lib.hid (HRE.out.call hw5 hf5); clear hw5 hf5
            refine hK'.out _ _ hS5 ?_
            clear hK' K'
            unfold vArg
            (refine wpAnyH_one 4 (by kernel_rfl) rfl ?_; intro K' hK'; go_simp; refine hK'.out _ _ (blkOld hS5 _) ?_; clear hK' K')
            have hS : (w5.alloc (.cells #[.int .i64 a1.kind, .string ⟨a1.text.toArray⟩, .int .i64 a1.num, .int .i64 a2.kind, .string ⟨a2.text.toArray⟩, .int .i64 a2.num] 95)).heap[b4]? = some (.cells (argC a1) 95 (0, 0)) := blkOld hS5 _
            have hZ6 : (w5.alloc (.cells #[.int .i64 a1.kind, .string ⟨a1.text.toArray⟩, .int .i64 a1.num, .int .i64 a2.kind, .string ⟨a2.text.toArray⟩, .int .i64 a2.num] 95)).heap[w3.heap.size]? = some (.cells #[.bool false, .string ⟨#[]⟩, .string ⟨#[]⟩, .slice none 0 0] 54 (0, 0)) := blkOld hZ5 _
            have z0 := (cell_blk hZ6 0).trans rfl; have z1 := (cell_blk hZ6 1).trans rfl; have z2 := (cell_blk hZ6 2).trans rfl; have z3 := (cell_blk hZ6 3).trans rfl
            have y0 := frz_blk hZ6 0; have y1 := frz_blk hZ6 1; have y2 := frz_blk hZ6 2; have y3 := frz_blk hZ6 3
            (refine wpAnyH_takeW 5 rfl rfl (by kernel_rfl) (by kernel_rfl) (by kernel_rfl) (fun _ _ _ h => h) (v := ?_) (by kernel_rfl) hS ?_ ?_; rotate_left; (focus (intro x hx; have fx := HX.out x hx; go_simp; (try with_reducible rfl); done)); (try simp only [Act.put, List.setIfInBounds_toArray, List.set_cons_zero, List.set_cons_succ]))
            (refine wpAnyH_takeW 6 rfl rfl (by kernel_rfl) (by kernel_rfl) (by kernel_rfl) (fun _ _ _ h => h) (v := ?_) (by kernel_rfl) hS ?_ ?_; rotate_left; (focus (intro x hx; have fx := HX.out x hx; go_simp; (try with_reducible rfl); done)); (try simp only [Act.put, List.setIfInBounds_toArray, List.set_cons_zero, List.set_cons_succ]))
            refine wpAnyH_one 8 (by kernel_rfl) rfl ?_
            intro K' hK'
            go_simp
            refine hK'.out _ _ ((set_other _ _ _ _ _ (by omega)).trans ((set_other _ _ _ _ _ (by omega)).trans ((set_other _ _ _ _ _ (by omega)).trans ((set_other _ _ _ _ _ (by omega)).trans hS)))) ?_
            clear hK' K'
            refine wpAnyH_done (by kernel_rfl) ?_ _
            go_wp2_with fail
            go_meet
            have hne : w5.heap.size ≠ w3.heap.size := fun e => by have := (Array.getElem?_eq_some_iff.1 hZ5).1; omega
            exact ⟨_, _, _, _, rfl, (set4 hZ6 _ _ _ _).trans rfl, HROW.out _ _ ((set_other _ _ _ _ _ hne).trans ((set_other _ _ _ _ _ hne).trans ((set_other _ _ _ _ _ hne).trans ((set_other _ _ _ _ _ hne).trans (blkAt w5 _ rfl))))) HR5.out.lt, ((((HR5.out.below boxed).set (by omega) (by omega) _ _).set (by omega) (by omega) _ _).set (by omega) (by omega) _ _).set (by omega) (by omega) _ _, by omega⟩
        case rest =>
          obtain ⟨b6, A, n, c, rfl, hb6, hsl, hr6, h26⟩ := hcut
          obtain ⟨L3, bad⟩ := p3
          obtain ⟨c1, z1⟩ := hr6.pw.c1
          simp only at c1
          have hHOK : OkL ⟨false, op, ⟨[], [a1, a2]⟩⟩ := ⟨by have := HOP.out.1; simp only; omega, by simp, fun x hx => by
            rcases List.mem_cons.1 hx with rfl | hx
            · exact HGO.out
            · rw [List.mem_singleton.1 hx]; exact HGBO.out _ HR4.out.pw⟩
          have hfl := fun w S (h : Sl w S A n c [a1, a2]) hL => formedLiteral_any ⟨false, op, ⟨[], [a1, a2]⟩⟩ A n c w S h hHOK hL
          have hB := hr6.res
          have r0 := (cell_blk hB 0).trans rfl; have r1 := (cell_blk hB 1).trans rfl; have r2 := (cell_blk hB 2).trans rfl; have r3 := (cell_blk hB 3).trans rfl
          have y0 := frz_blk hB 0; have y1 := frz_blk hB 1; have y2 := frz_blk hB 2; have y3 := frz_blk hB 3
          have k0 := (cell_blk hb6 0).trans rfl; have k1 := (cell_blk hb6 1).trans rfl; have k2 := (cell_blk hb6 2).trans rfl; have k3 := (cell_blk hb6 3).trans rfl
          have hgr : g ≠ w.heap.size := by omega
          have hgb : g ≠ b6 := by omega
          have hrb : w.heap.size ≠ b6 := by omega
          have HB0 := Lib.hid hB; have HB6 := Lib.hid hb6; have HSL0 := Lib.hid hsl; have HR6 := Lib.hid hr6; have HFL := Lib.hid hfl; have HOK := Lib.hid hHOK
          clear hB hb6 hsl hr6 hfl hHOK
          cases bad
          · cases op with
            | nil =>
              go_wp2_with fail
              have HB := Lib.hid ((set_other wc g 1 (.bool true) _ (Ne.symm hgr)).trans HB0.out)
              have HPF := Lib.hid (HR6.out.bad true).pf
              have HSL := Lib.hid (HSL0.out.keep (w' := wc.setCell ⟨g, 1, none⟩ (.bool true)) (fun k _ hs => set_other _ _ _ _ _ (by omega)))
              have hRF := set4 HB.out (.bool false) (.string ⟨#[]⟩) (.string ⟨#[]⟩) (.slice A n c); have q0 := (cell_blk hRF 0).trans rfl; have q1 := (cell_blk hRF 1).trans rfl; have q2 := (cell_blk hRF 2).trans rfl; have q3 := (cell_blk hRF 3).trans rfl; refine bodyPost_ret (v := .agg #[.bool false, .string ⟨#[]⟩, .string ⟨#[]⟩, .slice A n c]) (by simp [results, Tryz.results89, go_sem, q0, q1, q2, q3]) rfl ?_; unfold VPost; rw [HR.out]; have hpf := (((HPF.out.set (Nat.le_refl _) 0 (.bool false)).set (Nat.le_refl _) 1 (.string ⟨#[]⟩)).set (Nat.le_refl _) 2 (.string ⟨#[]⟩)).set (Nat.le_refl _) 3 (.slice A n c); exact ⟨⟨A, n, c, rfl, (HSL.out.keep (fun k _ hs => (set_other _ _ _ _ _ (by omega)).trans ((set_other _ _ _ _ _ (by omega)).trans ((set_other _ _ _ _ _ (by omega)).trans (set_other _ _ _ _ _ (by omega)))))).wide (fun k _ hs => by omega) (by decide)⟩, hpf.pw, hpf.frm, HOK.out⟩
            | cons o1 o2 =>
              have hoe : ((o1 :: o2 : Bs) == []) = false := rfl
              go_wp2_with fail
              refine (HFL.out _ _ HSL0.out HR6.out.pw.ld).mono ?_
              rintro e w6 ⟨rfl, hb66⟩
              have HR7 := Lib.hid (HR6.out.below hb66)
              have hb67 := keptBlk hb66 HB6.out
              obtain ⟨c1, z1⟩ := HR7.out.pw.c1
              simp only at c1
              have hB := HR7.out.res
              have r0 := (cell_blk hB 0).trans rfl; have r1 := (cell_blk hB 1).trans rfl; have r2 := (cell_blk hB 2).trans rfl; have r3 := (cell_blk hB 3).trans rfl
              have y0 := frz_blk hB 0; have y1 := frz_blk hB 1; have y2 := frz_blk hB 2; have y3 := frz_blk hB 3
              have k0 := (cell_blk hb67 0).trans rfl; have k1 := (cell_blk hb67 1).trans rfl; have k2 := (cell_blk hb67 2).trans rfl; have k3 := (cell_blk hb67 3).trans rfl
              have HB7 := Lib.hid hB; have HSL7 := Lib.hid (HSL0.out.below hb66); clear hB hb67 hb66
              go_wp2_with fail
              have HB := Lib.hid ((set_other w6 g 1 (.bool (!ltlS ⟨false, o1 :: o2, ⟨[], [a1, a2]⟩⟩)) _ (Ne.symm hgr)).trans HB7.out)
              have HPF := Lib.hid (HR7.out.bad (!ltlS ⟨false, o1 :: o2, ⟨[], [a1, a2]⟩⟩)).pf
              have HSL := Lib.hid (HSL7.out.keep (w' := w6.setCell ⟨g, 1, none⟩ (.bool (!ltlS ⟨false, o1 :: o2, ⟨[], [a1, a2]⟩⟩))) (fun k _ hs => set_other _ _ _ _ _ (by omega)))
              have hRF := set4 HB.out (.bool false) (.string ⟨(o1 :: o2).toArray⟩) (.string ⟨#[]⟩) (.slice A n c); have q0 := (cell_blk hRF 0).trans rfl; have q1 := (cell_blk hRF 1).trans rfl; have q2 := (cell_blk hRF 2).trans rfl; have q3 := (cell_blk hRF 3).trans rfl; refine bodyPost_ret (v := .agg #[.bool false, .string ⟨(o1 :: o2).toArray⟩, .string ⟨#[]⟩, .slice A n c]) (by simp [results, Tryz.results89, go_sem, q0, q1, q2, q3]) rfl ?_; unfold VPost; rw [HR.out]; have hpf := (((HPF.out.set (Nat.le_refl _) 0 (.bool false)).set (Nat.le_refl _) 1 (.string ⟨(o1 :: o2).toArray⟩)).set (Nat.le_refl _) 2 (.string ⟨#[]⟩)).set (Nat.le_refl _) 3 (.slice A n c); exact ⟨⟨A, n, c, rfl, (HSL.out.keep (fun k _ hs => (set_other _ _ _ _ _ (by omega)).trans ((set_other _ _ _ _ _ (by omega)).trans ((set_other _ _ _ _ _ (by omega)).trans (set_other _ _ _ _ _ (by omega)))))).wide (fun k _ hs => by omega) (by decide)⟩, hpf.pw, hpf.frm, HOK.out⟩
          · go_wp2_with fail
            have HB := Lib.hid ((set_other wc g 1 (.bool true) _ (Ne.symm hgr)).trans HB0.out)
            have HPF := Lib.hid (HR6.out.bad true).pf
            have HSL := Lib.hid (HSL0.out.keep (w' := wc.setCell ⟨g, 1, none⟩ (.bool true)) (fun k _ hs => set_other _ _ _ _ _ (by omega)))
            have hRF := set4 HB.out (.bool false) (.string ⟨op.toArray⟩) (.string ⟨#[]⟩) (.slice A n c); have q0 := (cell_blk hRF 0).trans rfl; have q1 := (cell_blk hRF 1).trans rfl; have q2 := (cell_blk hRF 2).trans rfl; have q3 := (cell_blk hRF 3).trans rfl; refine bodyPost_ret (v := .agg #[.bool false, .string ⟨op.toArray⟩, .string ⟨#[]⟩, .slice A n c]) (by simp [results, Tryz.results89, go_sem, q0, q1, q2, q3]) rfl ?_; unfold VPost; rw [HR.out]; have hpf := (((HPF.out.set (Nat.le_refl _) 0 (.bool false)).set (Nat.le_refl _) 1 (.string ⟨op.toArray⟩)).set (Nat.le_refl _) 2 (.string ⟨#[]⟩)).set (Nat.le_refl _) 3 (.slice A n c); exact ⟨⟨A, n, c, rfl, (HSL.out.keep (fun k _ hs => (set_other _ _ _ _ _ (by omega)).trans ((set_other _ _ _ _ _ (by omega)).trans ((set_other _ _ _ _ _ (by omega)).trans (set_other _ _ _ _ _ (by omega)))))).wide (fun k _ hs => by omega) (by decide)⟩, hpf.pw, hpf.frm, HOK.out⟩
end Go.Proofs.YtjopmgoacncmgaaGreatDoor
