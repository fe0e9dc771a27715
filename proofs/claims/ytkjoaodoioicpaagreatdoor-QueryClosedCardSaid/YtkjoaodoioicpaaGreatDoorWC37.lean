/- Query (package licitlaw54): a part of the proofs of its laws; see the law's own text, which comes last in 'order'. No conditions of its own. -/
import Derived.Test.YtkjoaodoioicpaaGreatDoorWC05
import Derived.Test.YtkjoaodoioicpaaGreatDoorWC36
set_option linter.unusedVariables false
set_option linter.unusedSimpArgs false
namespace Go.Proofs.YtkjoaodoioicpaaGreatDoor
open Go.RowKit
variable {N : Nat}
structure RTR (N : Nat) (w wx : World) (g b2 : Nat) (cs : Array Value) (t : TypeId) (p : RSt) : Prop where
  pw : RW N wx g p
  hg : g < w.heap.size
  h2 : w.heap.size ≤ b2
  res : wx.heap[b2]? = some (.cells cs t (0, 0))
  frm : Frm (MG g) w wx
structure PFR (N : Nat) (w wx : World) (g : Nat) (p : RSt) : Prop where
  pw : RW N wx g p
  hg : g < w.heap.size
  frm : Frm (MG g) w wx
theorem PFR.set {w wx : World} {g : Nat} {p : RSt} (h : PFR N w wx g p) {b : Nat} (hb : w.heap.size ≤ b) (i : Nat) (v : Value) : PFR N w (wx.setCell ⟨b, i, none⟩ v) g p := by
  have := h.hg
  exact ⟨h.pw.keepG (fun k hk => set_other _ _ _ _ _ (by omega)), h.hg, h.frm.setCell (p := ⟨b, i, none⟩) (fun hx => by have hx : b < w.heap.size := hx; omega) v⟩
theorem RTR.call {w wx wy : World} {g b2 : Nat} {cs : Array Value} {t : TypeId} {p q : RSt} (h : RTR N w wx g b2 cs t p) (hp : RW N wy g q) (hf : Frm (MG g) wx wy) : RTR N w wy g b2 cs t q := by
  have := h.hg; have := h.h2
  exact ⟨hp, h.hg, h.h2, (hf.block _ (Array.getElem?_eq_some_iff.1 h.res).1 (fun e => by have : b2 = g := e; omega)).trans h.res, h.frm.trans hf⟩
theorem RTR.bad {w wx : World} {g b2 : Nat} {cs : Array Value} {t : TypeId} {p : RSt} (h : RTR N w wx g b2 cs t p) (b : Bool) : RTR N w (wx.setCell ⟨g, 2, none⟩ (.bool b)) g b2 cs t (p.1, b) :=
  h.call (h.pw.bad b) ((Frm.refl (MG g) wx).setCell (p := ⟨g, 2, none⟩) (fun _ => rfl) _)
theorem RTR.below {w wx wy : World} {g b2 : Nat} {cs : Array Value} {t : TypeId} {p : RSt} (h : RTR N w wx g b2 cs t p) (hb : Below wx.heap.size wx wy) : RTR N w wy g b2 cs t p := h.call (h.pw.below hb) (Frm.any hb)
theorem RTR.lt {w wx : World} {g b2 : Nat} {cs : Array Value} {t : TypeId} {p : RSt} (h : RTR N w wx g b2 cs t p) : b2 < wx.heap.size := (Array.getElem?_eq_some_iff.1 h.res).1
theorem RTR.set {w wx : World} {g b2 : Nat} {cs : Array Value} {t : TypeId} {p : RSt} (h : RTR N w wx g b2 cs t p) {b : Nat} (hb : w.heap.size ≤ b) (hne : b2 ≠ b) (i : Nat) (v : Value) : RTR N w (wx.setCell ⟨b, i, none⟩ v) g b2 cs t p := by
  have := h.hg
  exact ⟨h.pw.keepG (fun k hk => set_other _ _ _ _ _ (by omega)), h.hg, h.h2, (set_other _ _ _ _ _ hne).trans h.res, h.frm.setCell (p := ⟨b, i, none⟩) (fun hx => by have hx : b < w.heap.size := hx; omega) v⟩
theorem RTR.pf {w wx : World} {g b2 : Nat} {cs : Array Value} {t : TypeId} {p : RSt} (h : RTR N w wx g b2 cs t p) : PFR N w wx g p := ⟨h.pw, h.hg, h.frm⟩
def VRPost (N : Nat) (w : World) (g : Nat) (r : Ltl × RSt) (e : Ending) (w' : World) : Prop :=
  (∃ A n c, e = .returned (.agg #[.bool r.1.neg, .string ⟨r.1.op.toArray⟩, .string ⟨r.1.atom.name.toArray⟩, .slice A n c]) ∧ Sl w' (fun b => w.heap.size ≤ b) A n c r.1.atom.args) ∧ RW N w' g r.2 ∧ Frm (MG g) w w' ∧ OkL r.1
theorem rltl_cases (p : RSt) : ((ris p 119 sNot).1 = true ∧ rltl p = (⟨true, [], (ratom (ris p 119 sNot).2).1⟩, (ratom (ris p 119 sNot).2).2)) ∨
    ((ris p 119 sNot).1 = false ∧ (rnext p).kind = 119 ∧ predS (rnext p).text = true ∧ rltl p = (⟨false, [], (ratom p).1⟩, (ratom p).2)) ∨
    ((ris p 119 sNot).1 = false ∧ ((rnext p).kind ≠ 119 ∨ ((rnext p).kind = 119 ∧ predS (rnext p).text = false)) ∧ rltl p = if (rarg p).2.2 || (rnext (rarg p).2).kind ≠ 115 || !opsL.contains (rnext (rarg p).2).text then (default, ((rarg p).2.1, true))
      else (⟨false, (rnext (rarg p).2).text, ⟨[], [(rarg p).1, (rarg ((rarg p).2.1.drop 1, (rarg p).2.2)).1]⟩⟩, (rarg ((rarg p).2.1.drop 1, (rarg p).2.2)).2)) := by
  unfold rltl
  simp only
  cases h1 : (ris p 119 sNot).1 with
  | true => left; exact ⟨rfl, by rw [if_pos rfl]⟩
  | false =>
    right
    by_cases h2 : (rnext p).kind = 119
    · cases h3 : predS (rnext p).text with
      | true => left; exact ⟨rfl, h2, rfl, by rw [if_neg (by simp), if_pos (by simp [h2])]⟩
      | false => right; exact ⟨rfl, .inr ⟨h2, rfl⟩, by rw [if_neg (by simp), if_neg (by simp)]⟩
    · right; exact ⟨rfl, .inl h2, by rw [if_neg (by simp), if_neg (by simp [h2])]⟩
theorem okL_default : OkL default := ⟨by simp [default, instInhabitedLtl.default], by simp [default, instInhabitedLtl.default, instInhabitedAtm.default], fun a ha => by cases ha⟩
set_option maxRecDepth 100000 in
set_option maxHeartbeats 16000000 in
theorem rliteralR_any (g : Nat) (p : RSt) (w : World) (h : RW N w g p) :
    Calls Tryz.prog 71 #[.pointer (some ⟨g, 0, none⟩)] w (VRPost N w g (rltl p)) := by
  have hgw := h.lt
  have hr0 : RTR N w (w.alloc (.cells #[.bool false, .string ⟨#[]⟩, .string ⟨#[]⟩, .slice none 0 0] 60)) g w.heap.size #[.bool false, .string ⟨#[]⟩, .string ⟨#[]⟩, .slice none 0 0] 60 p :=
    ⟨h.alloc _, hgw, Nat.le_refl _, blkAt w _ rfl, (Frm.refl (MG g) w).alloc _⟩
  have hri := ris_any g p 119 sNot _ hr0.pw (by omega)
  have hno := ris_no (p := p) (k := 119) (s := sNot)
  have hok := h.nextOk
  obtain ⟨R, hR⟩ : ∃ R, R = rltl p := ⟨_, rfl⟩
  rw [← hR]
  have hcs := rltl_cases p
  rw [← hR] at hcs
  clear hR
  have hsz0 : (w.alloc (.cells #[.bool false, .string ⟨#[]⟩, .string ⟨#[]⟩, .slice none 0 0] 60)).heap.size = w.heap.size + 1 := by simp
  have HSZ := Lib.hid hsz0; clear hsz0
  have HR0 := Lib.hid hr0
  generalize ris p 119 sNot = n at *
  obtain ⟨n1, n2⟩ := n
  simp only at hri hno hcs
  have hrn := fun w' (h' : RW N w' g p) => rnext_any g p w' h'
  have hra := fun w' (h' : RW N w' g p) => rargR_any g p w' h'
  have hoa : ∀ w', RW N w' g p → OkA (rarg p).1 := fun w' h' => rarg_ok h'
  have hat := fun w' (h' : RW N w' g p) => ratom_any g p w' h'
  obtain ⟨t, ht⟩ : ∃ t, t = rnext p := ⟨_, rfl⟩
  rw [← ht] at hok hcs hrn
  clear ht
  obtain ⟨tk, tt⟩ := t
  unfold vTk at hrn
  simp only at hok hcs hrn
  obtain ⟨ok1, ok2, -⟩ := hok
  simp only at ok1 ok2
  have hpr := fun w => rpredicate_any tt w (by omega)
  have HRI := Lib.hid hri; have HRN := Lib.hid hrn; have HPR := Lib.hid hpr; have HAT0 := Lib.hid hat; have HH := Lib.hid h
  unfold sNot at HRI
  clear hr0 hri hrn hpr hat h
  rcases hcs with ⟨h1, hR⟩ | ⟨h1, h2, h3, hR⟩ | ⟨h1, h2, hR⟩
  · subst h1
    have hat2 := fun w' (h' : RW N w' g n2) => ratom_any g n2 w' h'
    generalize ratom n2 = a at *
    obtain ⟨⟨nm, args⟩, qq⟩ := a
    simp only at hR
    have HAT := Lib.hid hat2; have HR := Lib.hid hR
    clear hat2 hR hno hra hoa
    go_enter Tryz.func71, Tryz.ntmps71
    go_wp2_with fail
    refine HRI.out.mono ?_
    rintro e w1 ⟨rfl, hw1, hf1⟩
    have hr1 := HR0.out.call hw1 hf1
    have HR1 := Lib.hid hr1; clear hr1 hw1 HR0
    go_wp2_with fail
    refine (HAT.out _ HR1.out.pw).mono ?_
    rintro e w2 ⟨⟨A, n, c, rfl, hsl⟩, hw2, hf2, hok⟩
    have hr2 := HR1.out.call hw2 hf2
    have HR2 := Lib.hid hr2; have HSL := Lib.hid hsl
    have HOK := Lib.hid (show OkL ⟨true, [], ⟨nm, args⟩⟩ from ⟨by simp, hok⟩)
    have hsz1 := hf1.size
    rw [HSZ.out] at hsz1
    clear hr2 hsl hok hw2 hf2 hf1
    have hB := HR2.out.res
    have r0 := (cell_blk hB 0).trans rfl; have r1 := (cell_blk hB 1).trans rfl; have r2 := (cell_blk hB 2).trans rfl; have r3 := (cell_blk hB 3).trans rfl
    have y0 := frz_blk hB 0; have y1 := frz_blk hB 1; have y2 := frz_blk hB 2; have y3 := frz_blk hB 3
    have HB := Lib.hid hB; clear hB
    go_wp2_with fail
    have HPF := Lib.hid HR2.out.pf
    have hs2 := HSZ.out
    have hRF := set4 HB.out (.bool true) (.string ⟨#[]⟩) (.string ⟨nm.toArray⟩) (.slice A n c)
    have q0 := (cell_blk hRF 0).trans rfl; have q1 := (cell_blk hRF 1).trans rfl; have q2 := (cell_blk hRF 2).trans rfl; have q3 := (cell_blk hRF 3).trans rfl
    refine bodyPost_ret (v := .agg #[.bool true, .string ⟨#[]⟩, .string ⟨nm.toArray⟩, .slice A n c]) (by simp [results, Tryz.results71, go_sem, q0, q1, q2, q3]) rfl ?_
    unfold VRPost
    rw [HR.out]
    have hpf := (((HPF.out.set (Nat.le_refl _) 0 (.bool true)).set (Nat.le_refl _) 1 (.string ⟨#[]⟩)).set (Nat.le_refl _) 2 (.string ⟨nm.toArray⟩)).set (Nat.le_refl _) 3 (.slice A n c)
    exact ⟨⟨A, n, c, rfl, (HSL.out.keep (fun k _ hs => (set_other _ _ _ _ _ (by omega)).trans ((set_other _ _ _ _ _ (by omega)).trans ((set_other _ _ _ _ _ (by omega)).trans (set_other _ _ _ _ _ (by omega)))))).wide (fun k _ hs => by omega) (by decide)⟩, hpf.pw, hpf.frm, HOK.out⟩
  · subst h1
    have hnn := hno rfl
    subst hnn
    subst h2
    have hp2 := fun w => HPR.out w
    rw [h3] at hp2
    have HPR2 := Lib.hid hp2
    generalize ratom n2 = a at *
    obtain ⟨⟨nm, args⟩, qq⟩ := a
    simp only at hR
    have HR := Lib.hid hR
    clear hp2 h3 hR hno hra hoa
    go_enter Tryz.func71, Tryz.ntmps71
    go_wp2_with fail
    refine HRI.out.mono ?_
    rintro e w1 ⟨rfl, hw1, hf1⟩
    have hr1 := HR0.out.call hw1 hf1
    have hsz1 := hf1.size
    rw [HSZ.out] at hsz1
    go_wp2_with fail
    refine (HRN.out _ hr1.pw).mono ?_
    rintro e w2 ⟨rfl, hb2⟩
    have hsz2 := hb2.size
    have hr2 := (hr1.below hb2).below (wy := w2.alloc (.cells #[.int .u8 119, .string ⟨tt.toArray⟩] 114)) boxed
    have HR2' := Lib.hid hr2; clear hr1 hr2 hw1 hf1 hb2 HR0
    have hz2 : (w2.alloc (.cells #[.int .u8 119, .string ⟨tt.toArray⟩] 114)).heap.size = w2.heap.size + 1 := by simp
    have HZ2 := Lib.hid hz2; clear hz2
    go_wp2_with fail
    refine (HPR2.out _).mono ?_
    rintro e w' ⟨rfl, rfl⟩
    go_wp2_with fail
    refine (HAT0.out _ HR2'.out.pw).mono ?_
    rintro e w3 ⟨⟨A, n, c, rfl, hsl⟩, hw3, hf3, hok⟩
    have hr3 := HR2'.out.call hw3 hf3
    have HR2 := Lib.hid hr3; have HSL := Lib.hid hsl
    have HOK := Lib.hid (show OkL ⟨false, [], ⟨nm, args⟩⟩ from ⟨by simp, hok⟩)
    have hsz3 := hf3.size
    rw [HZ2.out] at hsz3
    have hsz4 := HZ2.out
    clear hr3 hsl hok hw3 hf3
    have hB := HR2.out.res
    have r0 := (cell_blk hB 0).trans rfl; have r1 := (cell_blk hB 1).trans rfl; have r2 := (cell_blk hB 2).trans rfl; have r3 := (cell_blk hB 3).trans rfl
    have y0 := frz_blk hB 0; have y1 := frz_blk hB 1; have y2 := frz_blk hB 2; have y3 := frz_blk hB 3
    have HB := Lib.hid hB; clear hB
    go_wp2_with fail
    have HPF := Lib.hid HR2.out.pf
    have hs2 := HSZ.out
    have hRF := set4 HB.out (.bool false) (.string ⟨#[]⟩) (.string ⟨nm.toArray⟩) (.slice A n c)
    have q0 := (cell_blk hRF 0).trans rfl; have q1 := (cell_blk hRF 1).trans rfl; have q2 := (cell_blk hRF 2).trans rfl; have q3 := (cell_blk hRF 3).trans rfl
    refine bodyPost_ret (v := .agg #[.bool false, .string ⟨#[]⟩, .string ⟨nm.toArray⟩, .slice A n c]) (by simp [results, Tryz.results71, go_sem, q0, q1, q2, q3]) rfl ?_
    unfold VRPost
    rw [HR.out]
    have hpf := (((HPF.out.set (Nat.le_refl _) 0 (.bool false)).set (Nat.le_refl _) 1 (.string ⟨#[]⟩)).set (Nat.le_refl _) 2 (.string ⟨nm.toArray⟩)).set (Nat.le_refl _) 3 (.slice A n c)
    exact ⟨⟨A, n, c, rfl, (HSL.out.keep (fun k _ hs => (set_other _ _ _ _ _ (by omega)).trans ((set_other _ _ _ _ _ (by omega)).trans ((set_other _ _ _ _ _ (by omega)).trans (set_other _ _ _ _ _ (by omega)))))).wide (fun k _ hs => by omega) (by decide)⟩, hpf.pw, hpf.frm, HOK.out⟩
  · subst h1
    have hnn := hno rfl
    subst hnn
    have hoa2 := hoa
    generalize rarg n2 = a1 at *
    obtain ⟨a1, p1⟩ := a1
    obtain ⟨p1l, p1b⟩ := p1
    simp only at hra hoa hR
    have hrn1 := fun w' (h' : RW N w' g (p1l, p1b)) => rnext_any g (p1l, p1b) w' h'
    have hok1 : ∀ w', RW N w' g (p1l, p1b) → TkOk (rnext (p1l, p1b)) := fun w' h' => h'.nextOk
    have hadv := fun w' (h' : RW N w' g (p1l, p1b)) => h'.adv
    obtain ⟨t2, ht2⟩ : ∃ t, t = rnext (p1l, p1b) := ⟨_, rfl⟩
    rw [← ht2] at hrn1 hok1 hadv hR
    clear ht2
    obtain ⟨ok, ot⟩ := t2
    unfold vTk at hrn1
    simp only at hrn1 hok1 hadv hR
    have hrb := fun w' (h' : RW N w' g (p1l.drop 1, false)) => rargR_any g (p1l.drop 1, false) w' h'
    have hob : ∀ w', RW N w' g (p1l.drop 1, false) → OkA (rarg (p1l.drop 1, false)).1 := fun w' h' => rarg_ok h'
    have hcs2 : ((p1b = true ∨ ok ≠ 115 ∨ (ok = 115 ∧ opsL.contains ot = false)) ∧ R = (default, (p1l, true))) ∨ (p1b = false ∧ ok = 115 ∧ opsL.contains ot = true ∧ R = (⟨false, ot, ⟨[], [a1, (rarg (p1l.drop 1, false)).1]⟩⟩, (rarg (p1l.drop 1, false)).2)) := by
      cases p1b with
      | true => left; exact ⟨.inl rfl, by rw [hR, if_pos (by simp)]⟩
      | false =>
        by_cases hk : ok = 115
        · cases hc : opsL.contains ot with
          | false => left; exact ⟨.inr (.inr ⟨hk, rfl⟩), by rw [hR, if_pos (by simp only [hk, hc]; rfl)]⟩
          | true => right; exact ⟨rfl, hk, rfl, by rw [hR, if_neg (by simp only [hk, hc]; decide)]⟩
        · left; exact ⟨.inr (.inl hk), by rw [hR, if_pos (by simp [hk])]⟩
    generalize rarg (p1l.drop 1, false) = b1 at *
    obtain ⟨b1, p2⟩ := b1
    simp only at hrb hob hcs2
    have hcm := fun w => comparison_any ot w
    have HRA := Lib.hid hra; have HOA := Lib.hid hoa; have HRN1 := Lib.hid hrn1; have HOK1 := Lib.hid hok1; have HADV := Lib.hid hadv; have HRB := Lib.hid hrb; have HOB := Lib.hid hob; have HCS2 := Lib.hid hcs2; have HCM := Lib.hid hcm
    clear hra hoa hoa2 hrn1 hok1 hadv hrb hob hcs2 hcm hR hno HAT0
    rcases h2 with h2 | ⟨h2, h3⟩
    focus
      have kb : ((tk : Int) == 119) = false := by rw [beq_eq_false_iff_ne]; omega
      go_enter Tryz.func71, Tryz.ntmps71
      go_wp2_with fail
      refine HRI.out.mono ?_
      rintro e w1 ⟨rfl, hw1, hf1⟩
      have hr1 := HR0.out.call hw1 hf1
      have hsz1 := hf1.size
      rw [HSZ.out] at hsz1
      go_wp2_with fail
      refine (HRN.out _ hr1.pw).mono ?_
      rintro e w2 ⟨rfl, hb2⟩
      have hsz2 := hb2.size
      have hr2 := (hr1.below hb2).below (wy := w2.alloc (.cells #[.int .u8 tk, .string ⟨tt.toArray⟩] 114)) boxed
      have HR2' := Lib.hid hr2; clear hr1 hr2 hw1 hf1 hb2 HR0
      have hz2 : (w2.alloc (.cells #[.int .u8 tk, .string ⟨tt.toArray⟩] 114)).heap.size = w2.heap.size + 1 := by simp
      have HZ2 := Lib.hid hz2; clear hz2
      go_wp2_with fail
    rotate_left
    focus
      subst h2
      have hp2 := fun w => HPR.out w
      rw [h3] at hp2
      have HPR2 := Lib.hid hp2; clear hp2
      go_enter Tryz.func71, Tryz.ntmps71
      go_wp2_with fail
      refine HRI.out.mono ?_
      rintro e w1 ⟨rfl, hw1, hf1⟩
      have hr1 := HR0.out.call hw1 hf1
      have hsz1 := hf1.size
      rw [HSZ.out] at hsz1
      go_wp2_with fail
      refine (HRN.out _ hr1.pw).mono ?_
      rintro e w2 ⟨rfl, hb2⟩
      have hsz2 := hb2.size
      have hr2 := (hr1.below hb2).below (wy := w2.alloc (.cells #[.int .u8 119, .string ⟨tt.toArray⟩] 114)) boxed
      have HR2' := Lib.hid hr2; clear hr1 hr2 hw1 hf1 hb2 HR0
      have hz2 : (w2.alloc (.cells #[.int .u8 119, .string ⟨tt.toArray⟩] 114)).heap.size = w2.heap.size + 1 := by simp
      have HZ2 := Lib.hid hz2; clear hz2
      go_wp2_with fail
      refine (HPR2.out _).mono ?_
      rintro e w' ⟨rfl, rfl⟩
      go_wp2_with fail
    all_goals
      refine (HRA.out _ HR2'.out.pw).mono ?_
      rintro e w3 ⟨rfl, hw3, hf3⟩
      have hr3 := HR2'.out.call hw3 hf3
      have hsz3 := hf3.size
      rw [HZ2.out] at hsz3
      unfold vArg
      have hoka := HOA.out _ HR2'.out.pw
      have HOKA := Lib.hid hoka; clear hoka
      go_wp2_with fail
      have hr4 := hr3.below (wy := w3.alloc (.cells (argC a1) 46)) boxed
      have hB4 : (w3.alloc (.cells (argC a1) 46)).heap[w3.heap.size]? = some (.cells (argC a1) 46 (0, 0)) := blkAt w3 _ rfl
      refine (HRN1.out _ hr4.pw).mono ?_
      rintro e w4 ⟨rfl, hb5⟩
      have hsz5 := hb5.size
      simp only [World.size_alloc] at hsz5
      have hB5 := keptBlk hb5 hB4
      have hr5 := hr4.below hb5
      have hok1 := HOK1.out _ hr4.pw
      have HOKT := Lib.hid hok1; clear hok1
      have HR5 := Lib.hid hr5; have HB5 := Lib.hid hB5
      clear hr3 hr4 hr5 hB4 hB5 hb5 hw3 hf3 HR2' HRA
      generalize hb4e : w3.heap.size = b4 at *
      obtain ⟨c2, z2⟩ := HR5.out.pw.c2
      simp only at c2
      have hB := HR5.out.res
      have r0 := (cell_blk hB 0).trans rfl; have r1 := (cell_blk hB 1).trans rfl; have r2 := (cell_blk hB 2).trans rfl; have r3 := (cell_blk hB 3).trans rfl
      have y0 := frz_blk hB 0; have y1 := frz_blk hB 1; have y2 := frz_blk hB 2; have y3 := frz_blk hB 3
      have HB := Lib.hid hB; clear hB
      have hgb : g ≠ w.heap.size := by omega
      have hgb4 : g ≠ b4 := by omega
      have hgw4 : g ≠ w4.heap.size := by omega
      have hbw4 : w.heap.size ≠ w4.heap.size := by omega
      have hg4 : g < w4.heap.size := by omega
      have hw4l : w.heap.size < w4.heap.size := by omega
      rcases HCS2.out with ⟨hbad, hR⟩ | ⟨hp1, hk, hcn, hR⟩
      · have HR := Lib.hid hR; clear hR HCS2
        have hfin : ∀ (X : World), X = (((((w4.setCell ⟨g, 2, none⟩ (.bool true)).setCell ⟨w.heap.size, 0, none⟩ (.bool false)).setCell ⟨w.heap.size, 1, none⟩ (.string ⟨#[]⟩)).setCell ⟨w.heap.size, 2, none⟩ (.string ⟨#[]⟩)).setCell ⟨w.heap.size, 3, none⟩ (.slice none 0 0)).alloc (.cells #[.int .u8 ok, .string ⟨ot.toArray⟩] 114) →
            X.heap[w.heap.size]? = some (.cells #[.bool false, .string ⟨#[]⟩, .string ⟨#[]⟩, .slice none 0 0] 60 (0, 0)) ∧ VRPost N w g R (.returned (.agg #[.bool false, .string ⟨#[]⟩, .string ⟨#[]⟩, .slice none 0 0])) X := by
          rintro X rfl
          have hr6 := HR5.out.bad true
          have hpf := ((((hr6.pf.set (Nat.le_refl _) 0 (.bool false)).set (Nat.le_refl _) 1 (.string ⟨#[]⟩)).set (Nat.le_refl _) 2 (.string ⟨#[]⟩)).set (Nat.le_refl _) 3 (.slice none 0 0))
          refine ⟨blkOld (set4 hr6.res (.bool false) (.string ⟨#[]⟩) (.string ⟨#[]⟩) (.slice none 0 0)) _, ?_⟩
          unfold VRPost
          rw [HR.out]
          exact ⟨⟨none, 0, 0, rfl, Sl.nil _ _ _ _ (by decide)⟩, hpf.pw.alloc _, hpf.frm.alloc _, okL_default⟩
        have HFIN := Lib.hid hfin; clear hfin
        have hend : ∀ (X : World), X = (((((w4.setCell ⟨g, 2, none⟩ (.bool true)).setCell ⟨w.heap.size, 0, none⟩ (.bool false)).setCell ⟨w.heap.size, 1, none⟩ (.string ⟨#[]⟩)).setCell ⟨w.heap.size, 2, none⟩ (.string ⟨#[]⟩)).setCell ⟨w.heap.size, 3, none⟩ (.slice none 0 0)).alloc (.cells #[.int .u8 ok, .string ⟨ot.toArray⟩] 114) → X.cell? ⟨w.heap.size, 0, none⟩ = some (.bool false) ∧ X.cell? ⟨w.heap.size, 1, none⟩ = some (.string ⟨#[]⟩) ∧ X.cell? ⟨w.heap.size, 2, none⟩ = some (.string ⟨#[]⟩) ∧ X.cell? ⟨w.heap.size, 3, none⟩ = some (.slice none 0 0) := fun X hX => ⟨(cell_blk (HFIN.out X hX).1 0).trans rfl, (cell_blk (HFIN.out X hX).1 1).trans rfl, (cell_blk (HFIN.out X hX).1 2).trans rfl, (cell_blk (HFIN.out X hX).1 3).trans rfl⟩
        have HEND := Lib.hid hend; clear hend
        rcases hbad with hbad | hbad | ⟨hk, hcn⟩
        · subst hbad
          go_wp2_with fail
          obtain ⟨q0, q1, q2, q3⟩ := HEND.out _ rfl
          exact bodyPost_ret (v := .agg #[.bool false, .string ⟨#[]⟩, .string ⟨#[]⟩, .slice none 0 0]) (by simp [results, Tryz.results71, go_sem, q0, q1, q2, q3]) rfl (HFIN.out _ rfl).2
        · have kb2 : ((ok : Int) == 115) = false := by rw [beq_eq_false_iff_ne]; omega
          cases p1b
          all_goals go_wp2_with fail
          all_goals obtain ⟨q0, q1, q2, q3⟩ := HEND.out _ rfl
          all_goals exact bodyPost_ret (v := .agg #[.bool false, .string ⟨#[]⟩, .string ⟨#[]⟩, .slice none 0 0]) (by simp [results, Tryz.results71, go_sem, q0, q1, q2, q3]) rfl (HFIN.out _ rfl).2
        · subst hk
          have hc2 := fun w => HCM.out w
          rw [hcn] at hc2
          have HCM2 := Lib.hid hc2; clear hc2
          cases p1b
          · go_wp2_with fail
            refine (HCM2.out _).mono ?_
            rintro e w' ⟨rfl, rfl⟩
            go_wp2_with fail
            have hq := HEND.out _ rfl
            simp only [Int.cast_ofNat_Int] at hq
            obtain ⟨q0, q1, q2, q3⟩ := hq
            exact bodyPost_ret (v := .agg #[.bool false, .string ⟨#[]⟩, .string ⟨#[]⟩, .slice none 0 0]) (by simp [results, Tryz.results71, go_sem, q0, q1, q2, q3]) rfl (HFIN.out _ rfl).2
          · go_wp2_with fail
            have hq := HEND.out _ rfl
            simp only [Int.cast_ofNat_Int] at hq
            obtain ⟨q0, q1, q2, q3⟩ := hq
            exact bodyPost_ret (v := .agg #[.bool false, .string ⟨#[]⟩, .string ⟨#[]⟩, .slice none 0 0]) (by simp [results, Tryz.results71, go_sem, q0, q1, q2, q3]) rfl (HFIN.out _ rfl).2
      · subst hp1 hk
        have hc2 := fun w => HCM.out w
        rw [hcn] at hc2
        have HCM2 := Lib.hid hc2
        have HR := Lib.hid hR; clear hR HCS2 hc2
        obtain ⟨pos, a1', a2', a3', a4'⟩ := HADV.out _ HR5.out.pw (by omega)
        have hqw : IntKind.i64.wrap ((pos : Int) + 1) = (pos : Int) + 1 := by simp [IntKind.wrap, IntKind.signed, IntKind.bits]; omega
        have hr6 : RTR N w ((w4.setCell ⟨g, 1, none⟩ (.int .i64 ((pos : Int) + 1))).alloc (.cells #[.int .u8 115, .string ⟨ot.toArray⟩] 114)) g w.heap.size #[.bool false, .string ⟨#[]⟩, .string ⟨#[]⟩, .slice none 0 0] 60 (p1l.drop 1, false) :=
          (HR5.out.call a4' ((Frm.refl (MG g) w4).setCell (p := ⟨g, 1, none⟩) (fun _ => rfl) _)).below boxed
        have hT6 : ((w4.setCell ⟨g, 1, none⟩ (.int .i64 ((pos : Int) + 1))).alloc (.cells #[.int .u8 115, .string ⟨ot.toArray⟩] 114)).heap[w4.heap.size]? = some (.cells #[.int .u8 115, .string ⟨ot.toArray⟩] 114 (0, 0)) := blkAt _ _ (by simp [World.setCell])
        have hB6 : ((w4.setCell ⟨g, 1, none⟩ (.int .i64 ((pos : Int) + 1))).alloc (.cells #[.int .u8 115, .string ⟨ot.toArray⟩] 114)).heap[b4]? = some (.cells (argC a1) 46 (0, 0)) := blkOld ((set_other _ _ _ _ _ (Ne.symm hgb4)).trans HB5.out) _
        have HR6 := Lib.hid hr6; have HT6 := Lib.hid hT6; have HB6 := Lib.hid hB6
        clear a4' hr6 hT6 hB6
        go_wp2_with fail
        refine (HCM2.out _).mono ?_
        rintro e w' ⟨rfl, rfl⟩
        go_wp2_with fail
        have hg6 : g < w4.heap.size := by omega
        generalize hb5e : w4.heap.size = b5 at *
        generalize (w4.setCell ⟨g, 1, none⟩ (.int .i64 ((pos : Int) + 1))).alloc (.cells #[.int .u8 115, .string ⟨ot.toArray⟩] 114) = W6 at *
        have hrow : ∀ (W : World) (k : Nat), W.heap[k]? = some (.cells #[.int .i64 a1.kind, .string ⟨a1.text.toArray⟩, .int .i64 a1.num, .int .i64 b1.kind, .string ⟨b1.text.toArray⟩, .int .i64 b1.num] 46 (0, 0)) → w.heap.size < k → Sl W (fun b => w.heap.size < b) (some ⟨k, 0, none⟩) 2 2 [a1, b1] := fun W k hb hk => by
          refine ⟨rfl, Nat.le_refl _, by decide, fun i hi => ⟨_, rfl, hk, fun j => (#[Value.int .i64 a1.kind, .string ⟨a1.text.toArray⟩, .int .i64 a1.num, .int .i64 b1.kind, .string ⟨b1.text.toArray⟩, .int .i64 b1.num] : Array Value).getD (i * 3 + j) undef, fun j hj => ?_, ?_⟩⟩
          · have hj : j < 3 := hj
            have hi : i < 2 := hi
            rw [add_plain, cell_blk hb]
            match i, j, hi, hj with
            | 0, 0, _, _ => rfl
            | 0, 1, _, _ => rfl
            | 0, 2, _, _ => rfl
            | 1, 0, _, _ => rfl
            | 1, 1, _, _ => rfl
            | 1, 2, _, _ => rfl
          · have hi : i < 2 := hi
            match i, hi with
            | 0, _ => exact ⟨rfl, rfl, rfl⟩
            | 1, _ => exact ⟨rfl, rfl, rfl⟩
        have HROW := Lib.hid hrow; clear hrow
        clear c2 z2 r0 r1 r2 r3 y0 y1 y2 y3 a1' a2'
        refine wpY_region (fun x => x.heap[b4]? = some (.cells (argC a1) 46 (0, 0)) ∧ x.heap[b5]? = some (.cells #[.int .u8 115, .string ⟨ot.toArray⟩] 114 (0, 0))) 8 (by kernel_rfl) ?_
        have hS : W6.drew.heap[b4]? = some (.cells (argC a1) 46 (0, 0)) ∧ W6.drew.heap[b5]? = some (.cells #[.int .u8 115, .string ⟨ot.toArray⟩] 114 (0, 0)) := ⟨HB6.out, HT6.out⟩
        have HX := Lib.hid (fun (x : World) (hx : x.heap[b4]? = some (.cells (argC a1) 46 (0, 0)) ∧ x.heap[b5]? = some (.cells #[.int .u8 115, .string ⟨ot.toArray⟩] 114 (0, 0))) => (⟨(cell_blk hx.1 0).trans rfl, (cell_blk hx.1 1).trans rfl, (cell_blk hx.1 2).trans rfl, (cell_blk hx.2 1).trans rfl⟩ : x.cell? ⟨b4, 0, none⟩ = some (.int .i64 a1.kind) ∧ x.cell? ⟨b4, 1, none⟩ = some (.string ⟨a1.text.toArray⟩) ∧ x.cell? ⟨b4, 2, none⟩ = some (.int .i64 a1.num) ∧ x.cell? ⟨b5, 1, none⟩ = some (.string ⟨ot.toArray⟩)))
        have hrd := HR6.out.below (wy := W6.drew) (Below.refl _ _).drew
        have HRD := Lib.hid hrd; clear hrd
        (refine wpAnyY_takeW 0 rfl rfl (by kernel_rfl) (by kernel_rfl) (by kernel_rfl) (by kernel_rfl) (fun _ _ _ h => h) (v := ?_) (by kernel_rfl) hS ?_ ?_; rotate_left; (focus (intro x hx; have fx := HX.out x hx; go_simp; (try with_reducible rfl); done)); (try simp only [Act.put, lsa, lsz, lss]))
        (refine wpAnyY_takeW 1 rfl rfl (by kernel_rfl) (by kernel_rfl) (by kernel_rfl) (by kernel_rfl) (fun _ _ _ h => h) (v := ?_) (by kernel_rfl) hS ?_ ?_; rotate_left; (focus (intro x hx; have fx := HX.out x hx; go_simp; (try with_reducible rfl); done)); (try simp only [Act.put, lsa, lsz, lss]))
        (refine wpAnyY_takeW 2 rfl rfl (by kernel_rfl) (by kernel_rfl) (by kernel_rfl) (by kernel_rfl) (fun _ _ _ h => h) (v := ?_) (by kernel_rfl) hS ?_ ?_; rotate_left; (focus (intro x hx; have fx := HX.out x hx; go_simp; (try with_reducible rfl); done)); (try simp only [Act.put, lsa, lsz, lss]))
        (refine wpAnyY_takeW 3 rfl rfl (by kernel_rfl) (by kernel_rfl) (by kernel_rfl) (by kernel_rfl) (fun _ _ _ h => h) (v := ?_) (by kernel_rfl) hS ?_ ?_; rotate_left; (focus (intro x hx; have fx := HX.out x hx; go_simp; (try with_reducible rfl); done)); (try simp only [Act.put, lsa, lsz, lss]))
        have hl4 := (Array.getElem?_eq_some_iff.1 hS.1).1
        have hl5 := (Array.getElem?_eq_some_iff.1 hS.2).1
        refine wpAnyY_one 4 (by kernel_rfl) rfl ?_
        intro K' hK'
        go_simp
        refine (HRB.out _ HRD.out.pw).mono ?_
        rintro e w7 ⟨rfl, hw7, hf7⟩
        have hS7 : w7.heap[b4]? = some (.cells (argC a1) 46 (0, 0)) ∧ w7.heap[b5]? = some (.cells #[.int .u8 115, .string ⟨ot.toArray⟩] 114 (0, 0)) := ⟨(hf7.block _ hl4 (fun e => by have : b4 = g := e; omega)).trans hS.1, (hf7.block _ hl5 (fun e => by have : b5 = g := e; omega)).trans hS.2⟩
        have hr7 := HRD.out.call hw7 hf7
        have hsz7 := hf7.size
        have HR7 := Lib.hid hr7
        clear hw7 hf7 hr7
        refine hK'.out _ _ (fun _ => hS7) ?_
        clear hK' K'
        unfold vArg
        refine wpAnyY_one 5 (by kernel_rfl) rfl ?_
        intro K' hK'
        go_simp
        have hS : (w7.alloc (.cells #[.int .i64 a1.kind, .string ⟨a1.text.toArray⟩, .int .i64 a1.num, .int .i64 b1.kind, .string ⟨b1.text.toArray⟩, .int .i64 b1.num] 46)).heap[b4]? = some (.cells (argC a1) 46 (0, 0)) ∧ (w7.alloc (.cells #[.int .i64 a1.kind, .string ⟨a1.text.toArray⟩, .int .i64 a1.num, .int .i64 b1.kind, .string ⟨b1.text.toArray⟩, .int .i64 b1.num] 46)).heap[b5]? = some (.cells #[.int .u8 115, .string ⟨ot.toArray⟩] 114 (0, 0)) := ⟨blkOld hS7.1 _, blkOld hS7.2 _⟩
        refine hK'.out _ _ (fun _ => hS) ?_
        clear hK' K'
        have hr8 := HR7.out.below (wy := w7.alloc (.cells #[.int .i64 a1.kind, .string ⟨a1.text.toArray⟩, .int .i64 a1.num, .int .i64 b1.kind, .string ⟨b1.text.toArray⟩, .int .i64 b1.num] 46)) boxed
        have hl7 := HR7.out.lt
        have hsl := HROW.out _ _ (blkAt w7 (.cells #[.int .i64 a1.kind, .string ⟨a1.text.toArray⟩, .int .i64 a1.num, .int .i64 b1.kind, .string ⟨b1.text.toArray⟩, .int .i64 b1.num] 46) rfl) hl7
        have HSL := Lib.hid hsl; have HR8 := Lib.hid hr8; clear hsl hr8
        generalize w7.alloc (.cells #[.int .i64 a1.kind, .string ⟨a1.text.toArray⟩, .int .i64 a1.num, .int .i64 b1.kind, .string ⟨b1.text.toArray⟩, .int .i64 b1.num] 46) = W8 at *
        (refine wpAnyY_takeW 6 rfl rfl (by kernel_rfl) (by kernel_rfl) (by kernel_rfl) (by kernel_rfl) (fun _ _ _ h => h) (v := ?_) (by kernel_rfl) hS ?_ ?_; rotate_left; (focus (intro x hx; have fx := HX.out x hx; go_simp; (try with_reducible rfl); done)); (try simp only [Act.put, lsa, lsz, lss]))
        (refine wpAnyY_takeW 7 rfl rfl (by kernel_rfl) (by kernel_rfl) (by kernel_rfl) (by kernel_rfl) (fun _ _ _ h => h) (v := ?_) (by kernel_rfl) hS ?_ ?_; rotate_left; (focus (intro x hx; have fx := HX.out x hx; go_simp; (try with_reducible rfl); done)); (try simp only [Act.put, lsa, lsz, lss]))
        have hB := HR8.out.res
        have r0 := (cell_blk hB 0).trans rfl; have r1 := (cell_blk hB 1).trans rfl; have r2 := (cell_blk hB 2).trans rfl; have r3 := (cell_blk hB 3).trans rfl
        have y0 := frz_blk hB 0; have y1 := frz_blk hB 1; have y2 := frz_blk hB 2; have y3 := frz_blk hB 3
        have HB := Lib.hid hB; clear hB
        (refine wpAnyY_one 8 (by kernel_rfl) rfl ?_; intro K' hK'; go_simp; refine hK'.out _ _ (fun h => absurd rfl h) ?_; clear hK' K'; refine wpAnyY_done (by kernel_rfl) ?_ _)
        have HOK : Hid (OkL ⟨false, ot, ⟨[], [a1, b1]⟩⟩) := Lib.hid ⟨by have := HOKT.out.2.1; simp only at this ⊢; omega, by simp, fun x hx => by
          rcases List.mem_cons.1 hx with rfl | hx
          · exact HOKA.out
          · rw [List.mem_singleton.1 hx]; exact HOB.out _ HR6.out.pw⟩
        have HPF := Lib.hid HR8.out.pf
        have hRF := set4 HB.out (.bool false) (.string ⟨ot.toArray⟩) (.string ⟨#[]⟩) (.slice (some ⟨w7.heap.size, 0, none⟩) 2 2)
        have q0 := (cell_blk hRF 0).trans rfl; have q1 := (cell_blk hRF 1).trans rfl; have q2 := (cell_blk hRF 2).trans rfl; have q3 := (cell_blk hRF 3).trans rfl
        go_wp2_with fail
        refine bodyPost_ret (v := .agg #[.bool false, .string ⟨ot.toArray⟩, .string ⟨#[]⟩, .slice (some ⟨w7.heap.size, 0, none⟩) 2 2]) (by simp [results, Tryz.results71, go_sem, q0, q1, q2, q3]) rfl ?_
        unfold VRPost
        rw [HR.out]
        have hpf := (((HPF.out.set (Nat.le_refl _) 0 (.bool false)).set (Nat.le_refl _) 1 (.string ⟨ot.toArray⟩)).set (Nat.le_refl _) 2 (.string ⟨#[]⟩)).set (Nat.le_refl _) 3 (.slice (some ⟨w7.heap.size, 0, none⟩) 2 2)
        exact ⟨⟨_, 2, 2, rfl, (HSL.out.keep (fun k _ hs => (set_other _ _ _ _ _ (by omega)).trans ((set_other _ _ _ _ _ (by omega)).trans ((set_other _ _ _ _ _ (by omega)).trans (set_other _ _ _ _ _ (by omega)))))).wide (fun k _ hs => by omega) (by decide)⟩, hpf.pw, hpf.frm, HOK.out⟩
end Go.Proofs.YtkjoaodoioicpaaGreatDoor
namespace Go.Proofs.YtkjoaodoioicpaaGreatDoor
open Go.RowKit
def ltlC (x : Ltl) (A : Option Addr) (n c : Nat) : Array Value := #[.bool x.neg, .string ⟨x.op.toArray⟩, .string ⟨x.atom.name.toArray⟩, .slice A n c]
end Go.Proofs.YtkjoaodoioicpaaGreatDoor
