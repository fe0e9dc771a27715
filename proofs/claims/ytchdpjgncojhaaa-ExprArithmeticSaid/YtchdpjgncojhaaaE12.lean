/- Expressions: the walk of the parser's single: calls; all of the parser; Parse. -/
import Derived.Test.YtchdpjgncojhaaaE11
set_option linter.unusedVariables false
set_option linter.unusedSimpArgs false
namespace Go.Proofs.Ytchdpjgncojhaaa
open Go.RowKit

theorem PM.transX {X : Nat → Prop} {n0 g : Nat} {a b c : World} (h : Frm (PM n0 g a) a b) (k : Frm (PMX X n0 g b) b c) (hX : ∀ i, i < a.heap.size → ¬ X i) : Frm (PM n0 g a) a c :=
  h.transM k fun i hi hm => by
    refine Classical.byContradiction fun hn => ?_
    rcases hm with ⟨h0, hm⟩ | hm
    · rcases hm with rfl | ⟨cs, fz, hm⟩
      · exact hn ⟨h0, .inl rfl⟩
      · exact hn ⟨h0, .inr ⟨cs, fz, by rw [← h.block i hi hn, hm]⟩⟩
    · exact hX i hi hm

theorem pparens_n {part : PSt → PRes} {st : PSt} {r x : Bool × PSt × Int} (h : pparens part st = some r) (hx : part { st with depth := st.depth + 1, rest := st.rest.tail } = some x) (hn : pnext st [40] = true) (hd : st.depth ≤ 24) : r.2.2 = x.2.2 := by
  unfold pparens pwithin at h
  rw [hn, if_pos rfl, if_neg (by omega)] at h
  unfold pdown pclose at h
  simp only [hx, Option.map_some, Option.some.injEq] at h
  subst h
  obtain ⟨b, s, n⟩ := x
  cases b <;> rfl

theorem drew_both {B : Nat} {a b : World} (h : Below B a b) : Below B a.drew b.drew := ⟨h.os, h.tape, h.output, h.size, h.block⟩

theorem drew_alloc (w : World) (o : Obj) : Below w.drew.heap.size w.drew (w.alloc o).drew := drew_both (B := w.heap.size) ((Below.refl w.heap.size w).alloc (Nat.le_refl _) o)

theorem single1_any (n0 g f : Nat) (ihA : WArgs n0 g f) (st : PSt) (w : World) (r : Bool × PSt × Int) (nb bp : Nat) (h : pr f (.args 0) st = some r) (hpw : PW w n0 g st) (hnb : NB nb 0 w) (hng : nb ≠ g) (hgn : g < nb) (hd : 0 ≤ st.depth) (hm : st.m ≤ 256)
    (hbp : w.heap[bp]? = some (.cells #[.pointer (some ⟨g, 0, none⟩)] 57 (0, 0))) :
    Calls Try.prog 102 #[.pointer (some ⟨bp, 0, none⟩), .pointer (some ⟨nb, 0, none⟩)] w (PPostX (fun b => b = nb) (NB nb r.2.2) n0 g w r.1 r.2.1) := by
  have H := Lib.hid (ihA st w r nb h hpw hnb hng hgn hd hm)
  have c0 := cell_blk hbp 0
  simp only [List.getElem?_toArray, List.getElem?_cons_zero] at c0
  clear h hpw ihA hnb hbp
  go_enter Try.func102, Try.ntmps102
  go_wp2_with fail
  refine H.out.mono ?_
  rintro e w1 ⟨rfl, hw1, hf1⟩
  go_wp2
  go_ret
  exact ⟨rfl, hw1, hf1⟩

set_option maxRecDepth 100000 in
set_option maxHeartbeats 4000000 in
theorem single_call (n0 g : Nat) (st : PSt) (t : Tok) (rr : List Tok) (w : World) (hr : st.rest = t :: rr) (hpw : PW w n0 g st) (hm : st.m ≤ 256) (f : Nat) (ihA : WArgs n0 g f) (r : Bool × PSt × Int) (hd : 0 ≤ st.depth) (hk2 : t.kind ≠ 2) (hk3 : t.kind ≠ 3) (hl1 : t.text ≠ [108, 111, 97, 100]) (hl2 : t.text ≠ [105, 110]) (hnm : nameT t.text = true) (hnx : pnext { st with rest := rr } [40] = true)
    (hp : pthen (pparens (pr f (.args 0)) { st with rest := rr }) 3 t.text = some r) :
    Calls Try.prog 76 #[.pointer (some ⟨g, 0, none⟩)] w (PPost n0 g w (r.1, r.2.1)) := by
  have hgz := hpw.lt
  have HPW := Lib.hid hpw
  obtain ⟨hn0, hol, htl, A, n, c, Ao, co, hbk, hsl, hown⟩ := hpw
  have c0 := cell_blk hbk 0
  have z0 := frz_blk hbk 0
  simp only [List.getElem?_toArray, List.getElem?_cons_zero] at c0
  have hn := hsl.len
  subst hn
  have hle := hsl.le
  have hcap := hsl.2.1
  have hcm := hsl.2.2.1
  obtain ⟨bb, oo, hA, hSb, hbs, h1, h2⟩ := hsl.tok (k := 0) (by rw [hr]; simp)
  simp only [hr, List.getElem_cons_zero, Nat.zero_mul, Nat.add_zero] at h1 h2
  subst hA
  have hrl : 1 ≤ st.rest.length := by rw [hr]; simp
  have htt : t.text.length ≤ 9223372036854775807 := htl t (by rw [hr]; simp)
  have hslr := fun wx => run_tail wx (some ⟨bb, oo, none⟩) st.rest.length c hrl hcap hcm
  have HBK := Lib.hid hbk; clear hbk
  have HSL := Lib.hid hsl; clear hsl
  have HOW := Lib.hid hown; clear hown
  have HTL := Lib.hid htl; clear htl
  have Hrr := Lib.hid hr; clear hr
  have hrn0 : (st.rest.length == 0) = false := by rw [beq_eq_false_iff_ne]; omega
  have hk2' : (t.kind == 2) = false := by simpa using hk2
  have hk3' : (t.kind == 3) = false := by simpa using hk3
  clear hk2 hk3
  have hteq : (t.text == [108, 111, 97, 100]) = false := by simpa using hl1
  have hteq2 : (t.text == [105, 110]) = false := by simpa using hl2
  clear hl1 hl2
  have hname := fun w => name_any t.text w htt
  rw [hnm] at hname
  have Hname := Lib.hid hname; clear hname hnm
  have Hnx := Lib.hid hnx; clear hnx
  have hm2 := adv_m Hrr.out hm
  obtain ⟨q, hq, hrq⟩ := pthen_some hp
  have hqi := pparens_inv (pr_inv f (.args 0)) hq
  clear hp
  have Hrq := Lib.hid hrq; clear hrq
  have Hq := Lib.hid hq; clear hq
  have Hqi := Lib.hid hqi; clear hqi
  have HIA := Lib.hid ihA; clear ihA
  go_enter Try.func76, Try.ntmps76
  go_wp2_with (go_at_call 25; refine (unary_any t.text 0 _ (by omega) (by omega)).mono ?_; rintro e w' ⟨rfl, rfl⟩)
  have hbel : Below w.heap.size w ((w.alloc (.cells #[.pointer (some ⟨g, 0, none⟩)] 57)).alloc (.cells #[.int .i64 t.kind, .string ⟨t.text.toArray⟩] 54)) := boxed.alloc (by simp) _
  refine (Hname.out _).mono ?_
  rintro e w1 ⟨rfl, hb1⟩
  have hbw : Below w.heap.size w w1 := next hbel hb1 (Nat.le_refl _)
  have hsz : w.heap.size + 2 ≤ w1.heap.size := by have := hb1.size; simp at this; omega
  have hB1 := keptBlk hb1 (blkOld (heap_alloc_new w _) _)
  have hB2 := keptBlk hb1 (blkAt _ _ (k := w.heap.size + 1) (by simp))
  have hx1 := cell_blk hB1 0
  have hx0 := cell_blk (keptBlk hbw HBK.out) 0
  have hz0 := frz_blk (keptBlk hbw HBK.out) 0
  simp only [List.getElem?_toArray, List.getElem?_cons_zero] at hx1 hx0
  have hadv := adv_pw1 (rr := rr) hn0 hol HTL.out (keptBlk hbw HBK.out) (HSL.out.below hbw) (HOW.out.below hbw) hrl (by rw [Hrr.out]; rfl)
  have HA := Lib.hid hadv; clear hadv
  have HB1 := Lib.hid hB1; clear hB1
  have HB2 := Lib.hid hB2; clear hB2
  go_wp2_with fail
  go_region
  go_wp2_with fail
  refine (next_is n0 g _ [40] _ HA.out.1).mono ?_
  rw [Hnx.out]
  rintro e w' ⟨rfl, rfl⟩
  have hC1 := HA.out.2.blk HB1.out (by decide) (by omega)
  have hC2 := HA.out.2.blk HB2.out (by decide) (by omega)
  have hy1 := cell_blk hC1 0
  simp only [List.getElem?_toArray, List.getElem?_cons_zero] at hy1
  have HC1 := Lib.hid hC1; clear hC1
  have HC2 := Lib.hid hC2; clear hC2
  have hs2 : ((w1.setCell ⟨g, 0, none⟩ (.slice (tailA (some ⟨bb, oo, none⟩) c) (st.rest.length - 1) (c - 1))).drew).heap.size = w1.heap.size := by simp [World.setCell]
  have hlt1 : w.heap.size < w1.heap.size := by omega
  have hy2 : (w1.setCell ⟨g, 0, none⟩ (.slice (tailA (some ⟨bb, oo, none⟩) c) (st.rest.length - 1) (c - 1))).cell? ⟨w.heap.size, 0, none⟩ = some (.pointer (some ⟨g, 0, none⟩)) := hy1
  go_wp2_with fail
  have hpw3 : PW (((w1.setCell ⟨g, 0, none⟩ (.slice (tailA (some ⟨bb, oo, none⟩) c) (st.rest.length - 1) (c - 1))).alloc (.cells #[.int .u32 0] 37)).drew) n0 g { st with rest := rr } := HA.out.1.below (drew_alloc _ _)
  have hnb3 : NB w1.heap.size 0 (((w1.setCell ⟨g, 0, none⟩ (.slice (tailA (some ⟨bb, oo, none⟩) c) (st.rest.length - 1) (c - 1))).alloc (.cells #[.int .u32 0] 37)).drew) := blkAt _ _ (by simp [World.setCell])
  have hfr3 : Frm (PM n0 g w) w (((w1.setCell ⟨g, 0, none⟩ (.slice (tailA (some ⟨bb, oo, none⟩) c) (st.rest.length - 1) (c - 1))).alloc (.cells #[.int .u32 0] 37)).drew) := PM.trans (PM.trans (Frm.any hbw) HA.out.2) (Frm.any (drew_alloc _ _))
  have hD1 := blkOld (w := (w1.setCell ⟨g, 0, none⟩ (.slice (tailA (some ⟨bb, oo, none⟩) c) (st.rest.length - 1) (c - 1)))) HC1.out (.cells #[.int .u32 0] 37)
  have hD2 := blkOld (w := (w1.setCell ⟨g, 0, none⟩ (.slice (tailA (some ⟨bb, oo, none⟩) c) (st.rest.length - 1) (c - 1)))) HC2.out (.cells #[.int .u32 0] 37)
  refine (parens_all (fun b => b = w1.heap.size) (fun W => ∀ x, pr f (.args 0) { ({ st with rest := rr } : PSt) with depth := ({ st with rest := rr } : PSt).depth + 1, rest := ({ st with rest := rr } : PSt).rest.tail } = some x → NB w1.heap.size x.2.2 W) n0 g { st with rest := rr } 102 #[] #[.pointer (some ⟨w.heap.size, 0, none⟩), .pointer (some ⟨w1.heap.size, 0, none⟩)] (fun _ _ => by kernel_rfl)
    (fun w w' h hf x hx => NB.lasts (by omega) w w' (h x hx) hf) (pr f (.args 0)) (pr_good f _) q Hq.out _ hpw3 hd (fun k hk => by subst hk; simp [World.setCell]) (NB w1.heap.size 0) hnb3 (NB.lasts (by omega)) ?_).mono ?_
  · intro x hx w4 hw4 hnb4 hf4
    refine (single1_any n0 g f HIA.out _ w4 x w1.heap.size w.heap.size hx hw4 hnb4 (by omega) (by omega) (by simp only; omega) (by simp only [PSt.m, List.length_tail] at hm2 ⊢; omega) (hf4.blk hD1 (by decide) (by omega))).mono ?_
    rintro e w' ⟨he, hw, hf, hn⟩
    exact ⟨he, hw, hf, fun x' hx' => by rw [hx] at hx'; injection hx' with hx'; subst hx'; exact hn⟩
  · rintro e w5 ⟨rfl, hw5, hf5, hor⟩
    have hrq := Hrq.out
    have hone := Hqi.out.inv.m
    have hqn := fun x hx hn hd => pparens_n (r := q) (x := x) Hq.out hx hn hd
    obtain ⟨qb, qs, qn⟩ := q
    simp only at hrq hone hor hqn
    have hfin : Frm (PM n0 g w) w w5 := PM.transX hfr3 hf5 (fun i hi => by omega)
    cases qb
    · simp only [Bool.false_eq_true, if_false] at hrq
      go_wp2
      go_ret
      rw [hrq]
      exact ⟨rfl, hw5, hfin⟩
    · simp only [if_true] at hrq
      rcases hor with ⟨x, hx, hn, hdp, hR⟩ | hor
      · have hnb5 := hR x hx
        rw [← hqn x hx hn hdp] at hnb5
        have hy3 := cell_blk (hf5.blkX hD1 (by decide) (by omega) (by omega)) 0
        have hy4 := cell_blk (hf5.blkX hD2 (by decide) (by omega) (by omega)) 1
        have hy5 := cell_blk hnb5 0
        simp only [List.getElem?_toArray, List.getElem?_cons_succ, List.getElem?_cons_zero] at hy3 hy4 hy5
        have Hrq2 := Lib.hid hrq; clear hrq Hrq Hq Hqi hqn hR hx hn hnb5
        go_wp2_with fail
        refine (put_any n0 g qs 3 t.text qn _ hw5 (by simp only [PSt.m] at hm2 hone; omega)).mono ?_
        rintro e w6 ⟨rfl, hw6, hf6⟩
        simp only [pput]
        go_wp2
        go_ret
        rw [Hrq2.out]
        exact ⟨rfl, hw6, PM.trans hfin hf6⟩
      · cases hor

/-- The parser's methods do what the plain parser does. -/
theorem single_step (n0 g f : Nat) (ihB : WBin n0 g f) (ihA : WArgs n0 g f) : WSingle n0 g (f + 1) := by
  intro st w r h hpw hd hm
  rw [pr] at h
  cases hr : st.rest with
  | nil =>
    rw [hr] at h
    injection h with h
    subst h
    exact single_nil n0 g st w hr hpw
  | cons t rr =>
    rw [hr] at h
    simp only at h
    by_cases hk2 : t.kind = 2
    · rw [if_pos hk2] at h
      injection h with h
      subst h
      exact single_num n0 g st t rr w hr hpw hm hk2
    · rw [if_neg hk2] at h
      by_cases hk3 : t.kind = 3
      · rw [if_pos hk3] at h
        cases hu : isUn t.text
        · rw [hu] at h
          exact single_par n0 g st t rr w hr hpw hm f ihB r hd hk3 hu h
        · rw [hu] at h
          exact single_un n0 g st t rr w hr hpw hm f ihB r hd hk3 hu h
      · rw [if_neg hk3] at h
        by_cases hl1 : t.text = [108, 111, 97, 100]
        · rw [if_pos hl1] at h
          exact single_load n0 g st t rr w hr hpw hm f ihB r hd hk2 hk3 hl1 h
        · rw [if_neg hl1] at h
          by_cases hl2 : t.text = [105, 110]
          · rw [if_pos hl2] at h
            refine single_in n0 g st t rr w hr hpw hm f ?_ r hd hk2 hk3 hl2 h
            intro s x hx
            cases f with
            | zero => cases hx
            | succ f => rw [pr] at hx; injection hx with hx; exact hx.symm
          · rw [if_neg hl2] at h
            cases hn : nameT t.text
            · rw [hn] at h
              injection h with h
              subst h
              exact single_bad n0 g st t rr w hr hpw hm hk2 hk3 hl1 hl2 hn
            · rw [hn, if_pos rfl] at h
              cases hx : pnext { st with rest := rr } [40]
              · rw [hx] at h
                injection h with h
                subst h
                exact single_name n0 g st t rr w hr hpw hm hk2 hk3 hl1 hl2 hn hx
              · rw [hx, if_pos rfl] at h
                exact single_call n0 g st t rr w hr hpw hm f ihA r hd hk2 hk3 hl1 hl2 hn hx h

theorem parser_all (n0 g : Nat) : ∀ f, WBin n0 g f ∧ WSingle n0 g f ∧ WArgs n0 g f := by
  intro f
  induction f using Nat.strongRecOn with
  | _ f ih =>
    cases f with
    | zero => exact ⟨fun l li st w r h => (by cases h), fun st w r h => (by cases h), fun st w r nb h => (by cases h)⟩
    | succ f => exact ⟨bin_step n0 g f (fun f' h => (ih f' (by omega)).1) (ih f (by omega)).2.1, single_step n0 g f (ih f (by omega)).1 (ih f (by omega)).2.2, args_step n0 g f (fun f' h => (ih f' (by omega)).1)⟩
end Go.Proofs.Ytchdpjgncojhaaa
