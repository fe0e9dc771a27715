/- Expressions: the walk of the parser's single: names and calls. -/
import Derived.Test.YtchdpjgncojhaaaE9
import Derived.Test.YtchdpjgncojhaaaE10
set_option linter.unusedVariables false
set_option linter.unusedSimpArgs false
namespace Go.Proofs.Ytchdpjgncojhaaa
open Go.RowKit

theorem adv_pw1 {w : World} {n0 g : Nat} {st : PSt} {A : Option Addr} {c : Nat} {Ao : Option Addr} {co : Nat} {rr : List Tok} (hn0 : n0 ≤ g) (hol : st.out.length ≤ 100000) (htl : ∀ t ∈ st.rest, t.text.length ≤ 9223372036854775807)
    (hb : w.heap[g]? = some (.cells #[.slice A st.rest.length c, .int .i64 st.depth, .slice Ao st.out.length co, .int .i64 st.err] 59 (0, 0)))
    (hs : Sl w (fun b => b < n0) A st.rest.length c st.rest) (ho : Own w (fun _ => False) (g + 1) 50 Ao co st.out) (hrl : 1 ≤ st.rest.length) (ht : st.rest.tail = rr) :
    PW ((w.setCell ⟨g, 0, none⟩ (.slice (tailA A c) (st.rest.length - 1) (c - 1))).drew) n0 g { st with rest := rr } ∧
      Frm (PM n0 g w) w ((w.setCell ⟨g, 0, none⟩ (.slice (tailA A c) (st.rest.length - 1) (c - 1))).drew) := by
  have hr : rr.length = st.rest.length - 1 := by rw [← ht, List.length_tail]
  have h0 : PW (w.setCell ⟨g, 0, none⟩ (.slice (tailA A c) (st.rest.length - 1) (c - 1))) n0 g { st with rest := rr } :=
    PW.mk_ hn0 hol (fun t h => htl t (List.mem_of_mem_tail (ht ▸ h))) (by rw [Blk.set w hb 0]; rfl) (ht ▸ hs.tail_ hrl) ho (fun k _ hk => set_other _ _ _ _ _ hk)
  exact ⟨h0.below (Below.refl _ _).drew, ((Frm.refl _ _).setCell (fun _ => ⟨hn0, .inl rfl⟩) _).drew⟩

set_option maxRecDepth 100000 in
set_option maxHeartbeats 4000000 in
theorem single_bad (n0 g : Nat) (st : PSt) (t : Tok) (rr : List Tok) (w : World) (hr : st.rest = t :: rr) (hpw : PW w n0 g st) (hm : st.m ≤ 256) (hk2 : t.kind ≠ 2) (hk3 : t.kind ≠ 3) (hl1 : t.text ≠ [108, 111, 97, 100]) (hl2 : t.text ≠ [105, 110]) (hnm : nameT t.text = false) :
    Calls Try.prog 76 #[.pointer (some ⟨g, 0, none⟩)] w (PPost n0 g w (pfail st 4)) := by
  have hgz := hpw.lt
  have HPW := Lib.hid hpw
  obtain ⟨hn0, hol, htl, A, n, c, Ao, co, hbk, hsl, hown⟩ := hpw
  have c0 := cell_blk hbk 0
  have z0 := frz_blk hbk 0
  simp only [List.getElem?_toArray, List.getElem?_cons_zero] at c0
  have hn := hsl.len
  subst hn
  have hle := hsl.le
  have hcap := hsl.2.1
  have hcm := hsl.2.2.1
  obtain ⟨bb, oo, hA, hSb, hbs, h1, h2⟩ := hsl.tok (k := 0) (by rw [hr]; simp)
  simp only [hr, List.getElem_cons_zero, Nat.zero_mul, Nat.add_zero] at h1 h2
  subst hA
  have hrl : 1 ≤ st.rest.length := by rw [hr]; simp
  have htt : t.text.length ≤ 9223372036854775807 := htl t (by rw [hr]; simp)
  have hslr := fun wx => run_tail wx (some ⟨bb, oo, none⟩) st.rest.length c hrl hcap hcm
  have HBK := Lib.hid hbk; clear hbk
  have HSL := Lib.hid hsl; clear hsl
  have HOW := Lib.hid hown; clear hown
  have HTL := Lib.hid htl; clear htl
  have Hrr := Lib.hid hr; clear hr
  have hrn0 : (st.rest.length == 0) = false := by rw [beq_eq_false_iff_ne]; omega
  have hk2' : (t.kind == 2) = false := by simpa using hk2
  have hk3' : (t.kind == 3) = false := by simpa using hk3
  clear hk2 hk3
  have hteq : (t.text == [108, 111, 97, 100]) = false := by simpa using hl1
  have hteq2 : (t.text == [105, 110]) = false := by simpa using hl2
  clear hl1 hl2
  have hname := fun w => name_any t.text w htt
  rw [hnm] at hname
  have Hname := Lib.hid hname; clear hname hnm
  go_enter Try.func76, Try.ntmps76
  go_wp2_with (go_at_call 25; refine (unary_any t.text 0 _ (by omega) (by omega)).mono ?_; rintro e w' ⟨rfl, rfl⟩)
  have hpw0 : PW ((w.alloc (.cells #[.pointer (some ⟨g, 0, none⟩)] 57)).alloc (.cells #[.int .i64 t.kind, .string ⟨t.text.toArray⟩] 54)) n0 g st := HPW.out.below (boxed.alloc (by simp) _)
  refine (Hname.out _).mono ?_
  rintro e w1 ⟨rfl, hb1⟩
  have hx1 := cell_blk (keptBlk hb1 (blkOld (heap_alloc_new w _) _)) 0
  simp only [List.getElem?_toArray, List.getElem?_cons_zero] at hx1
  go_wp2_with fail
  refine (fail_any n0 g st 4 _ (hpw0.below hb1)).mono ?_
  rintro e w2 ⟨rfl, hw2, hf2⟩
  go_wp2
  go_ret
  exact ⟨rfl, hw2, PM.trans (Frm.any (next (boxed.alloc (by simp) _) hb1 (Nat.le_refl _))) hf2⟩

set_option maxRecDepth 100000 in
set_option maxHeartbeats 4000000 in
theorem single_name (n0 g : Nat) (st : PSt) (t : Tok) (rr : List Tok) (w : World) (hr : st.rest = t :: rr) (hpw : PW w n0 g st) (hm : st.m ≤ 256) (hk2 : t.kind ≠ 2) (hk3 : t.kind ≠ 3) (hl1 : t.text ≠ [108, 111, 97, 100]) (hl2 : t.text ≠ [105, 110]) (hnm : nameT t.text = true) (hnx : pnext { st with rest := rr } [40] = false) :
    Calls Try.prog 76 #[.pointer (some ⟨g, 0, none⟩)] w (PPost n0 g w (pput { st with rest := rr } 2 t.text 0)) := by
  have hgz := hpw.lt
  have HPW := Lib.hid hpw
  obtain ⟨hn0, hol, htl, A, n, c, Ao, co, hbk, hsl, hown⟩ := hpw
  have c0 := cell_blk hbk 0
  have z0 := frz_blk hbk 0
  simp only [List.getElem?_toArray, List.getElem?_cons_zero] at c0
  have hn := hsl.len
  subst hn
  have hle := hsl.le
  have hcap := hsl.2.1
  have hcm := hsl.2.2.1
  obtain ⟨bb, oo, hA, hSb, hbs, h1, h2⟩ := hsl.tok (k := 0) (by rw [hr]; simp)
  simp only [hr, List.getElem_cons_zero, Nat.zero_mul, Nat.add_zero] at h1 h2
  subst hA
  have hrl : 1 ≤ st.rest.length := by rw [hr]; simp
  have htt : t.text.length ≤ 9223372036854775807 := htl t (by rw [hr]; simp)
  have hslr := fun wx => run_tail wx (some ⟨bb, oo, none⟩) st.rest.length c hrl hcap hcm
  have HBK := Lib.hid hbk; clear hbk
  have HSL := Lib.hid hsl; clear hsl
  have HOW := Lib.hid hown; clear hown
  have HTL := Lib.hid htl; clear htl
  have Hrr := Lib.hid hr; clear hr
  have hrn0 : (st.rest.length == 0) = false := by rw [beq_eq_false_iff_ne]; omega
  have hk2' : (t.kind == 2) = false := by simpa using hk2
  have hk3' : (t.kind == 3) = false := by simpa using hk3
  clear hk2 hk3
  have hteq : (t.text == [108, 111, 97, 100]) = false := by simpa using hl1
  have hteq2 : (t.text == [105, 110]) = false := by simpa using hl2
  clear hl1 hl2
  have hname := fun w => name_any t.text w htt
  rw [hnm] at hname
  have Hname := Lib.hid hname; clear hname hnm
  have Hnx := Lib.hid hnx; clear hnx
  have hm2 := adv_m Hrr.out hm
  go_enter Try.func76, Try.ntmps76
  go_wp2_with (go_at_call 25; refine (unary_any t.text 0 _ (by omega) (by omega)).mono ?_; rintro e w' ⟨rfl, rfl⟩)
  have hbel : Below w.heap.size w ((w.alloc (.cells #[.pointer (some ⟨g, 0, none⟩)] 57)).alloc (.cells #[.int .i64 t.kind, .string ⟨t.text.toArray⟩] 54)) := boxed.alloc (by simp) _
  refine (Hname.out _).mono ?_
  rintro e w1 ⟨rfl, hb1⟩
  have hbw : Below w.heap.size w w1 := next hbel hb1 (Nat.le_refl _)
  have hB1 := keptBlk hb1 (blkOld (heap_alloc_new w _) _)
  have hB2 := keptBlk hb1 (blkAt _ _ (k := w.heap.size + 1) (by simp))
  have hx1 := cell_blk hB1 0
  have hx0 := cell_blk (keptBlk hbw HBK.out) 0
  have hz0 := frz_blk (keptBlk hbw HBK.out) 0
  simp only [List.getElem?_toArray, List.getElem?_cons_zero] at hx1 hx0
  have hadv := adv_pw1 (rr := rr) hn0 hol HTL.out (keptBlk hbw HBK.out) (HSL.out.below hbw) (HOW.out.below hbw) hrl (by rw [Hrr.out]; rfl)
  have HA := Lib.hid hadv; clear hadv
  have HB1 := Lib.hid hB1; clear hB1
  have HB2 := Lib.hid hB2; clear hB2
  go_wp2_with fail
  go_region
  go_wp2_with fail
  refine (next_is n0 g _ [40] _ HA.out.1).mono ?_
  rw [Hnx.out]
  rintro e w' ⟨rfl, rfl⟩
  have hy1 := cell_blk (HA.out.2.blk HB1.out (by decide) (by omega)) 0
  have hy2 := cell_blk (HA.out.2.blk HB2.out (by decide) (by omega)) 1
  simp only [List.getElem?_toArray, List.getElem?_cons_succ, List.getElem?_cons_zero] at hy1 hy2
  go_wp2_with fail
  refine (put_any n0 g { st with rest := rr } 2 t.text 0 _ HA.out.1 (by simp only [PSt.m] at hm2; show st.out.length < 100000; omega)).mono ?_
  rintro e w4 ⟨rfl, hw4, hf4⟩
  simp only [pput]
  go_wp2
  go_ret
  exact ⟨rfl, hw4, PM.trans (PM.trans (Frm.any hbw) HA.out.2) hf4⟩
end Go.Proofs.Ytchdpjgncojhaaa
