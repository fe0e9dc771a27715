/- Expressions: the walk of the parser's single. -/
import Derived.Test.YtchdpjgncojhaaaE6
import Derived.Test.YtchdpjgncojhaaaTokP5
set_option linter.unusedVariables false
set_option linter.unusedSimpArgs false
namespace Go.Proofs.Ytchdpjgncojhaaa
open Go.RowKit

theorem whole_step (n0 g f : Nat) (ihB : WBin n0 g f) (st : PSt) (w : World) (r : Bool × PSt × Int) (h : pr f (.bin 1) st = some r) (hpw : PW w n0 g st) (hd : 0 ≤ st.depth) (hm : st.m ≤ 256) :
    Calls Try.prog 36 #[.pointer (some ⟨g, 0, none⟩)] w (PPost n0 g w (r.1, r.2.1)) := by
  have H := Lib.hid (ihB 1 1 st w r h rfl (by omega) (by omega) hpw hd hm)
  clear h hpw ihB
  go_enter Try.func36, Try.ntmps36
  go_wp2_with fail
  refine H.out.mono ?_
  rintro e w1 ⟨rfl, hw1, hf1⟩
  go_wp2
  go_ret
  exact ⟨rfl, hw1, hf1⟩
theorem factor_step (n0 g f : Nat) (ihB : WBin n0 g f) (st : PSt) (w : World) (r : Bool × PSt × Int) (h : pr f (.bin 11) st = some r) (hpw : PW w n0 g st) (hd : 0 ≤ st.depth) (hm : st.m ≤ 256) :
    Calls Try.prog 98 #[.pointer (some ⟨g, 0, none⟩)] w (PPost n0 g w (r.1, r.2.1)) := by
  have H := Lib.hid (ihB 11 11 st w r h rfl (by omega) (by omega) hpw hd hm)
  clear h hpw ihB
  go_enter Try.func98, Try.ntmps98
  go_wp2_with fail
  refine H.out.mono ?_
  rintro e w1 ⟨rfl, hw1, hf1⟩
  go_wp2
  go_ret
  exact ⟨rfl, hw1, hf1⟩
theorem nothing_step (n0 g : Nat) (st : PSt) (w : World) (hpw : PW w n0 g st) :
    Calls Try.prog 100 #[.pointer (some ⟨g, 0, none⟩)] w (PPost n0 g w (true, st)) := by
  go_enter Try.func100, Try.ntmps100
  go_wp2
  go_ret
  exact ⟨rfl, hpw, Frm.refl _ _⟩

set_option maxRecDepth 100000 in
set_option maxHeartbeats 2000000 in
theorem single_nil (n0 g : Nat) (st : PSt) (w : World) (hr : st.rest = []) (hpw : PW w n0 g st) :
    Calls Try.prog 76 #[.pointer (some ⟨g, 0, none⟩)] w (PPost n0 g w (pfail st 4)) := by
  have HPW := Lib.hid (hpw.below (boxed (cs := #[.pointer (some ⟨g, 0, none⟩)]) (t := 57)))
  have hgz := hpw.lt
  obtain ⟨hn0, hol, htl, A, n, c, Ao, co, hbk, hsl, hown⟩ := hpw
  have c0 := cell_blk hbk 0
  simp only [List.getElem?_toArray, List.getElem?_cons_zero] at c0
  have hn := hsl.len
  rw [hr] at hn
  subst hn
  simp only [List.length_nil] at c0
  clear hbk hsl hown htl hol hr
  go_enter Try.func76, Try.ntmps76
  go_wp2_with fail
  refine (fail_any n0 g st 4 _ HPW.out).mono ?_
  rintro e w1 ⟨rfl, hw1, hf1⟩
  go_wp2
  go_ret
  exact ⟨rfl, hw1, PM.trans (Frm.any boxed) hf1⟩

theorem adv_boxes {w : World} {g : Nat} {v : Value} {o1 o2 : Obj} : ((((w.setCell ⟨g, 0, none⟩ v).alloc o1).alloc o2).drew).heap[w.heap.size]? = some o1 ∧ ((((w.setCell ⟨g, 0, none⟩ v).alloc o1).alloc o2).drew).heap[w.heap.size + 1]? = some o2 :=
  ⟨blkOld (blkAt _ _ (by simp [World.setCell])) _, blkAt _ _ (by simp [World.setCell])⟩
theorem adv_pw {w : World} {n0 g : Nat} {st : PSt} {A : Option Addr} {c : Nat} {Ao : Option Addr} {co : Nat} {rr : List Tok} (hn0 : n0 ≤ g) (hol : st.out.length ≤ 100000) (htl : ∀ t ∈ st.rest, t.text.length ≤ 9223372036854775807)
    (hb : w.heap[g]? = some (.cells #[.slice A st.rest.length c, .int .i64 st.depth, .slice Ao st.out.length co, .int .i64 st.err] 59 (0, 0)))
    (hs : Sl w (fun b => b < n0) A st.rest.length c st.rest) (ho : Own w (fun _ => False) (g + 1) 50 Ao co st.out) (hrl : 1 ≤ st.rest.length) (ht : st.rest.tail = rr) (o1 o2 : Obj) :
    PW ((((w.setCell ⟨g, 0, none⟩ (.slice (tailA A c) (st.rest.length - 1) (c - 1))).alloc o1).alloc o2).drew) n0 g { st with rest := rr } ∧
      Frm (PM n0 g w) w ((((w.setCell ⟨g, 0, none⟩ (.slice (tailA A c) (st.rest.length - 1) (c - 1))).alloc o1).alloc o2).drew) := by
  have hr : rr.length = st.rest.length - 1 := by rw [← ht, List.length_tail]
  have h0 : PW (w.setCell ⟨g, 0, none⟩ (.slice (tailA A c) (st.rest.length - 1) (c - 1))) n0 g { st with rest := rr } :=
    PW.mk_ hn0 hol (fun t h => htl t (List.mem_of_mem_tail (ht ▸ h))) (by rw [Blk.set w hb 0]; rfl) (ht ▸ hs.tail_ hrl) ho (fun k _ hk => set_other _ _ _ _ _ hk)
  have hbl : Below (w.setCell ⟨g, 0, none⟩ (.slice (tailA A c) (st.rest.length - 1) (c - 1))).heap.size (w.setCell ⟨g, 0, none⟩ (.slice (tailA A c) (st.rest.length - 1) (c - 1))) ((((w.setCell ⟨g, 0, none⟩ (.slice (tailA A c) (st.rest.length - 1) (c - 1))).alloc o1).alloc o2).drew) :=
    (((Below.refl _ _).alloc (Nat.le_refl _) _).alloc (by simp) _).drew
  exact ⟨h0.below hbl, PM.trans ((Frm.refl _ _).setCell (fun _ => ⟨hn0, .inl rfl⟩) _) (Frm.any hbl)⟩

set_option maxRecDepth 100000 in
set_option maxHeartbeats 2000000 in
theorem single_num (n0 g : Nat) (st : PSt) (t : Tok) (rr : List Tok) (w : World) (hr : st.rest = t :: rr) (hpw : PW w n0 g st) (hm : st.m ≤ 256) (hk : t.kind = 2) :
    Calls Try.prog 76 #[.pointer (some ⟨g, 0, none⟩)] w (PPost n0 g w (pput { st with rest := rr } 1 [] (number t.text).1)) := by
  have hgz := hpw.lt
  obtain ⟨hn0, hol, htl, A, n, c, Ao, co, hbk, hsl, hown⟩ := hpw
  have c0 := cell_blk hbk 0
  have z0 := frz_blk hbk 0
  simp only [List.getElem?_toArray, List.getElem?_cons_zero] at c0
  have hn := hsl.len
  subst hn
  have hle := hsl.le
  have hcap := hsl.2.1
  have hcm := hsl.2.2.1
  obtain ⟨bb, oo, hA, hSb, hbs, h1, h2⟩ := hsl.tok (k := 0) (by rw [hr]; simp)
  simp only [hr, List.getElem_cons_zero, Nat.zero_mul, Nat.add_zero] at h1 h2
  subst hA
  have hrl : 1 ≤ st.rest.length := by rw [hr]; simp
  have htt : t.text.length ≤ 9223372036854775807 := htl t (by rw [hr]; simp)
  have hslr := fun wx => run_tail wx (some ⟨bb, oo, none⟩) st.rest.length c hrl hcap hcm
  have HBK := Lib.hid hbk; clear hbk
  have HSL := Lib.hid hsl; clear hsl
  have HOW := Lib.hid hown; clear hown
  have HTL := Lib.hid htl; clear htl
  have Hrr := Lib.hid hr; clear hr
  have hk' : (t.kind == 2) = true := by simpa using hk
  clear hk
  have hrn0 : (st.rest.length == 0) = false := by rw [beq_eq_false_iff_ne]; omega
  go_enter Try.func76, Try.ntmps76
  go_wp2_with (go_at_call 25; refine (unary_any t.text 0 _ (by omega) (by omega)).mono ?_; rintro e w' ⟨rfl, rfl⟩)
  go_region
  go_wp2_with fail
  have hadv := adv_pw (rr := rr) hn0 hol HTL.out HBK.out HSL.out HOW.out hrl (by rw [Hrr.out]; rfl) (.cells #[.pointer (some ⟨g, 0, none⟩)] 57) (.cells #[.int .i64 t.kind, .string ⟨t.text.toArray⟩] 54)
  have hbx := adv_boxes (w := w) (g := g) (v := .slice (tailA (some ⟨bb, oo, none⟩) c) (st.rest.length - 1) (c - 1)) (o1 := .cells #[.pointer (some ⟨g, 0, none⟩)] 57) (o2 := .cells #[.int .i64 t.kind, .string ⟨t.text.toArray⟩] 54)
  refine (number_any t.text _ htt).mono ?_
  rintro e w3 ⟨rfl, hb3⟩
  have hx1 := cell_blk (keptBlk hb3 hbx.1) 0
  simp only [List.getElem?_toArray, List.getElem?_cons_zero] at hx1
  go_wp2_with fail
  refine (put_any n0 g { st with rest := rr } 1 [] (number t.text).1 _ (hadv.1.below hb3) (by simp only [PSt.m] at hm; show st.out.length < 100000; omega)).mono ?_
  rintro e w4 ⟨rfl, hw4, hf4⟩
  go_wp2
  go_ret
  exact ⟨rfl, hw4, PM.trans (PM.trans hadv.2 (Frm.any hb3)) hf4⟩
end Go.Proofs.Ytchdpjgncojhaaa
