/- Expressions: the walk of the parser's single: load, in. -/
import Derived.Test.YtchdpjgncojhaaaE8
set_option linter.unusedVariables false
set_option linter.unusedSimpArgs false
namespace Go.Proofs.Ytchdpjgncojhaaa
open Go.RowKit

theorem adv_m {st : PSt} {t : Tok} {rr : List Tok} (h : st.rest = t :: rr) (hm : st.m ≤ 256) : ({ st with rest := rr } : PSt).m + 1 ≤ 256 := by
  simp only [PSt.m, h, List.length_cons] at hm ⊢; omega

set_option maxRecDepth 100000 in
set_option maxHeartbeats 4000000 in
theorem single_load (n0 g : Nat) (st : PSt) (t : Tok) (rr : List Tok) (w : World) (hr : st.rest = t :: rr) (hpw : PW w n0 g st) (hm : st.m ≤ 256) (f : Nat) (ihB : WBin n0 g f) (r : Bool × PSt × Int) (hd : 0 ≤ st.depth) (hk2 : t.kind ≠ 2) (hk3 : t.kind ≠ 3) (hun : t.text = [108, 111, 97, 100]) (hp : pthen (pzero (pparens (pr f (.bin 1)) { st with rest := rr })) 4 [] = some r) :
    Calls Try.prog 76 #[.pointer (some ⟨g, 0, none⟩)] w (PPost n0 g w (r.1, r.2.1)) := by
  have hgz := hpw.lt
  have HPW := Lib.hid hpw
  obtain ⟨hn0, hol, htl, A, n, c, Ao, co, hbk, hsl, hown⟩ := hpw
  have c0 := cell_blk hbk 0
  have z0 := frz_blk hbk 0
  simp only [List.getElem?_toArray, List.getElem?_cons_zero] at c0
  have hn := hsl.len
  subst hn
  have hle := hsl.le
  have hcap := hsl.2.1
  have hcm := hsl.2.2.1
  obtain ⟨bb, oo, hA, hSb, hbs, h1, h2⟩ := hsl.tok (k := 0) (by rw [hr]; simp)
  simp only [hr, List.getElem_cons_zero, Nat.zero_mul, Nat.add_zero] at h1 h2
  subst hA
  have hrl : 1 ≤ st.rest.length := by rw [hr]; simp
  have htt : t.text.length ≤ 9223372036854775807 := htl t (by rw [hr]; simp)
  have hslr := fun wx => run_tail wx (some ⟨bb, oo, none⟩) st.rest.length c hrl hcap hcm
  have HBK := Lib.hid hbk; clear hbk
  have HSL := Lib.hid hsl; clear hsl
  have HOW := Lib.hid hown; clear hown
  have HTL := Lib.hid htl; clear htl
  have Hrr := Lib.hid hr; clear hr
  have hrn0 : (st.rest.length == 0) = false := by rw [beq_eq_false_iff_ne]; omega
  have hk2' : (t.kind == 2) = false := by simpa using hk2
  have hk3' : (t.kind == 3) = false := by simpa using hk3
  clear hk2 hk3
  have hadv := adv_pw (rr := rr) hn0 hol HTL.out HBK.out HSL.out HOW.out hrl (by rw [Hrr.out]; rfl) (.cells #[.pointer (some ⟨g, 0, none⟩)] 57) (.cells #[.int .i64 t.kind, .string ⟨t.text.toArray⟩] 54)
  have hbx := adv_boxes (w := w) (g := g) (v := .slice (tailA (some ⟨bb, oo, none⟩) c) (st.rest.length - 1) (c - 1)) (o1 := .cells #[.pointer (some ⟨g, 0, none⟩)] 57) (o2 := .cells #[.int .i64 t.kind, .string ⟨t.text.toArray⟩] 54)
  have hteq : (t.text == [108, 111, 97, 100]) = true := by rw [hun]; rfl
  clear hun
  obtain ⟨q0, hq0, hrq⟩ := pthen_some hp
  obtain ⟨q, hq, rfl⟩ := pzero_some hq0
  have hqi := pparens_inv (pr_inv f (.bin 1)) hq
  have hm2 : ({ st with rest := rr } : PSt).m + 1 ≤ 256 := adv_m Hrr.out hm
  clear hp hq0
  have Hrq := Lib.hid hrq; clear hrq
  have Hq := Lib.hid hq; clear hq
  have Hqi := Lib.hid hqi; clear hqi
  have HIB := Lib.hid ihB; clear ihB
  have HA := Lib.hid hadv; clear hadv
  have HX := Lib.hid hbx; clear hbx
  go_enter Try.func76, Try.ntmps76
  go_wp2_with (go_at_call 25; refine (unary_any t.text 0 _ (by omega) (by omega)).mono ?_; rintro e w' ⟨rfl, rfl⟩)
  go_region
  go_wp2_with fail
  refine (parens_plain n0 g { st with rest := rr } 36 #[.pointer (some ⟨g, 0, none⟩)] #[] (fun _ _ => by kernel_rfl) (pr f (.bin 1)) (pr_good f _) q Hq.out _ HA.out.1 hd ?_).mono ?_
  · intro x hx w1 hw1 hf1
    exact whole_step n0 g f HIB.out _ w1 x hx hw1 (by simp only; omega) (by simp only [PSt.m, List.length_tail] at hm2 ⊢; omega)
  · rintro e w3 ⟨rfl, hw3, hf3⟩
    have hrq := Hrq.out
    have hone := Hqi.out.inv.m
    obtain ⟨qb, qs, qn⟩ := q
    simp only at hrq hone
    cases qb
    · simp only [Bool.false_eq_true, if_false] at hrq
      go_wp2
      go_ret
      rw [hrq]
      exact ⟨rfl, hw3, PM.trans HA.out.2 hf3⟩
    · simp only [if_true] at hrq
      have hx1 := cell_blk (hf3.blk HX.out.1 (by decide) (by omega)) 0
      simp only [List.getElem?_toArray, List.getElem?_cons_zero] at hx1
      have Hrq2 := Lib.hid hrq; clear hrq Hrq Hq Hqi
      go_wp2_with fail
      refine (put_any n0 g qs 4 [] 0 _ hw3 (by simp only [PSt.m] at hm2 hone; omega)).mono ?_
      rintro e w4 ⟨rfl, hw4, hf4⟩
      simp only [pput]
      go_wp2
      go_ret
      rw [Hrq2.out]
      exact ⟨rfl, hw4, PM.trans (PM.trans HA.out.2 hf3) hf4⟩

set_option maxRecDepth 100000 in
set_option maxHeartbeats 4000000 in
theorem single_in (n0 g : Nat) (st : PSt) (t : Tok) (rr : List Tok) (w : World) (hr : st.rest = t :: rr) (hpw : PW w n0 g st) (hm : st.m ≤ 256) (f : Nat) (hf : ∀ s x, pr f .nothing s = some x → x = (true, s, 0)) (r : Bool × PSt × Int) (hd : 0 ≤ st.depth) (hk2 : t.kind ≠ 2) (hk3 : t.kind ≠ 3) (hun : t.text = [105, 110]) (hp : pthen (pzero (pparens (pr f .nothing) { st with rest := rr })) 5 [] = some r) :
    Calls Try.prog 76 #[.pointer (some ⟨g, 0, none⟩)] w (PPost n0 g w (r.1, r.2.1)) := by
  have hgz := hpw.lt
  have HPW := Lib.hid hpw
  obtain ⟨hn0, hol, htl, A, n, c, Ao, co, hbk, hsl, hown⟩ := hpw
  have c0 := cell_blk hbk 0
  have z0 := frz_blk hbk 0
  simp only [List.getElem?_toArray, List.getElem?_cons_zero] at c0
  have hn := hsl.len
  subst hn
  have hle := hsl.le
  have hcap := hsl.2.1
  have hcm := hsl.2.2.1
  obtain ⟨bb, oo, hA, hSb, hbs, h1, h2⟩ := hsl.tok (k := 0) (by rw [hr]; simp)
  simp only [hr, List.getElem_cons_zero, Nat.zero_mul, Nat.add_zero] at h1 h2
  subst hA
  have hrl : 1 ≤ st.rest.length := by rw [hr]; simp
  have htt : t.text.length ≤ 9223372036854775807 := htl t (by rw [hr]; simp)
  have hslr := fun wx => run_tail wx (some ⟨bb, oo, none⟩) st.rest.length c hrl hcap hcm
  have HBK := Lib.hid hbk; clear hbk
  have HSL := Lib.hid hsl; clear hsl
  have HOW := Lib.hid hown; clear hown
  have HTL := Lib.hid htl; clear htl
  have Hrr := Lib.hid hr; clear hr
  have hrn0 : (st.rest.length == 0) = false := by rw [beq_eq_false_iff_ne]; omega
  have hk2' : (t.kind == 2) = false := by simpa using hk2
  have hk3' : (t.kind == 3) = false := by simpa using hk3
  clear hk2 hk3
  have hadv := adv_pw (rr := rr) hn0 hol HTL.out HBK.out HSL.out HOW.out hrl (by rw [Hrr.out]; rfl) (.cells #[.pointer (some ⟨g, 0, none⟩)] 57) (.cells #[.int .i64 t.kind, .string ⟨t.text.toArray⟩] 54)
  have hbx := adv_boxes (w := w) (g := g) (v := .slice (tailA (some ⟨bb, oo, none⟩) c) (st.rest.length - 1) (c - 1)) (o1 := .cells #[.pointer (some ⟨g, 0, none⟩)] 57) (o2 := .cells #[.int .i64 t.kind, .string ⟨t.text.toArray⟩] 54)
  have hteq : (t.text == [108, 111, 97, 100]) = false := by rw [hun]; rfl
  have hteq2 : (t.text == [105, 110]) = true := by rw [hun]; rfl
  clear hun
  obtain ⟨q0, hq0, hrq⟩ := pthen_some hp
  obtain ⟨q, hq, rfl⟩ := pzero_some hq0
  have hqi := pparens_inv (pr_inv f .nothing) hq
  have hm2 : ({ st with rest := rr } : PSt).m + 1 ≤ 256 := adv_m Hrr.out hm
  clear hp hq0
  have Hrq := Lib.hid hrq; clear hrq
  have Hq := Lib.hid hq; clear hq
  have Hqi := Lib.hid hqi; clear hqi
  have HA := Lib.hid hadv; clear hadv
  have HX := Lib.hid hbx; clear hbx
  have HF := Lib.hid hf; clear hf
  go_enter Try.func76, Try.ntmps76
  go_wp2_with (go_at_call 25; refine (unary_any t.text 0 _ (by omega) (by omega)).mono ?_; rintro e w' ⟨rfl, rfl⟩)
  go_region
  go_wp2_with fail
  refine (parens_plain n0 g { st with rest := rr } 100 #[.pointer (some ⟨g, 0, none⟩)] #[] (fun _ _ => by kernel_rfl) (pr f .nothing) (pr_good f _) q Hq.out _ HA.out.1 hd ?_).mono ?_
  · intro x hx w1 hw1 hf1
    obtain rfl := HF.out _ _ hx
    exact nothing_step n0 g _ w1 hw1
  · rintro e w3 ⟨rfl, hw3, hf3⟩
    have hrq := Hrq.out
    have hone := Hqi.out.inv.m
    obtain ⟨qb, qs, qn⟩ := q
    simp only at hrq hone
    cases qb
    · simp only [Bool.false_eq_true, if_false] at hrq
      go_wp2
      go_ret
      rw [hrq]
      exact ⟨rfl, hw3, PM.trans HA.out.2 hf3⟩
    · simp only [if_true] at hrq
      have hx1 := cell_blk (hf3.blk HX.out.1 (by decide) (by omega)) 0
      simp only [List.getElem?_toArray, List.getElem?_cons_zero] at hx1
      have Hrq2 := Lib.hid hrq; clear hrq Hrq Hq Hqi
      go_wp2_with fail
      refine (put_any n0 g qs 5 [] 0 _ hw3 (by simp only [PSt.m] at hm2 hone; omega)).mono ?_
      rintro e w4 ⟨rfl, hw4, hf4⟩
      simp only [pput]
      go_wp2
      go_ret
      rw [Hrq2.out]
      exact ⟨rfl, hw4, PM.trans (PM.trans HA.out.2 hf3) hf4⟩
end Go.Proofs.Ytchdpjgncojhaaa
