/- Expressions: the walk of the parser's single: the cases with parts. -/
import Derived.Test.YtchdpjgncojhaaaE7
set_option linter.unusedVariables false
set_option linter.unusedSimpArgs false
namespace Go.Proofs.Ytchdpjgncojhaaa
open Go.RowKit

theorem within_all (n0 g : Nat) (st : PSt) (F : Nat) (first caps : Array Value) (hF : ∀ (args : Array Value) (w : World), (callFunc F args).run Try.prog w = .ok (.enter F args) w)
    (part : PSt → PRes) (hgood : ∀ st x, part st = some x → x.2.1.depth = st.depth) (r : Bool × PSt × Int) (hr : pwithin part st = some r) (w : World) (h : PW w n0 g st) (hd0 : 0 ≤ st.depth) (hrl : 1 ≤ st.rest.length)
    (hpart : ∀ x, part { st with depth := st.depth + 1, rest := st.rest.tail } = some x → ∀ w1, PW w1 n0 g { st with depth := st.depth + 1, rest := st.rest.tail } → Frm (PM n0 g w) w w1 → Calls Try.prog F (first ++ caps) w1 (PPost n0 g w1 (x.1, x.2.1))) :
    Calls Try.prog 97 #[.pointer (some ⟨g, 0, none⟩), .func (.func F) first caps] w (PPost n0 g w (r.1, r.2.1)) := by
  by_cases hdp : 24 < st.depth
  · have hr2 : r = ((pfail st 11).1, (pfail st 11).2, 0) := by
      unfold pwithin at hr
      rw [if_pos hdp] at hr
      injection hr with hr
      exact hr.symm
    subst hr2
    exact within_deep n0 g st F first caps w h hdp
  · unfold pwithin at hr
    rw [if_neg hdp] at hr
    unfold pdown at hr
    cases hq : part { st with depth := st.depth + 1, rest := st.rest.tail } with
    | none => simp only [hq] at hr; cases hr
    | some x =>
      simp only [hq, Option.map_some, Option.some.injEq] at hr
      have := within_any (fun _ => False) (fun _ => True) n0 g st F first caps hF (fun _ _ _ _ => trivial) x.1 x.2.1 w h (by omega) hd0 hrl (hgood _ _ hq) (fun w1 hw1 hf1 => (hpart x hq w1 hw1 hf1).mono fun e w' ⟨he, hw, hf⟩ => ⟨he, hw, PMX.of hf, trivial⟩)
      refine this.mono ?_
      rintro e w' ⟨he, hw, hf, _⟩
      subst hr
      exact ⟨he, hw, PMX.plain hf⟩

theorem parens_plain (n0 g : Nat) (st : PSt) (F : Nat) (first caps : Array Value) (hF : ∀ (args : Array Value) (w : World), (callFunc F args).run Try.prog w = .ok (.enter F args) w)
    (part : PSt → PRes) (hgood : ∀ st x, part st = some x → x.2.1.depth = st.depth) (r : Bool × PSt × Int) (hr : pparens part st = some r) (w : World) (h : PW w n0 g st) (hd0 : 0 ≤ st.depth)
    (hpart : ∀ x, part { st with depth := st.depth + 1, rest := st.rest.tail } = some x → ∀ w1, PW w1 n0 g { st with depth := st.depth + 1, rest := st.rest.tail } → Frm (PM n0 g w) w w1 → Calls Try.prog F (first ++ caps) w1 (PPost n0 g w1 (x.1, x.2.1))) :
    Calls Try.prog 99 #[.pointer (some ⟨g, 0, none⟩), .func (.func F) first caps] w (PPost n0 g w (r.1, r.2.1)) := by
  refine (parens_all (fun _ => False) (fun _ => True) n0 g st F first caps hF (fun _ _ _ _ => trivial) part hgood r hr w h hd0 (fun _ h => h.elim) (fun _ => True) trivial (fun _ _ _ _ => trivial)
    (fun x hx w1 hw1 _ hf1 => (hpart x hx w1 hw1 hf1).mono fun e w' ⟨he, hw, hf⟩ => ⟨he, hw, PMX.of hf, trivial⟩)).mono ?_
  rintro e w' ⟨he, hw, hf, _⟩
  exact ⟨he, hw, PMX.plain hf⟩

theorem pr_good (f : Nat) (tag : PTag) : ∀ st x, pr f tag st = some x → x.2.1.depth = st.depth := fun st x h => (pr_inv f tag st x h).depth
theorem pthen_some {r : PRes} {k : Int} {t : Bs} {x : Bool × PSt × Int} (h : pthen r k t = some x) : ∃ q, r = some q ∧ x = if q.1 then (true, (pput q.2.1 k t q.2.2).2, 0) else (false, q.2.1, 0) := by
  unfold pthen at h
  cases hq : r with
  | none => rw [hq] at h; cases h
  | some q => rw [hq] at h; injection h with h; exact ⟨q, rfl, h.symm⟩
theorem pzero_some {r : PRes} {x : Bool × PSt × Int} (h : pzero r = some x) : ∃ q, r = some q ∧ x = (q.1, q.2.1, 0) := by
  unfold pzero at h
  cases hq : r with
  | none => rw [hq] at h; cases h
  | some q => rw [hq] at h; injection h with h; exact ⟨q, rfl, h.symm⟩

set_option maxRecDepth 100000 in
set_option maxHeartbeats 4000000 in
theorem single_un (n0 g : Nat) (st : PSt) (t : Tok) (rr : List Tok) (w : World) (hr : st.rest = t :: rr) (hpw : PW w n0 g st) (hm : st.m ≤ 256) (f : Nat) (ihB : WBin n0 g f) (r : Bool × PSt × Int) (hd : 0 ≤ st.depth) (hk : t.kind = 3) (hun : isUn t.text = true) (hp : pthen (pzero (pwithin (pr f (.bin 11)) st)) 6 t.text = some r) :
    Calls Try.prog 76 #[.pointer (some ⟨g, 0, none⟩)] w (PPost n0 g w (r.1, r.2.1)) := by
  have hgz := hpw.lt
  have HPW := Lib.hid hpw
  obtain ⟨hn0, hol, htl, A, n, c, Ao, co, hbk, hsl, hown⟩ := hpw
  have c0 := cell_blk hbk 0
  have z0 := frz_blk hbk 0
  simp only [List.getElem?_toArray, List.getElem?_cons_zero] at c0
  have hn := hsl.len
  subst hn
  have hle := hsl.le
  have hcap := hsl.2.1
  have hcm := hsl.2.2.1
  obtain ⟨bb, oo, hA, hSb, hbs, h1, h2⟩ := hsl.tok (k := 0) (by rw [hr]; simp)
  simp only [hr, List.getElem_cons_zero, Nat.zero_mul, Nat.add_zero] at h1 h2
  subst hA
  have hrl : 1 ≤ st.rest.length := by rw [hr]; simp
  have htt : t.text.length ≤ 9223372036854775807 := htl t (by rw [hr]; simp)
  have hslr := fun wx => run_tail wx (some ⟨bb, oo, none⟩) st.rest.length c hrl hcap hcm
  have HBK := Lib.hid hbk; clear hbk
  have HSL := Lib.hid hsl; clear hsl
  have HOW := Lib.hid hown; clear hown
  have HTL := Lib.hid htl; clear htl
  have Hrr := Lib.hid hr; clear hr
  have hrn0 : (st.rest.length == 0) = false := by rw [beq_eq_false_iff_ne]; omega
  have hk2 : (t.kind == 2) = false := by rw [hk]; rfl
  have hk3 : (t.kind == 3) = true := by rw [hk]; rfl
  clear hk
  obtain ⟨q0, hq0, hrq⟩ := pthen_some hp
  obtain ⟨q, hq, rfl⟩ := pzero_some hq0
  have hqi := pwithin_inv (pr_inv f (.bin 11)) hrl hq
  clear hp hq0
  have Hrq := Lib.hid hrq; clear hrq
  have Hq := Lib.hid hq; clear hq
  have Hqi := Lib.hid hqi; clear hqi
  have HIB := Lib.hid ihB; clear ihB
  have hu : (unS t.text 0).2 = true := (unS_is t.text 0).trans hun
  go_enter Try.func76, Try.ntmps76
  go_wp2_with (go_at_call 25; refine (unary_any t.text 0 _ (by omega) (by omega)).mono ?_; rintro e w' ⟨rfl, rfl⟩)
  have hpw0 : PW ((w.alloc (.cells #[.pointer (some ⟨g, 0, none⟩)] 57)).alloc (.cells #[.int .i64 t.kind, .string ⟨t.text.toArray⟩] 54)) n0 g st := HPW.out.below (boxed.alloc (by simp) _)
  refine (within_all n0 g st 98 #[.pointer (some ⟨g, 0, none⟩)] #[] (fun _ _ => by kernel_rfl) (pr f (.bin 11)) (pr_good f _) q Hq.out _ hpw0 hd hrl ?_).mono ?_
  · intro x hx w1 hw1 hf1
    exact factor_step n0 g f HIB.out _ w1 x hx hw1 (by simp only; omega) (by simp only [PSt.m, List.length_tail] at hm ⊢; omega)
  · rintro e w3 ⟨rfl, hw3, hf3⟩
    have hrq := Hrq.out
    have hone := Hqi.out.one
    obtain ⟨qb, qs, qn⟩ := q
    simp only at hrq hone
    cases qb
    · simp only [Bool.false_eq_true, if_false] at hrq
      go_wp2
      go_ret
      rw [hrq]
      exact ⟨rfl, hw3, PM.trans (Frm.any (boxed.alloc (by simp) _)) hf3⟩
    · simp only [if_true] at hrq
      have hx1 := cell_blk (hf3.blk (blkOld (heap_alloc_new w _) _) (by decide) (by omega)) 0
      have hx2 := cell_blk (hf3.blk (blkAt _ _ (k := w.heap.size + 1) (by simp)) (by decide) (by omega)) 1
      simp only [List.getElem?_toArray, List.getElem?_cons_succ, List.getElem?_cons_zero] at hx1 hx2
      have Hrq2 := Lib.hid hrq; clear hrq Hrq Hq Hqi
      have hone2 := hone rfl
      clear hone
      go_wp2_with fail
      refine (put_any n0 g qs 6 t.text 0 _ hw3 (by simp only [PSt.m] at hm hone2; omega)).mono ?_
      rintro e w4 ⟨rfl, hw4, hf4⟩
      simp only [pput]
      go_wp2
      go_ret
      rw [Hrq2.out]
      exact ⟨rfl, hw4, PM.trans (PM.trans (Frm.any (boxed.alloc (by simp) _)) hf3) hf4⟩

set_option maxRecDepth 100000 in
set_option maxHeartbeats 4000000 in
theorem single_par (n0 g : Nat) (st : PSt) (t : Tok) (rr : List Tok) (w : World) (hr : st.rest = t :: rr) (hpw : PW w n0 g st) (hm : st.m ≤ 256) (f : Nat) (ihB : WBin n0 g f) (r : Bool × PSt × Int) (hd : 0 ≤ st.depth) (hk : t.kind = 3) (hun : isUn t.text = false) (hp : pzero (pparens (pr f (.bin 1)) st) = some r) :
    Calls Try.prog 76 #[.pointer (some ⟨g, 0, none⟩)] w (PPost n0 g w (r.1, r.2.1)) := by
  have hgz := hpw.lt
  have HPW := Lib.hid hpw
  obtain ⟨hn0, hol, htl, A, n, c, Ao, co, hbk, hsl, hown⟩ := hpw
  have c0 := cell_blk hbk 0
  have z0 := frz_blk hbk 0
  simp only [List.getElem?_toArray, List.getElem?_cons_zero] at c0
  have hn := hsl.len
  subst hn
  have hle := hsl.le
  have hcap := hsl.2.1
  have hcm := hsl.2.2.1
  obtain ⟨bb, oo, hA, hSb, hbs, h1, h2⟩ := hsl.tok (k := 0) (by rw [hr]; simp)
  simp only [hr, List.getElem_cons_zero, Nat.zero_mul, Nat.add_zero] at h1 h2
  subst hA
  have hrl : 1 ≤ st.rest.length := by rw [hr]; simp
  have htt : t.text.length ≤ 9223372036854775807 := htl t (by rw [hr]; simp)
  have hslr := fun wx => run_tail wx (some ⟨bb, oo, none⟩) st.rest.length c hrl hcap hcm
  have HBK := Lib.hid hbk; clear hbk
  have HSL := Lib.hid hsl; clear hsl
  have HOW := Lib.hid hown; clear hown
  have HTL := Lib.hid htl; clear htl
  have Hrr := Lib.hid hr; clear hr
  have hrn0 : (st.rest.length == 0) = false := by rw [beq_eq_false_iff_ne]; omega
  have hk2 : (t.kind == 2) = false := by rw [hk]; rfl
  have hk3 : (t.kind == 3) = true := by rw [hk]; rfl
  clear hk
  obtain ⟨q, hq, rfl⟩ := pzero_some hp
  clear hp
  have Hq := Lib.hid hq; clear hq
  have HIB := Lib.hid ihB; clear ihB
  have hu : (unS t.text 0).2 = false := (unS_is t.text 0).trans hun
  go_enter Try.func76, Try.ntmps76
  go_wp2_with (go_at_call 25; refine (unary_any t.text 0 _ (by omega) (by omega)).mono ?_; rintro e w' ⟨rfl, rfl⟩)
  have hpw0 : PW ((w.alloc (.cells #[.pointer (some ⟨g, 0, none⟩)] 57)).alloc (.cells #[.int .i64 t.kind, .string ⟨t.text.toArray⟩] 54)) n0 g st := HPW.out.below (boxed.alloc (by simp) _)
  refine (parens_plain n0 g st 36 #[.pointer (some ⟨g, 0, none⟩)] #[] (fun _ _ => by kernel_rfl) (pr f (.bin 1)) (pr_good f _) q Hq.out _ hpw0 hd ?_).mono ?_
  · intro x hx w1 hw1 hf1
    exact whole_step n0 g f HIB.out _ w1 x hx hw1 (by simp only; omega) (by simp only [PSt.m, List.length_tail] at hm ⊢; omega)
  · rintro e w3 ⟨rfl, hw3, hf3⟩
    go_wp2
    go_ret
    exact ⟨rfl, hw3, PM.trans (Frm.any (boxed.alloc (by simp) _)) hf3⟩
end Go.Proofs.Ytchdpjgncojhaaa
