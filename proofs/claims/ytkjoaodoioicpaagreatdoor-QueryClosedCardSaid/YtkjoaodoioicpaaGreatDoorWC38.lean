/- Query (package licitlaw54): a part of the proofs of its laws; see the law's own text, which comes last in 'order'. No conditions of its own. -/
import Derived.Test.YtkjoaodoioicpaaGreatDoorWC37
set_option linter.unusedVariables false
set_option linter.unusedSimpArgs false
namespace Go.Proofs.YtkjoaodoioicpaaGreatDoor
open Go.RowKit
variable {N : Nat}
theorem ratom_len (p : RSt) : (ratom p).2.1.length ≤ p.1.length := by
  have key : ∀ (f : Nat) (p : RSt) (out : List Arg), (rmore f p out).2.1.length ≤ p.1.length := by
    intro f
    induction f with
    | zero => intro p out; exact Nat.le_refl _
    | succ f ih =>
      intro p out
      rw [rmore_cons]
      split
      · have h1 := ih (rarg (ris p 115 [44]).2).2 (out ++ [(rarg (ris p 115 [44]).2).1])
        have h2 := rarg_len (ris p 115 [44]).2
        have h3 := ris_len p 115 [44]
        exact Nat.le_trans h1 (Nat.le_trans h2 h3)
      · exact Nat.le_refl _
  unfold ratom
  simp only
  split
  · exact Nat.le_refl _
  · have h0 : (p.1.drop 1).length ≤ p.1.length := by simp
    have h2 := ris_len (p.1.drop 1, p.2) 115 [40]
    split
    · exact h0
    · have h3 := rarg_len (ris (p.1.drop 1, p.2) 115 [40]).2
      have h4 := key ((ris (p.1.drop 1, p.2) 115 [40]).2.1.length + 1) (rarg (ris (p.1.drop 1, p.2) 115 [40]).2).2 [(rarg (ris (p.1.drop 1, p.2) 115 [40]).2).1]
      generalize rmore _ _ _ = m at *
      simp only at h0 h2
      split
      · simp only; omega
      · have h5 := ris_len m.2 115 [41]
        simp only; omega
theorem rltl_len (p : RSt) : (rltl p).2.1.length ≤ p.1.length := by
  have h0 := ris_len p 119 sNot
  rcases rltl_cases p with ⟨h1, h⟩ | ⟨h1, h2, h3, h⟩ | ⟨h1, h2, h⟩
  · rw [h]
    have := ratom_len (ris p 119 sNot).2
    simp only; omega
  · rw [h]; exact ratom_len p
  · rw [h]
    have h4 := rarg_len p
    split
    · exact h4
    · have h5 := rarg_len ((rarg p).2.1.drop 1, (rarg p).2.2)
      simp only [List.length_drop] at h5 ⊢
      omega
theorem rmoreL_cons (f : Nat) (p : RSt) (out : List Ltl) : rmoreL (f + 1) p out = if !p.2 && (ris p 115 [44]).1 then (let a := rltl (ris p 115 [44]).2; rmoreL f a.2 (out ++ [a.1])) else (out, p) := rfl
def finR (h : Atm) (lits : List Ltl) (q : RSt) : Rul × RSt :=
  if q.2 then (⟨h, lits⟩, q) else (⟨h, lits⟩, ((ris q 115 [46]).2.1, (!(ris q 115 [46]).1 || !(ris q 115 [46]).2.1.isEmpty) || !ruleS ⟨h, lits⟩))
theorem rrule_fin (p : RSt) : rrule p = if !(ratom p).2.2 && (ris (ratom p).2 115 [58, 45]).1 then
      finR (ratom p).1 (rmoreL ((ris (ratom p).2 115 [58, 45]).2.1.length + 1) (rltl (ris (ratom p).2 115 [58, 45]).2).2 [(rltl (ris (ratom p).2 115 [58, 45]).2).1]).1 (rmoreL ((ris (ratom p).2 115 [58, 45]).2.1.length + 1) (rltl (ris (ratom p).2 115 [58, 45]).2).2 [(rltl (ris (ratom p).2 115 [58, 45]).2).1]).2
    else finR (ratom p).1 [] (ratom p).2 := by
  unfold rrule finR
  simp only
  split <;> rfl
structure RuR (N : Nat) (w wx : World) (g b2 b4 : Nat) (nm : Bs) (A1 : Option Addr) (n1 c1 : Nat) (args : List Arg) (lits : List Ltl) (p : RSt) : Prop where
  rt : RTR N w wx g b2 #[.string ⟨#[]⟩, .slice none 0 0, .slice none 0 0] 34 p
  h4 : b2 < b4
  own : ∃ A c, wx.heap[b4]? = some (.cells #[.string ⟨nm.toArray⟩, .slice A1 n1 c1, .slice A lits.length c] 34 (0, 0)) ∧ Own wx (fun b => b4 < b) (b4 + 1) 60 A c lits
  head : Sl wx (fun b => b2 < b ∧ b < b4) A1 n1 c1 args
  ok : OkR ⟨⟨nm, args⟩, lits⟩
section
variable {w wx wy : World} {g b2 b4 : Nat} {nm : Bs} {A1 : Option Addr} {n1 c1 : Nat} {args : List Arg} {lits : List Ltl} {p q : RSt}
theorem RuR.same {A : Option Addr} {c : Nat} (h : RuR N w wx g b2 b4 nm A1 n1 c1 args lits p) (hb : wx.heap[b4]? = some (.cells #[.string ⟨nm.toArray⟩, .slice A1 n1 c1, .slice A lits.length c] 34 (0, 0))) (ho : Own wx (fun b => b4 < b) (b4 + 1) 60 A c lits) (hf : Frm (MG g) wx wy) :
    wy.heap[b4]? = some (.cells #[.string ⟨nm.toArray⟩, .slice A1 n1 c1, .slice A lits.length c] 34 (0, 0)) ∧ Own wy (fun b => b4 < b) (b4 + 1) 60 A c lits := by
  have := h.rt.hg; have := h.rt.h2; have := h.h4
  exact ⟨(hf.block _ (Array.getElem?_eq_some_iff.1 hb).1 (fun e => by have : b4 = g := e; omega)).trans hb, ho.keep (fun k hk hs => hf.block k hk (fun e => by
      have e : k = g := e
      rcases hs with hs | hs
      · omega
      · have := (ho.lt k hs).1; omega))⟩
theorem RuR.call (h : RuR N w wx g b2 b4 nm A1 n1 c1 args lits p) (hp : RW N wy g q) (hf : Frm (MG g) wx wy) : RuR N w wy g b2 b4 nm A1 n1 c1 args lits q := by
  obtain ⟨A, c, hb, ho⟩ := h.own
  have hs := h.same hb ho hf
  have := h.rt.hg; have := h.rt.h2
  exact ⟨h.rt.call hp hf, h.h4, ⟨A, c, hs⟩, h.head.keep (fun k hk hs => hf.block k hk (fun e => by have e : k = g := e; omega)), h.ok⟩
theorem RuR.below (h : RuR N w wx g b2 b4 nm A1 n1 c1 args lits p) (hb : Below wx.heap.size wx wy) : RuR N w wy g b2 b4 nm A1 n1 c1 args lits p := h.call (h.rt.pw.below hb) (Frm.any hb)
theorem RuR.app {w6 : World} {A A' : Option Addr} {c c' : Nat} {x : Ltl} (h : RuR N w wx g b2 b4 nm A1 n1 c1 args lits p)
    (hb : wx.heap[b4]? = some (.cells #[.string ⟨nm.toArray⟩, .slice A1 n1 c1, .slice A lits.length c] 34 (0, 0))) (ho : Own wx (fun b => b4 < b) (b4 + 1) 60 A c lits)
    (ho' : Own w6 (fun b => b4 < b) (b4 + 1) 60 A' c' (lits ++ [x])) (hgr : wx.grownBy w6 (A.map Addr.block)) (hx : OkL x) :
    RuR N w (w6.setCell ⟨b4, 2, none⟩ (.slice A' (lits.length + 1) c')) g b2 b4 nm A1 n1 c1 args (lits ++ [x]) p := by
  have e1 := h.rt.hg; have e2 := h.rt.h2; have e3 := h.h4
  have hne : ∀ k, k ≤ b4 → A.map Addr.block ≠ some k := fun k hk e => by have := (ho.lt k e).1; omega
  have hk6 : ∀ k, k < wx.heap.size → k ≤ b4 → w6.heap[k]? = wx.heap[k]? := fun k hk hk3 => hgr.block k hk (fun e => hne k hk3 e.symm)
  have hlt4 := (Array.getElem?_eq_some_iff.1 hb).1
  have hb6 := (hk6 b4 hlt4 (Nat.le_refl _)).trans hb
  refine ⟨⟨h.rt.pw.keepG (fun k hk => (set_other _ _ _ _ _ (by omega)).trans (hk6 k (by have := h.rt.pw.lt; omega) (by omega))), e1, e2, (set_other _ _ _ _ _ (by omega)).trans ((hk6 b2 (by omega) (by omega)).trans h.rt.res), ?_⟩, e3, ?_, ?_, h.ok.1, ?_⟩
  · exact (h.rt.frm.grown hgr (fun k hk hkw => by have := (ho.lt k hk).1; omega)).setCell (p := ⟨b4, 2, none⟩) (fun hk => by have hk : b4 < w.heap.size := hk; omega) _
  · refine ⟨A', c', ?_, ho'.keep (fun k _ hs => set_other _ _ _ _ _ (fun e => by rcases hs with hs | hs; omega; have := (ho'.lt k hs).1; omega))⟩
    rw [Blk.set w6 hb6 2]
    simp
  · exact h.head.keep (fun k hk hs => (set_other _ _ _ _ _ (by omega)).trans (hk6 k hk (by omega)))
  · intro y hy
    rcases List.mem_append.1 hy with hy | hy
    · exact h.ok.2 y hy
    · rw [List.mem_singleton.1 hy]; exact hx
end
def URPost (N : Nat) (w : World) (g : Nat) (r : Rul × RSt) (e : Ending) (w' : World) : Prop :=
  (∃ A1 n1 c1 A2 n2 c2, e = .returned (.agg #[.string ⟨r.1.head.name.toArray⟩, .slice A1 n1 c1, .slice A2 n2 c2]) ∧ Sl w' (fun b => w.heap.size ≤ b) A1 n1 c1 r.1.head.args ∧ Sl w' (fun b => w.heap.size ≤ b) A2 n2 c2 r.1.body) ∧ RW N w' g r.2 ∧ Frm (MG g) w w' ∧ OkR r.1
set_option maxRecDepth 100000 in
set_option maxHeartbeats 16000000 in
theorem rruleR_any (g : Nat) (p : RSt) (w : World) (h : RW N w g p) :
    Calls Tryz.prog 34 #[.pointer (some ⟨g, 0, none⟩)] w (URPost N w g (rrule p)) := by
  have hgw := h.lt
  have hN := h.len
  have hr0 : RTR N w (w.alloc (.cells #[.string ⟨#[]⟩, .slice none 0 0, .slice none 0 0] 34)) g w.heap.size #[.string ⟨#[]⟩, .slice none 0 0, .slice none 0 0] 34 p :=
    ⟨h.alloc _, hgw, Nat.le_refl _, blkAt w _ rfl, (Frm.refl (MG g) w).alloc _⟩
  have hat := ratom_any g p _ hr0.pw
  have hal := ratom_len p
  obtain ⟨R, hR⟩ : ∃ R, R = rrule p := ⟨_, rfl⟩
  rw [← hR]
  rw [rrule_fin] at hR
  generalize ratom p = x at *
  obtain ⟨⟨nm, args⟩, x2⟩ := x
  obtain ⟨xl, xb⟩ := x2
  simp only at hal hR
  have hsz0 : (w.alloc (.cells #[.string ⟨#[]⟩, .slice none 0 0, .slice none 0 0] 34)).heap.size = w.heap.size + 1 := by simp
  have HSZ := Lib.hid hsz0; have HAT0 := Lib.hid hat; have HR := Lib.hid hR; have HR0 := Lib.hid hr0
  clear hsz0 hat hR hr0 h
  go_enter Tryz.func34, Tryz.ntmps34
  go_wp2_with fail
  refine HAT0.out.mono ?_
  rintro e w1 ⟨⟨A1, n1, c1, rfl, hsl1⟩, hw1, hf1, hok1⟩
  have hs1 := hf1.size
  rw [HSZ.out] at hs1 hsl1
  have hr1 := HR0.out.call hw1 hf1
  have hlen1 := hsl1.len
  simp only at hlen1 hok1 hsl1
  have hat : RuR N w (w1.alloc (.cells #[.string ⟨nm.toArray⟩, .slice A1 n1 c1, .slice none 0 0] 34)) g w.heap.size w1.heap.size nm A1 n1 c1 args [] (xl, xb) :=
    ⟨hr1.below boxed, by omega, ⟨none, 0, blkAt w1 _ rfl, Own.nil _ _ _ _⟩, (hsl1.wide (S' := fun b => w.heap.size < b ∧ b < w1.heap.size) (fun k hk hs => ⟨by omega, hk⟩) (by decide)).alloc _, hok1, fun l hl => by cases hl⟩
  have hta := ris_any g (xl, xb) 115 [58, 45] _ hat.rt.pw (by omega)
  have htl := ris_len (xl, xb) 115 [58, 45]
  have hno := ris_no (p := (xl, xb)) (k := 115) (s := [58, 45])
  generalize ris (xl, xb) 115 [58, 45] = t at *
  obtain ⟨t1, t2⟩ := t
  simp only at hta htl hno
  have HAT := Lib.hid hat; have HTA := Lib.hid hta; clear hat hta hw1 hf1 hsl1 hr1 hlen1 hok1 HAT0 HR0
  go_upto_region 2 with fail
  generalize hW : w1.alloc (.cells #[.string ⟨nm.toArray⟩, .slice A1 n1 c1, .slice none 0 0] 34) = W1 at *
  generalize hb3 : w1.heap.size = b4 at *
  clear hb3 hW
  go_cut [15] from 7 to 15 (fun v wx => ∃ b q0, v = .bool b ∧ RuR N w wx g w.heap.size b4 nm A1 n1 c1 args [] q0 ∧ q0.1.length ≤ p.1.length ∧ Hid (R = if b then finR ⟨nm, args⟩ (rmoreL (q0.1.length + 1) (rltl q0).2 [(rltl q0).1]).1 (rmoreL (q0.1.length + 1) (rltl q0).2 [(rltl q0).1]).2 else finR ⟨nm, args⟩ [] q0))
  case first =>
    obtain ⟨c1', z1⟩ := HAT.out.rt.pw.c2
    simp only at c1'
    cases xb
    · have hr := HR.out
      simp only [Bool.not_false, Bool.true_and] at hr
      have HR1 := Lib.hid hr; clear hr HR
      go_wp2_with fail
      refine HTA.out.mono ?_
      rintro e w2 ⟨rfl, hw2, hf2⟩
      have hat2 := HAT.out.call hw2 hf2
      have HAT2 := Lib.hid hat2; clear hat2 hw2 hf2 HAT HTA c1' z1
      go_wp2_with fail
      go_meet
      refine ⟨t1, t2, rfl, HAT2.out, by omega, Lib.hid ?_⟩
      rw [HR1.out]
      cases t1
      · rw [hno rfl]
      · rfl
    · have hr := HR.out
      simp only [Bool.not_true, Bool.false_and, Bool.false_eq_true, if_false] at hr
      have HR1 := Lib.hid hr; clear hr HR
      go_wp2_with fail
      go_meet
      exact ⟨false, (xl, true), rfl, HAT.out, by simp only; omega, HR1⟩
  case rest =>
  obtain ⟨t1, t2, rfl, hat2, htl, hr1⟩ := hcut
  have HAT2 := Lib.hid hat2; have HR1 := hr1
  clear hat2 hr1 HAT HTA HR hno
  obtain ⟨w2, rfl⟩ : ∃ w2, w2 = wc := ⟨_, rfl⟩
  go_upto_if 15 with (fail)
  go_cut [] from 16 to 38 (fun wx => ∃ lits q, RuR N w wx g w.heap.size b4 nm A1 n1 c1 args lits q ∧ q.1.length ≤ p.1.length ∧ Hid (R = finR ⟨nm, args⟩ lits q))
  case first =>
      cases t1
      · have hr := HR1.out
        simp only [Bool.false_eq_true, if_false] at hr
        go_wp2_with fail
        go_meet
        exact ⟨[], _, HAT2.out, htl, Lib.hid hr⟩
      · have hr := HR1.out
        simp only [if_true] at hr
        have hpl2 : t2.1.length ≤ 1000000 := by omega
        have hga := fun w h => rliteralR_any (N := N) g t2 w h
        have hgl := rltl_len t2
        generalize rltl t2 = a1 at *
        obtain ⟨a1, p1⟩ := a1
        simp only at hgl hr
        obtain ⟨M, hM⟩ : ∃ M, M = rmoreL (t2.1.length + 1) p1 [a1] := ⟨_, rfl⟩
        rw [← hM] at hr
        have HMM := Lib.hid hM; clear hM
        have HR2 := Lib.hid hr; have HGA := Lib.hid hga
        clear hr hga HR1
        have hD := HAT2.out.below (wy := w2.drew) (Below.refl _ _).drew
        obtain ⟨A, c, hb, ho⟩ := hD.own
        have hS : w2.drew.cell? ⟨b4, 2, none⟩ = some (.slice A 0 c) := (cell_blk hb 2).trans rfl
        have hcap := ho.cap
        have HD := Lib.hid hD; have HB := Lib.hid hb; have HO := Lib.hid ho; clear hD hb ho
        go_wp2_with fail
        refine wpY_region (fun x => x.cell? ⟨b4, 2, none⟩ = some (.slice A 0 c)) 7 (by kernel_rfl) ?_
        have HX := Lib.hid (fun (x : World) (hx : x.cell? ⟨b4, 2, none⟩ = some (.slice A 0 c)) => hx)
        (refine wpAnyY_takeW 0 rfl rfl (by kernel_rfl) (by kernel_rfl) (by kernel_rfl) (by kernel_rfl) (fun _ _ _ h => h) (v := ?_) (by kernel_rfl) hS ?_ ?_; rotate_left; (focus (intro x hx; have fx := HX.out x hx; go_simp; (try with_reducible rfl); done)); (try simp only [Act.put, lsa, lsz, lss]))
        (refine wpAnyY_takeW 1 rfl rfl (by kernel_rfl) (by kernel_rfl) (by kernel_rfl) (by kernel_rfl) (fun _ _ _ h => h) (v := ?_) (by kernel_rfl) hS ?_ ?_; rotate_left; (focus (intro x hx; have fx := HX.out x hx; go_simp; (try with_reducible rfl); done)); (try simp only [Act.put, lsa, lsz, lss]))
        (refine wpAnyY_takeW 2 rfl rfl (by kernel_rfl) (by kernel_rfl) (by kernel_rfl) (by kernel_rfl) (fun _ _ _ h => h) (v := ?_) (by kernel_rfl) hS ?_ ?_; rotate_left; (focus (intro x hx; have fx := HX.out x hx; go_simp; (try with_reducible rfl); done)); (try simp only [Act.put, lsa, lsz, lss]))
        refine wpAnyY_one 3 (by kernel_rfl) rfl ?_
        intro K' hK'
        go_simp
        refine (HGA.out _ HD.out.rt.pw).mono ?_
        rintro e w3 ⟨⟨Al, nl, cl, rfl, hsl3⟩, hw3, hf3, hok3⟩
        have hat3 := HD.out.call hw3 hf3
        obtain ⟨hb3', ho3⟩ := HD.out.same HB.out HO.out hf3
        have hS3 : w3.cell? ⟨b4, 2, none⟩ = some (.slice A 0 c) := (cell_blk hb3' 2).trans rfl
        have hb4 := blkOld hb3' (.cells (ltlC a1 Al nl cl) 60)
        have hlt3 := (Array.getElem?_eq_some_iff.1 hb3').1
        have hsl4 : Sl (w3.alloc (.cells (ltlC a1 Al nl cl) 60)) (fun b => b4 < b ∧ A.map Addr.block ≠ some b) Al nl cl a1.atom.args := (hsl3.wide (fun k _ hk => ⟨by have := (Array.getElem?_eq_some_iff.1 HB.out).1; omega, fun e => by have := (HO.out.lt k e).2; omega⟩) (by decide)).alloc _
        have HAT4 := Lib.hid (hat3.below (wy := w3.alloc (.cells (ltlC a1 Al nl cl) 60)) boxed); have HB4 := Lib.hid hb4; have HO4 := Lib.hid (ho3.alloc (.cells (ltlC a1 Al nl cl) 60)); have HSL4 := Lib.hid hsl4; have HOK3 := Lib.hid hok3
        clear hw3 hf3 hat3 hb3' ho3 hb4 hsl3 hsl4 hok3
        refine hK'.out _ _ (fun _ => hS3) ?_
        clear hK' K'
        refine wpAnyY_one 4 (by kernel_rfl) rfl ?_
        intro K' hK'
        go_simp
        refine hK'.out _ _ (fun _ => cell_alloc' hS3 _) ?_
        clear hK' K'
        refine wpAnyY_one 5 (by kernel_rfl) rfl ?_
        intro K' hK'
        refine step_app1 (T := fun b => b4 < b) (base := b4 + 1) (xs := []) rfl _ _ eltLtl rfl (by decide) rfl rfl rfl HO4.out rfl [.bool a1.neg, .string ⟨a1.op.toArray⟩, .string ⟨a1.atom.name.toArray⟩, .slice Al nl cl] a1 (blkAt _ _ rfl) rfl ⟨rfl, rfl, rfl, Al, nl, cl, rfl, HSL4.out⟩ (by simp only [List.length_nil]; omega) (by simp only [List.length_nil]; omega) (by simp; omega) ?_
        intro A' c' w6 hown6 hg6 hat6
        have hb6 := grownBlk hg6 HB4.out (fun e => by have := (HO4.out.lt b4 e).1; omega)
        have hS6 : w6.cell? ⟨b4, 2, none⟩ = some (.slice A 0 c) := (cell_blk hb6 2).trans rfl
        have hZ6 := frz_blk hb6 2
        have hat7 := HAT4.out.app HB4.out HO4.out hown6 hg6 HOK3.out
        have HAT7 := Lib.hid hat7; clear hat7 hown6 hg6 hat6 hb6
        refine hK'.out _ _ (fun _ => hS6) ?_
        clear hK' K'
        refine wpAnyY_one 6 (by kernel_rfl) rfl ?_
        intro K' hK'
        go_simp
        refine hK'.out _ _ (fun _ => hS6) ?_
        clear hK' K'
        (refine wpAnyY_one 7 (by kernel_rfl) rfl ?_; intro K' hK'; go_simp; refine hK'.out _ _ (fun h => absurd rfl h) ?_; clear hK' K'; refine wpAnyY_done (by kernel_rfl) ?_ _)
        clear HB4 HO4 HAT4 HB HO HD hS hS3 hS6 hZ6 HX HAT2 HSL4 HOK3
        go_wp2_with fail
        go_loopg [23] (t2.1.length + 1) (fun f o wx => ∃ lits q, RuR N w wx g w.heap.size b4 nm A1 n1 c1 args lits q ∧ q.1.length < f ∧ q.1.length + lits.length ≤ 1000001 ∧ q.1.length ≤ p.1.length ∧ Hid (M = rmoreL f q lits))
        case atStart => exact ⟨[a1], p1, HAT7.out, by omega, by simp; omega, by omega, HMM⟩
        case round =>
          obtain ⟨lits, q, haq, hqf, hqa, hqp, hmq⟩ := hrel
          obtain ⟨f, rfl⟩ : ∃ f, gk = f + 1 := ⟨gk - 1, by omega⟩
          have hm := hmq.out
          rw [rmoreL_cons] at hm
          obtain ⟨c1', z1⟩ := haq.rt.pw.c2
          have HAQ := Lib.hid haq; clear haq hmq
          obtain ⟨ql, qb⟩ := q
          simp only at c1' hm hqf hqa hqp
          cases qb
          · have htk := fun w h => ris_any (N := N) g (ql, false) 115 [44] w h (by omega)
            have htl2 := ris_len (ql, false) 115 [44]
            have htl3 := ris_lt (p := (ql, false)) (k := 115) (s := [44]) (by omega)
            have htf := ris_no (p := (ql, false)) (k := 115) (s := [44])
            generalize ris (ql, false) 115 [44] = tq at *
            obtain ⟨tq1, tq2⟩ := tq
            simp only [Bool.not_false, Bool.true_and] at htk htl2 htl3 htf hm
            have HTQ := Lib.hid htk; have HM := Lib.hid hm; clear htk hm
            go_wp2_with fail
            refine (HTQ.out _ HAQ.out.rt.pw).mono ?_
            rintro e w4 ⟨rfl, hw4, hf4⟩
            have haq4 := HAQ.out.call hw4 hf4
            clear HAQ hw4 hf4 c1' z1
            have HAQ := Lib.hid haq4; clear haq4
            cases tq1
            · have hqq := htf rfl
              subst hqq
              have hm := HM.out
              (try simp only [Bool.false_eq_true, if_false] at hm)
              have hr := HR2.out
              rw [hm] at hr
              go_wp2_with fail
              go_meet
              exact ⟨lits, (ql, false), HAQ.out, by simp only; omega, hr⟩
            · have hm := HM.out
              (try simp only [if_true] at hm)
              have hgb := fun w h => rliteralR_any (N := N) g tq2 w h
              have hgl2 := rltl_len tq2
              generalize rltl tq2 = a2 at *
              obtain ⟨a2, p2⟩ := a2
              simp only at hgl2 hm
              have HM2 := Lib.hid hm; have HGB := Lib.hid hgb
              have htl4 := htl3 rfl
              clear hm hgb HM htl3 htf
              have hD := HAQ.out.below (wy := w4.drew) (Below.refl _ _).drew
              obtain ⟨A, c, hb, ho⟩ := hD.own
              have hS : w4.drew.cell? ⟨b4, 2, none⟩ = some (.slice A lits.length c) := (cell_blk hb 2).trans rfl
              have hcap := ho.cap
              have HD := Lib.hid hD; have HB := Lib.hid hb; have HO := Lib.hid ho; clear hD hb ho
              go_wp2_with fail
              refine wpY_region (fun x => x.cell? ⟨b4, 2, none⟩ = some (.slice A lits.length c)) 7 (by kernel_rfl) ?_
              have HX := Lib.hid (fun (x : World) (hx : x.cell? ⟨b4, 2, none⟩ = some (.slice A lits.length c)) => hx)
              (refine wpAnyY_takeW 0 rfl rfl (by kernel_rfl) (by kernel_rfl) (by kernel_rfl) (by kernel_rfl) (fun _ _ _ h => h) (v := ?_) (by kernel_rfl) hS ?_ ?_; rotate_left; (focus (intro x hx; have fx := HX.out x hx; go_simp; (try with_reducible rfl); done)); (try simp only [Act.put, lsa, lsz, lss]))
              (refine wpAnyY_takeW 1 rfl rfl (by kernel_rfl) (by kernel_rfl) (by kernel_rfl) (by kernel_rfl) (fun _ _ _ h => h) (v := ?_) (by kernel_rfl) hS ?_ ?_; rotate_left; (focus (intro x hx; have fx := HX.out x hx; go_simp; (try with_reducible rfl); done)); (try simp only [Act.put, lsa, lsz, lss]))
              (refine wpAnyY_takeW 2 rfl rfl (by kernel_rfl) (by kernel_rfl) (by kernel_rfl) (by kernel_rfl) (fun _ _ _ h => h) (v := ?_) (by kernel_rfl) hS ?_ ?_; rotate_left; (focus (intro x hx; have fx := HX.out x hx; go_simp; (try with_reducible rfl); done)); (try simp only [Act.put, lsa, lsz, lss]))
              refine wpAnyY_one 3 (by kernel_rfl) rfl ?_
              intro K' hK'
              go_simp
              refine (HGB.out _ HD.out.rt.pw).mono ?_
              rintro e w5 ⟨⟨Al, nl, cl, rfl, hsl3⟩, hw5, hf5, hok3⟩
              have hat3 := HD.out.call hw5 hf5
              obtain ⟨hb3', ho3⟩ := HD.out.same HB.out HO.out hf5
              have hS3 : w5.cell? ⟨b4, 2, none⟩ = some (.slice A lits.length c) := (cell_blk hb3' 2).trans rfl
              have hb4 := blkOld hb3' (.cells (ltlC a2 Al nl cl) 60)
              have hlt3 := (Array.getElem?_eq_some_iff.1 hb3').1
              have hsl4 : Sl (w5.alloc (.cells (ltlC a2 Al nl cl) 60)) (fun b => b4 < b ∧ A.map Addr.block ≠ some b) Al nl cl a2.atom.args := (hsl3.wide (fun k _ hk => ⟨by have := (Array.getElem?_eq_some_iff.1 HB.out).1; omega, fun e => by have := (HO.out.lt k e).2; omega⟩) (by decide)).alloc _
              have HAT4 := Lib.hid (hat3.below (wy := w5.alloc (.cells (ltlC a2 Al nl cl) 60)) boxed); have HB4 := Lib.hid hb4; have HO4 := Lib.hid (ho3.alloc (.cells (ltlC a2 Al nl cl) 60)); have HSL4 := Lib.hid hsl4; have HOK3 := Lib.hid hok3
              clear hw5 hf5 hat3 hb3' ho3 hb4 hsl3 hsl4 hok3
              refine hK'.out _ _ (fun _ => hS3) ?_
              clear hK' K'
              refine wpAnyY_one 4 (by kernel_rfl) rfl ?_
              intro K' hK'
              go_simp
              refine hK'.out _ _ (fun _ => cell_alloc' hS3 _) ?_
              clear hK' K'
              refine wpAnyY_one 5 (by kernel_rfl) rfl ?_
              intro K' hK'
              refine step_app1 (T := fun b => b4 < b) (base := b4 + 1) (xs := lits) rfl _ _ eltLtl rfl (by decide) rfl rfl rfl HO4.out rfl [.bool a2.neg, .string ⟨a2.op.toArray⟩, .string ⟨a2.atom.name.toArray⟩, .slice Al nl cl] a2 (blkAt _ _ rfl) rfl ⟨rfl, rfl, rfl, Al, nl, cl, rfl, HSL4.out⟩ (by omega) (by omega) (by simp; omega) ?_
              intro A' c' w7 hown6 hg6 hat6
              have hb6 := grownBlk hg6 HB4.out (fun e => by have := (HO4.out.lt b4 e).1; omega)
              have hS6 : w7.cell? ⟨b4, 2, none⟩ = some (.slice A lits.length c) := (cell_blk hb6 2).trans rfl
              have hZ6 := frz_blk hb6 2
              have hat7 := HAT4.out.app HB4.out HO4.out hown6 hg6 HOK3.out
              have HAT7 := Lib.hid hat7; clear hat7 hown6 hg6 hat6 hb6
              refine hK'.out _ _ (fun _ => hS6) ?_
              clear hK' K'
              refine wpAnyY_one 6 (by kernel_rfl) rfl ?_
              intro K' hK'
              go_simp
              refine hK'.out _ _ (fun _ => hS6) ?_
              clear hK' K'
              (refine wpAnyY_one 7 (by kernel_rfl) rfl ?_; intro K' hK'; go_simp; refine hK'.out _ _ (fun h => absurd rfl h) ?_; clear hK' K'; refine wpAnyY_done (by kernel_rfl) ?_ _)
              clear HB4 HO4 HAT4 HB HO HD hS hS3 hS6 hZ6 HX HAQ HSL4 HOK3
              go_wp2_with fail
              go_roundg f
              case measure => omega
              case rel => exact ⟨lits ++ [a2], p2, HAT7.out, by omega, by simp; omega, by omega, HM2.out⟩
          · (try simp only [Bool.not_true, Bool.false_and, Bool.false_eq_true, if_false] at hm)
            have hr := HR2.out
            rw [hm] at hr
            go_wp2_with fail
            go_meet
            exact ⟨lits, (ql, true), HAQ.out, by simp only; omega, hr⟩
  case rest =>
    obtain ⟨lits, q, hat, hql, hr⟩ := hcut
    obtain ⟨ql, qb⟩ := q
    have htk := ris_any g (ql, qb) 115 [46] (wc.drew) (hat.below (wy := wc.drew) (Below.refl _ _).drew).rt.pw (by omega)
    have hr := hr.out
    unfold finR at hr
    simp only at hr
    obtain ⟨c1', z1⟩ := hat.rt.pw.c2
    simp only at c1'
    have h24 := hat.h4
    have hgw4 : g ≠ w.heap.size := by omega
    have hgb4 : g ≠ b4 := by have := hat.rt.hg; omega
    have HAT := Lib.hid hat; have HTK := Lib.hid htk
    have HX := Lib.hid (fun (x : World) (_ : True) => trivial)
    have hS : True := trivial
    clear hat htk
    cases qb
    · simp only [Bool.false_eq_true, if_false] at hr
      have HR4 := Lib.hid hr; clear hr
      generalize ris (ql, false) 115 [46] = d at *
      obtain ⟨d1, d2⟩ := d
      obtain ⟨dl, db⟩ := d2
      simp only at HTK HR4
      go_wp2_with fail
      refine wpH_region (fun _ => True) (by kernel_rfl) ?_
      (refine tkW 0 (v := ?_) hS ?_ ?_; rotate_left; (focus (intro x hx; have fx := HX.out x hx; go_simp; (try with_reducible rfl); done)); (try simp only [Act.put, lsa, lsz, lss]))
      (refine tkW 1 (v := ?_) hS ?_ ?_; rotate_left; (focus (intro x hx; have fx := HX.out x hx; go_simp; (try with_reducible rfl); done)); (try simp only [Act.put, lsa, lsz, lss]))
      (refine tkW 2 (v := ?_) hS ?_ ?_; rotate_left; (focus (intro x hx; have fx := HX.out x hx; go_simp; (try with_reducible rfl); done)); (try simp only [Act.put, lsa, lsz, lss]))
      (refine tkW 3 (v := ?_) hS ?_ ?_; rotate_left; (focus (intro x hx; have fx := HX.out x hx; go_simp; (try with_reducible rfl); done)); (try simp only [Act.put, lsa, lsz, lss]))
      (refine wpAnyH_one 4 (by kernel_rfl) rfl ?_; intro K' hK'; go_simp; refine hK'.out _ _ trivial ?_; clear hK' K')
      (refine tkW 5 (v := ?_) hS ?_ ?_; rotate_left; (focus (intro x hx; have fx := HX.out x hx; go_simp; (try with_reducible rfl); done)); (try simp only [Act.put, lsa, lsz, lss]))
      (refine tkW 6 (v := ?_) hS ?_ ?_; rotate_left; (focus (intro x hx; have fx := HX.out x hx; go_simp; (try with_reducible rfl); done)); (try simp only [Act.put, lsa, lsz, lss]))
      refine wpAnyH_one 7 (by kernel_rfl) rfl ?_
      intro K' hK'
      go_simp
      refine HTK.out.mono ?_
      rintro e w5 ⟨rfl, hw5, hf5⟩
      have hat5 := (HAT.out.below (wy := wc.drew) (Below.refl _ _).drew).call hw5 hf5
      refine hK'.out _ _ trivial ?_
      clear hK' K' hw5 hf5 c1' z1
      obtain ⟨c1', z1⟩ := hat5.rt.pw.c2
      simp only at c1'
      have HAT5 := Lib.hid hat5
      cases d1
      · have HR4 : Hid (R = (⟨⟨nm, args⟩, lits⟩, (dl, true))) := HR4
        clear hat5
        (refine tkW 8 (v := ?_) hS ?_ ?_; rotate_left; (focus (intro x hx; have fx := HX.out x hx; go_simp; (try with_reducible rfl); done)); (try simp only [Act.put, lsa, lsz, lss]))
        (refine tkW 9 (v := ?_) hS ?_ ?_; rotate_left; (focus (intro x hx; have fx := HX.out x hx; go_simp; (try with_reducible rfl); done)); (try simp only [Act.put, lsa, lsz, lss]))
        (refine tkW 10 (v := ?_) hS ?_ ?_; rotate_left; (focus (intro x hx; have fx := HX.out x hx; go_simp; (try with_reducible rfl); done)); (try simp only [Act.put, lsa, lsz, lss]))
        (refine tkU 11 hS ?_; (try simp only [Act.put, lsa, lsz, lss]))
        (refine tkU 12 hS ?_; (try simp only [Act.put, lsa, lsz, lss]))
        (refine tkU 13 hS ?_; (try simp only [Act.put, lsa, lsz, lss]))
        (refine tkU 14 hS ?_; (try simp only [Act.put, lsa, lsz, lss]))
        (refine tkU 15 hS ?_; (try simp only [Act.put, lsa, lsz, lss]))
        (refine tkU 16 hS ?_; (try simp only [Act.put, lsa, lsz, lss]))
        (refine tkU 17 hS ?_; (try simp only [Act.put, lsa, lsz, lss]))
        (refine tkU 18 hS ?_; (try simp only [Act.put, lsa, lsz, lss]))
        (refine tkU 19 hS ?_; (try simp only [Act.put, lsa, lsz, lss]))
        (refine tkU 20 hS ?_; (try simp only [Act.put, lsa, lsz, lss]))
        (refine tkW 21 (v := ?_) hS ?_ ?_; rotate_left; (focus (intro x hx; have fx := HX.out x hx; go_simp; (try with_reducible rfl); done)); (try simp only [Act.put, lsa, lsz, lss]))
        (refine tkW 22 (v := ?_) hS ?_ ?_; rotate_left; (focus (intro x hx; have fx := HX.out x hx; go_simp; (try with_reducible rfl); done)); (try simp only [Act.put, lsa, lsz, lss]))
        (refine tkU 23 hS ?_; (try simp only [Act.put, lsa, lsz, lss]))
        (refine tkU 24 hS ?_; (try simp only [Act.put, lsa, lsz, lss]))
        (refine tkU 25 hS ?_; (try simp only [Act.put, lsa, lsz, lss]))
        (refine tkW 26 (v := ?_) hS ?_ ?_; rotate_left; (focus (intro x hx; have fx := HX.out x hx; go_simp; (try with_reducible rfl); done)); (try simp only [Act.put, lsa, lsz, lss]))
        (refine tkW 27 (v := ?_) hS ?_ ?_; rotate_left; (focus (intro x hx; have fx := HX.out x hx; go_simp; (try with_reducible rfl); done)); (try simp only [Act.put, lsa, lsz, lss]))
        (refine tkW 28 (v := ?_) hS ?_ ?_; rotate_left; (focus (intro x hx; have fx := HX.out x hx; go_simp; (try with_reducible rfl); done)); (try simp only [Act.put, lsa, lsz, lss]))
        (refine wpAnyH_one 29 (by kernel_rfl) rfl ?_; intro K' hK'; go_simp; refine hK'.out _ _ trivial ?_; clear hK' K')
        refine wpAnyH_done (by kernel_rfl) ?_ _
        have hat7 := (HAT5.out.call (HAT5.out.rt.pw.bad (true)) ((Frm.refl (MG g) w5).setCell (p := ⟨g, 2, none⟩) (fun _ => rfl) _)).below (wy := (w5.setCell ⟨g, 2, none⟩ (.bool (true)))) (Below.refl _ _)
        obtain ⟨A, c, hb, ho⟩ := hat7.own
        have hres := hat7.rt.res
        have hX7 : (w5.setCell ⟨g, 2, none⟩ (.bool (true))).heap.size = (w5.setCell ⟨g, 2, none⟩ (.bool (true))).heap.size := rfl
        generalize (w5.setCell ⟨g, 2, none⟩ (.bool (true))) = X7 at *
        have k0 := (cell_blk hb 0).trans rfl; have k1 := (cell_blk hb 1).trans rfl; have k2 := (cell_blk hb 2).trans rfl
        have r0 := (cell_blk hres 0).trans rfl; have r1 := (cell_blk hres 1).trans rfl; have r2 := (cell_blk hres 2).trans rfl
        have y0 := frz_blk hres 0; have y1 := frz_blk hres 1; have y2 := frz_blk hres 2
        have HA7 := Lib.hid hat7; have HRES := Lib.hid hres; have HO := Lib.hid ho
        clear hat7 hb ho hres hX7
        go_wp2_with fail
        have hRF := Blk.set _ (Blk.set _ (Blk.set _ HRES.out 0 (.string ⟨nm.toArray⟩)) 1 (.slice A1 n1 c1)) 2 (.slice A lits.length c)
        have q0 := (cell_blk hRF 0).trans rfl; have q1 := (cell_blk hRF 1).trans rfl; have q2 := (cell_blk hRF 2).trans rfl
        refine bodyPost_ret (v := .agg #[.string ⟨nm.toArray⟩, .slice A1 n1 c1, .slice A lits.length c]) (by simp [results, Tryz.results34, go_sem, q0, q1, q2]) rfl ?_
        unfold URPost
        rw [HR4.out]
        have hpf := ((HA7.out.rt.pf.set (Nat.le_refl _) 0 (.string ⟨nm.toArray⟩)).set (Nat.le_refl _) 1 (.slice A1 n1 c1)).set (Nat.le_refl _) 2 (.slice A lits.length c)
        have hk : ∀ k, w.heap.size < k → (((X7.setCell ⟨w.heap.size, 0, none⟩ (.string ⟨nm.toArray⟩)).setCell ⟨w.heap.size, 1, none⟩ (.slice A1 n1 c1)).setCell ⟨w.heap.size, 2, none⟩ (.slice A lits.length c)).heap[k]? = X7.heap[k]? := fun k hk => (set_other _ _ _ _ _ (by omega)).trans ((set_other _ _ _ _ _ (by omega)).trans (set_other _ _ _ _ _ (by omega)))
        refine ⟨⟨A1, n1, c1, A, lits.length, c, rfl, (HA7.out.head.keep (fun k _ hs => hk k hs.1)).wide (fun k _ hs => by omega) (by decide), ((HO.out.sl (by decide)).keep (fun k _ hs => hk k ?_)).wide (fun k _ hs => ?_) (by decide)⟩, hpf.pw, hpf.frm, HA7.out.ok⟩
        · rcases hs with hs | hs
          · omega
          · have := (HO.out.lt k hs).1; omega
        · rcases hs with hs | hs
          · omega
          · have := (HO.out.lt k hs).1; omega
      · obtain ⟨Ap, cp, L, pos, hpb, hps, hpl, hpd, -, hpn, -⟩ := hat5.rt.pw
        have d0 := (cell_blk hpb 0).trans rfl; have d1 := (cell_blk hpb 1).trans rfl
        simp only at hpd
        clear hat5 hps hpb
        (refine tkW 8 (v := ?_) hS ?_ ?_; rotate_left; (focus (intro x hx; have fx := HX.out x hx; go_simp; (try with_reducible rfl); done)); (try simp only [Act.put, lsa, lsz, lss]))
        (refine tkW 9 (v := ?_) hS ?_ ?_; rotate_left; (focus (intro x hx; have fx := HX.out x hx; go_simp; (try with_reducible rfl); done)); (try simp only [Act.put, lsa, lsz, lss]))
        (refine tkW 10 (v := ?_) hS ?_ ?_; rotate_left; (focus (intro x hx; have fx := HX.out x hx; go_simp; (try with_reducible rfl); done)); (try simp only [Act.put, lsa, lsz, lss]))
        (refine tkW 11 (v := ?_) hS ?_ ?_; rotate_left; (focus (intro x hx; have fx := HX.out x hx; go_simp; (try with_reducible rfl); done)); (try simp only [Act.put, lsa, lsz, lss]))
        (refine tkW 12 (v := ?_) hS ?_ ?_; rotate_left; (focus (intro x hx; have fx := HX.out x hx; go_simp; (try with_reducible rfl); done)); (try simp only [Act.put, lsa, lsz, lss]))
        (refine tkW 13 (v := ?_) hS ?_ ?_; rotate_left; (focus (intro x hx; have fx := HX.out x hx; go_simp; (try with_reducible rfl); done)); (try simp only [Act.put, lsa, lsz, lss]))
        (refine tkW 15 (v := ?_) hS ?_ ?_; rotate_left; (focus (intro x hx; have fx := HX.out x hx; go_simp; (try with_reducible rfl); done)); (try simp only [Act.put, lsa, lsz, lss]))
        (refine tkW 16 (v := ?_) hS ?_ ?_; rotate_left; (focus (intro x hx; have fx := HX.out x hx; go_simp; (try with_reducible rfl); done)); (try simp only [Act.put, lsa, lsz, lss]))
        (refine tkW 17 (v := ?_) hS ?_ ?_; rotate_left; (focus (intro x hx; have fx := HX.out x hx; go_simp; (try with_reducible rfl); done)); (try simp only [Act.put, lsa, lsz, lss]))
        by_cases hpe : pos = L.length
        · have hpe2 : ((pos : Int) == (L.length : Int)) = true := by simp [hpe]
          have hpe3 : (pos : Int) = (L.length : Int) := by omega
          have hde : dl.isEmpty = true := by rw [hpd, List.drop_of_length_le (by omega)]; rfl
          rw [hde] at HR4
          have HR4 : Hid (R = (⟨⟨nm, args⟩, lits⟩, (dl, !ruleS ⟨⟨nm, args⟩, lits⟩))) := HR4
          have hfr := fun w S (h1 : Sl w S A1 n1 c1 args) (A2 : Option Addr) (n2 c2 : Nat) (h2 : Sl w S A2 n2 c2 lits) => rrule_any ⟨⟨nm, args⟩, lits⟩ A1 n1 c1 A2 n2 c2 w S h1 h2 HAT5.out.ok
          generalize ruleS ⟨⟨nm, args⟩, lits⟩ = vr at *
          have HFR := Lib.hid hfr; clear hfr
          obtain ⟨A, c, hb, ho⟩ := HAT5.out.own
          have k0 := (cell_blk hb 0).trans rfl; have k1 := (cell_blk hb 1).trans rfl; have k2 := (cell_blk hb 2).trans rfl
          have HO := Lib.hid ho; clear hb ho
          refine wpAnyH_two 14 18 (by kernel_rfl) rfl rfl ?le1 ?le2
          case' le1 =>
            intro K' hK'
            go_simp
            refine hK'.out _ _ trivial ?_
            clear hK' K'
            (refine wpAnyH_one 18 (by kernel_rfl) rfl ?_; intro K' hK'; go_simp; refine hK'.out _ _ trivial ?_; clear hK' K')
            (refine tkW 19 (v := ?_) hS ?_ ?_; rotate_left; (focus (intro x hx; have fx := HX.out x hx; go_simp; (try with_reducible rfl); done)); (try simp only [Act.put, lsa, lsz, lss]))
          case' le2 =>
            intro K' hK'
            go_simp
            refine hK'.out _ _ trivial ?_
            clear hK' K'
            (refine tkW 19 (v := ?_) hS ?_ ?_; rotate_left; (focus (intro x hx; have fx := HX.out x hx; go_simp; (try with_reducible rfl); done)); (try simp only [Act.put, lsa, lsz, lss]))
            (refine wpAnyH_one 14 (by kernel_rfl) rfl ?_; intro K' hK'; go_simp; refine hK'.out _ _ trivial ?_; clear hK' K')
          all_goals
            (refine tkW 20 (v := ?_) hS ?_ ?_; rotate_left; (focus (intro x hx; have fx := HX.out x hx; go_simp; (try with_reducible rfl); done)); (try simp only [Act.put, lsa, lsz, lss]))
            (refine tkW 21 (v := ?_) hS ?_ ?_; rotate_left; (focus (intro x hx; have fx := HX.out x hx; go_simp; (try with_reducible rfl); done)); (try simp only [Act.put, lsa, lsz, lss]))
            (refine tkW 22 (v := ?_) hS ?_ ?_; rotate_left; (focus (intro x hx; have fx := HX.out x hx; go_simp; (try with_reducible rfl); done)); (try simp only [Act.put, lsa, lsz, lss]))
            (refine wpAnyH_one 23 (by kernel_rfl) rfl ?_; intro K' hK'; go_simp; refine hK'.out _ _ trivial ?_; clear hK' K')
            refine wpAnyH_one 24 (by kernel_rfl) rfl ?_
            intro K' hK'
            go_simp
            refine (HFR.out _ (fun _ => True) (HAT5.out.head.any) A lits.length c ((HO.out.sl (by decide)).any)).mono ?_
            rintro e w6 ⟨rfl, hb6⟩
            have hat6 := HAT5.out.below hb6
            refine hK'.out _ _ trivial ?_
            clear hK' K' hb6 c1' z1 d0 d1 k0 k1 k2
            obtain ⟨c1', z1⟩ := hat6.rt.pw.c2
            simp only at c1'
            have HAT6 := Lib.hid hat6; clear hat6 HO HFR
            (refine tkW 25 (v := ?_) hS ?_ ?_; rotate_left; (focus (intro x hx; have fx := HX.out x hx; go_simp; (try with_reducible rfl); done)); (try simp only [Act.put, lsa, lsz, lss]))
            (refine tkW 26 (v := ?_) hS ?_ ?_; rotate_left; (focus (intro x hx; have fx := HX.out x hx; go_simp; (try with_reducible rfl); done)); (try simp only [Act.put, lsa, lsz, lss]))
            (refine tkW 27 (v := ?_) hS ?_ ?_; rotate_left; (focus (intro x hx; have fx := HX.out x hx; go_simp; (try with_reducible rfl); done)); (try simp only [Act.put, lsa, lsz, lss]))
            (refine tkW 28 (v := ?_) hS ?_ ?_; rotate_left; (focus (intro x hx; have fx := HX.out x hx; go_simp; (try with_reducible rfl); done)); (try simp only [Act.put, lsa, lsz, lss]))
            (refine wpAnyH_one 29 (by kernel_rfl) rfl ?_; intro K' hK'; go_simp; refine hK'.out _ _ trivial ?_; clear hK' K')
            refine wpAnyH_done (by kernel_rfl) ?_ _
            have hat7 := (HAT6.out.call (HAT6.out.rt.pw.bad (!vr)) ((Frm.refl (MG g) w6).setCell (p := ⟨g, 2, none⟩) (fun _ => rfl) _)).below (wy := (w6.setCell ⟨g, 2, none⟩ (.bool (!vr)))) (Below.refl _ _)
            obtain ⟨A, c, hb, ho⟩ := hat7.own
            have hres := hat7.rt.res
            have hX7 : (w6.setCell ⟨g, 2, none⟩ (.bool (!vr))).heap.size = (w6.setCell ⟨g, 2, none⟩ (.bool (!vr))).heap.size := rfl
            generalize (w6.setCell ⟨g, 2, none⟩ (.bool (!vr))) = X7 at *
            have k0 := (cell_blk hb 0).trans rfl; have k1 := (cell_blk hb 1).trans rfl; have k2 := (cell_blk hb 2).trans rfl
            have r0 := (cell_blk hres 0).trans rfl; have r1 := (cell_blk hres 1).trans rfl; have r2 := (cell_blk hres 2).trans rfl
            have y0 := frz_blk hres 0; have y1 := frz_blk hres 1; have y2 := frz_blk hres 2
            have HA7 := Lib.hid hat7; have HRES := Lib.hid hres; have HO := Lib.hid ho
            clear hat7 hb ho hres hX7
            go_wp2_with fail
            have hRF := Blk.set _ (Blk.set _ (Blk.set _ HRES.out 0 (.string ⟨nm.toArray⟩)) 1 (.slice A1 n1 c1)) 2 (.slice A lits.length c)
            have q0 := (cell_blk hRF 0).trans rfl; have q1 := (cell_blk hRF 1).trans rfl; have q2 := (cell_blk hRF 2).trans rfl
            refine bodyPost_ret (v := .agg #[.string ⟨nm.toArray⟩, .slice A1 n1 c1, .slice A lits.length c]) (by simp [results, Tryz.results34, go_sem, q0, q1, q2]) rfl ?_
            unfold URPost
            rw [HR4.out]
            have hpf := ((HA7.out.rt.pf.set (Nat.le_refl _) 0 (.string ⟨nm.toArray⟩)).set (Nat.le_refl _) 1 (.slice A1 n1 c1)).set (Nat.le_refl _) 2 (.slice A lits.length c)
            have hk : ∀ k, w.heap.size < k → (((X7.setCell ⟨w.heap.size, 0, none⟩ (.string ⟨nm.toArray⟩)).setCell ⟨w.heap.size, 1, none⟩ (.slice A1 n1 c1)).setCell ⟨w.heap.size, 2, none⟩ (.slice A lits.length c)).heap[k]? = X7.heap[k]? := fun k hk => (set_other _ _ _ _ _ (by omega)).trans ((set_other _ _ _ _ _ (by omega)).trans (set_other _ _ _ _ _ (by omega)))
            refine ⟨⟨A1, n1, c1, A, lits.length, c, rfl, (HA7.out.head.keep (fun k _ hs => hk k hs.1)).wide (fun k _ hs => by omega) (by decide), ((HO.out.sl (by decide)).keep (fun k _ hs => hk k ?_)).wide (fun k _ hs => ?_) (by decide)⟩, hpf.pw, hpf.frm, HA7.out.ok⟩
            · rcases hs with hs | hs
              · omega
              · have := (HO.out.lt k hs).1; omega
            · rcases hs with hs | hs
              · omega
              · have := (HO.out.lt k hs).1; omega
        · have hpe2 : ((pos : Int) == (L.length : Int)) = false := by rw [beq_eq_false_iff_ne]; omega
          have hpe3 : ¬ (pos : Int) = (L.length : Int) := by omega
          have hpe4 : ((pos : Int) != (L.length : Int)) = true := by rw [bne_iff_ne]; omega
          have hde : dl.isEmpty = false := by
            rw [hpd, List.drop_eq_getElem_cons (show pos < L.length by omega)]; rfl
          rw [hde] at HR4
          have HR4 : Hid (R = (⟨⟨nm, args⟩, lits⟩, (dl, true))) := HR4
          refine wpAnyH_two 14 18 (by kernel_rfl) rfl rfl ?ld1 ?ld2
          case' ld1 =>
            intro K' hK'
            go_simp
            refine hK'.out _ _ trivial ?_
            clear hK' K'
            (refine wpAnyH_one 18 (by kernel_rfl) rfl ?_; intro K' hK'; go_simp; refine hK'.out _ _ trivial ?_; clear hK' K')
            (refine tkW 19 (v := ?_) hS ?_ ?_; rotate_left; (focus (intro x hx; have fx := HX.out x hx; go_simp; (try with_reducible rfl); done)); (try simp only [Act.put, lsa, lsz, lss]))
          case' ld2 =>
            intro K' hK'
            go_simp
            refine hK'.out _ _ trivial ?_
            clear hK' K'
            (refine tkW 19 (v := ?_) hS ?_ ?_; rotate_left; (focus (intro x hx; have fx := HX.out x hx; go_simp; (try with_reducible rfl); done)); (try simp only [Act.put, lsa, lsz, lss]))
            (refine wpAnyH_one 14 (by kernel_rfl) rfl ?_; intro K' hK'; go_simp; refine hK'.out _ _ trivial ?_; clear hK' K')
          all_goals
            (refine tkW 20 (v := ?_) hS ?_ ?_; rotate_left; (focus (intro x hx; have fx := HX.out x hx; go_simp; (try with_reducible rfl); done)); (try simp only [Act.put, lsa, lsz, lss]))
            (try simp only [hpe4])
            (refine tkW 21 (v := ?_) hS ?_ ?_; rotate_left; (focus (intro x hx; have fx := HX.out x hx; go_simp; (try with_reducible rfl); done)); (try simp only [Act.put, lsa, lsz, lss]))
            (refine tkW 22 (v := ?_) hS ?_ ?_; rotate_left; (focus (intro x hx; have fx := HX.out x hx; go_simp; (try with_reducible rfl); done)); (try simp only [Act.put, lsa, lsz, lss]))
            (refine tkU 23 hS ?_; (try simp only [Act.put, lsa, lsz, lss]))
            (refine tkU 24 hS ?_; (try simp only [Act.put, lsa, lsz, lss]))
            (refine tkU 25 hS ?_; (try simp only [Act.put, lsa, lsz, lss]))
            (refine tkW 26 (v := ?_) hS ?_ ?_; rotate_left; (focus (intro x hx; have fx := HX.out x hx; go_simp; (try with_reducible rfl); done)); (try simp only [Act.put, lsa, lsz, lss]))
            (refine tkW 27 (v := ?_) hS ?_ ?_; rotate_left; (focus (intro x hx; have fx := HX.out x hx; go_simp; (try with_reducible rfl); done)); (try simp only [Act.put, lsa, lsz, lss]))
            (refine tkW 28 (v := ?_) hS ?_ ?_; rotate_left; (focus (intro x hx; have fx := HX.out x hx; go_simp; (try with_reducible rfl); done)); (try simp only [Act.put, lsa, lsz, lss]))
            (refine wpAnyH_one 29 (by kernel_rfl) rfl ?_; intro K' hK'; go_simp; refine hK'.out _ _ trivial ?_; clear hK' K')
            refine wpAnyH_done (by kernel_rfl) ?_ _
            have hat7 := (HAT5.out.call (HAT5.out.rt.pw.bad (true)) ((Frm.refl (MG g) w5).setCell (p := ⟨g, 2, none⟩) (fun _ => rfl) _)).below (wy := (w5.setCell ⟨g, 2, none⟩ (.bool (true)))) (Below.refl _ _)
            obtain ⟨A, c, hb, ho⟩ := hat7.own
            have hres := hat7.rt.res
            have hX7 : (w5.setCell ⟨g, 2, none⟩ (.bool (true))).heap.size = (w5.setCell ⟨g, 2, none⟩ (.bool (true))).heap.size := rfl
            generalize (w5.setCell ⟨g, 2, none⟩ (.bool (true))) = X7 at *
            have k0 := (cell_blk hb 0).trans rfl; have k1 := (cell_blk hb 1).trans rfl; have k2 := (cell_blk hb 2).trans rfl
            have r0 := (cell_blk hres 0).trans rfl; have r1 := (cell_blk hres 1).trans rfl; have r2 := (cell_blk hres 2).trans rfl
            have y0 := frz_blk hres 0; have y1 := frz_blk hres 1; have y2 := frz_blk hres 2
            have HA7 := Lib.hid hat7; have HRES := Lib.hid hres; have HO := Lib.hid ho
            clear hat7 hb ho hres hX7
            go_wp2_with fail
            have hRF := Blk.set _ (Blk.set _ (Blk.set _ HRES.out 0 (.string ⟨nm.toArray⟩)) 1 (.slice A1 n1 c1)) 2 (.slice A lits.length c)
            have q0 := (cell_blk hRF 0).trans rfl; have q1 := (cell_blk hRF 1).trans rfl; have q2 := (cell_blk hRF 2).trans rfl
            refine bodyPost_ret (v := .agg #[.string ⟨nm.toArray⟩, .slice A1 n1 c1, .slice A lits.length c]) (by simp [results, Tryz.results34, go_sem, q0, q1, q2]) rfl ?_
            unfold URPost
            rw [HR4.out]
            have hpf := ((HA7.out.rt.pf.set (Nat.le_refl _) 0 (.string ⟨nm.toArray⟩)).set (Nat.le_refl _) 1 (.slice A1 n1 c1)).set (Nat.le_refl _) 2 (.slice A lits.length c)
            have hk : ∀ k, w.heap.size < k → (((X7.setCell ⟨w.heap.size, 0, none⟩ (.string ⟨nm.toArray⟩)).setCell ⟨w.heap.size, 1, none⟩ (.slice A1 n1 c1)).setCell ⟨w.heap.size, 2, none⟩ (.slice A lits.length c)).heap[k]? = X7.heap[k]? := fun k hk => (set_other _ _ _ _ _ (by omega)).trans ((set_other _ _ _ _ _ (by omega)).trans (set_other _ _ _ _ _ (by omega)))
            refine ⟨⟨A1, n1, c1, A, lits.length, c, rfl, (HA7.out.head.keep (fun k _ hs => hk k hs.1)).wide (fun k _ hs => by omega) (by decide), ((HO.out.sl (by decide)).keep (fun k _ hs => hk k ?_)).wide (fun k _ hs => ?_) (by decide)⟩, hpf.pw, hpf.frm, HA7.out.ok⟩
            · rcases hs with hs | hs
              · omega
              · have := (HO.out.lt k hs).1; omega
            · rcases hs with hs | hs
              · omega
              · have := (HO.out.lt k hs).1; omega
    · simp only [if_true] at hr
      have HR4 := Lib.hid hr; clear hr
      go_wp2_with fail
      refine wpH_region (fun _ => True) (by kernel_rfl) ?_
      (refine tkW 0 (v := ?_) hS ?_ ?_; rotate_left; (focus (intro x hx; have fx := HX.out x hx; go_simp; (try with_reducible rfl); done)); (try simp only [Act.put, lsa, lsz, lss]))
      (refine tkW 1 (v := ?_) hS ?_ ?_; rotate_left; (focus (intro x hx; have fx := HX.out x hx; go_simp; (try with_reducible rfl); done)); (try simp only [Act.put, lsa, lsz, lss]))
      (refine tkW 2 (v := ?_) hS ?_ ?_; rotate_left; (focus (intro x hx; have fx := HX.out x hx; go_simp; (try with_reducible rfl); done)); (try simp only [Act.put, lsa, lsz, lss]))
      (refine tkW 3 (v := ?_) hS ?_ ?_; rotate_left; (focus (intro x hx; have fx := HX.out x hx; go_simp; (try with_reducible rfl); done)); (try simp only [Act.put, lsa, lsz, lss]))
      (refine wpAnyH_one 4 (by kernel_rfl) rfl ?_; intro K' hK'; go_simp; refine hK'.out _ _ trivial ?_; clear hK' K')
      (refine tkW 5 (v := ?_) hS ?_ ?_; rotate_left; (focus (intro x hx; have fx := HX.out x hx; go_simp; (try with_reducible rfl); done)); (try simp only [Act.put, lsa, lsz, lss]))
      (refine tkU 6 hS ?_; (try simp only [Act.put, lsa, lsz, lss]))
      (refine tkU 7 hS ?_; (try simp only [Act.put, lsa, lsz, lss]))
      (refine tkU 8 hS ?_; (try simp only [Act.put, lsa, lsz, lss]))
      (refine tkW 9 (v := ?_) hS ?_ ?_; rotate_left; (focus (intro x hx; have fx := HX.out x hx; go_simp; (try with_reducible rfl); done)); (try simp only [Act.put, lsa, lsz, lss]))
      (refine tkW 10 (v := ?_) hS ?_ ?_; rotate_left; (focus (intro x hx; have fx := HX.out x hx; go_simp; (try with_reducible rfl); done)); (try simp only [Act.put, lsa, lsz, lss]))
      (refine tkU 11 hS ?_; (try simp only [Act.put, lsa, lsz, lss]))
      (refine tkU 12 hS ?_; (try simp only [Act.put, lsa, lsz, lss]))
      (refine tkU 13 hS ?_; (try simp only [Act.put, lsa, lsz, lss]))
      (refine tkU 14 hS ?_; (try simp only [Act.put, lsa, lsz, lss]))
      (refine tkU 15 hS ?_; (try simp only [Act.put, lsa, lsz, lss]))
      (refine tkU 16 hS ?_; (try simp only [Act.put, lsa, lsz, lss]))
      (refine tkU 17 hS ?_; (try simp only [Act.put, lsa, lsz, lss]))
      (refine tkU 18 hS ?_; (try simp only [Act.put, lsa, lsz, lss]))
      (refine tkU 19 hS ?_; (try simp only [Act.put, lsa, lsz, lss]))
      (refine tkU 20 hS ?_; (try simp only [Act.put, lsa, lsz, lss]))
      (refine tkW 21 (v := ?_) hS ?_ ?_; rotate_left; (focus (intro x hx; have fx := HX.out x hx; go_simp; (try with_reducible rfl); done)); (try simp only [Act.put, lsa, lsz, lss]))
      (refine tkW 22 (v := ?_) hS ?_ ?_; rotate_left; (focus (intro x hx; have fx := HX.out x hx; go_simp; (try with_reducible rfl); done)); (try simp only [Act.put, lsa, lsz, lss]))
      (refine tkU 23 hS ?_; (try simp only [Act.put, lsa, lsz, lss]))
      (refine tkU 24 hS ?_; (try simp only [Act.put, lsa, lsz, lss]))
      (refine tkU 25 hS ?_; (try simp only [Act.put, lsa, lsz, lss]))
      (refine tkW 26 (v := ?_) hS ?_ ?_; rotate_left; (focus (intro x hx; have fx := HX.out x hx; go_simp; (try with_reducible rfl); done)); (try simp only [Act.put, lsa, lsz, lss]))
      (refine tkW 27 (v := ?_) hS ?_ ?_; rotate_left; (focus (intro x hx; have fx := HX.out x hx; go_simp; (try with_reducible rfl); done)); (try simp only [Act.put, lsa, lsz, lss]))
      (refine tkW 28 (v := ?_) hS ?_ ?_; rotate_left; (focus (intro x hx; have fx := HX.out x hx; go_simp; (try with_reducible rfl); done)); (try simp only [Act.put, lsa, lsz, lss]))
      (refine wpAnyH_one 29 (by kernel_rfl) rfl ?_; intro K' hK'; go_simp; refine hK'.out _ _ trivial ?_; clear hK' K')
      refine wpAnyH_done (by kernel_rfl) ?_ _
      have hat7 := (HAT.out.call (HAT.out.rt.pw.bad (true)) ((Frm.refl (MG g) wc).setCell (p := ⟨g, 2, none⟩) (fun _ => rfl) _)).below (wy := (wc.setCell ⟨g, 2, none⟩ (.bool (true))).drew) (Below.refl _ _).drew
      obtain ⟨A, c, hb, ho⟩ := hat7.own
      have hres := hat7.rt.res
      have hX7 : (wc.setCell ⟨g, 2, none⟩ (.bool (true))).drew.heap.size = (wc.setCell ⟨g, 2, none⟩ (.bool (true))).drew.heap.size := rfl
      generalize (wc.setCell ⟨g, 2, none⟩ (.bool (true))).drew = X7 at *
      have k0 := (cell_blk hb 0).trans rfl; have k1 := (cell_blk hb 1).trans rfl; have k2 := (cell_blk hb 2).trans rfl
      have r0 := (cell_blk hres 0).trans rfl; have r1 := (cell_blk hres 1).trans rfl; have r2 := (cell_blk hres 2).trans rfl
      have y0 := frz_blk hres 0; have y1 := frz_blk hres 1; have y2 := frz_blk hres 2
      have HA7 := Lib.hid hat7; have HRES := Lib.hid hres; have HO := Lib.hid ho
      clear hat7 hb ho hres hX7
      go_wp2_with fail
      have hRF := Blk.set _ (Blk.set _ (Blk.set _ HRES.out 0 (.string ⟨nm.toArray⟩)) 1 (.slice A1 n1 c1)) 2 (.slice A lits.length c)
      have q0 := (cell_blk hRF 0).trans rfl; have q1 := (cell_blk hRF 1).trans rfl; have q2 := (cell_blk hRF 2).trans rfl
      refine bodyPost_ret (v := .agg #[.string ⟨nm.toArray⟩, .slice A1 n1 c1, .slice A lits.length c]) (by simp [results, Tryz.results34, go_sem, q0, q1, q2]) rfl ?_
      unfold URPost
      rw [HR4.out]
      have hpf := ((HA7.out.rt.pf.set (Nat.le_refl _) 0 (.string ⟨nm.toArray⟩)).set (Nat.le_refl _) 1 (.slice A1 n1 c1)).set (Nat.le_refl _) 2 (.slice A lits.length c)
      have hk : ∀ k, w.heap.size < k → (((X7.setCell ⟨w.heap.size, 0, none⟩ (.string ⟨nm.toArray⟩)).setCell ⟨w.heap.size, 1, none⟩ (.slice A1 n1 c1)).setCell ⟨w.heap.size, 2, none⟩ (.slice A lits.length c)).heap[k]? = X7.heap[k]? := fun k hk => (set_other _ _ _ _ _ (by omega)).trans ((set_other _ _ _ _ _ (by omega)).trans (set_other _ _ _ _ _ (by omega)))
      refine ⟨⟨A1, n1, c1, A, lits.length, c, rfl, (HA7.out.head.keep (fun k _ hs => hk k hs.1)).wide (fun k _ hs => by omega) (by decide), ((HO.out.sl (by decide)).keep (fun k _ hs => hk k ?_)).wide (fun k _ hs => ?_) (by decide)⟩, hpf.pw, hpf.frm, HA7.out.ok⟩
      · rcases hs with hs | hs
        · omega
        · have := (HO.out.lt k hs).1; omega
      · rcases hs with hs | hs
        · omega
        · have := (HO.out.lt k hs).1; omega
end Go.Proofs.YtkjoaodoioicpaaGreatDoor
