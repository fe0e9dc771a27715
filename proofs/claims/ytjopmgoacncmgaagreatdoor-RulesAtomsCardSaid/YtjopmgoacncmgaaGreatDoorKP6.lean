/- Rules: the parser's rule. -/
import Derived.Test.YtjopmgoacncmgaaGreatDoorKP5
import Derived.Test.YtjopmgoacncmgaaGreatDoorK9
set_option linter.unusedVariables false
set_option linter.unusedSimpArgs false
namespace Go.Proofs.YtjopmgoacncmgaaGreatDoor
open Go.RowKit

theorem nextS_le {p : KSt} : (nextS p).2.1.length ≤ p.1.length := nextS_len p
theorem atomP_len (p : KSt) : (atomP p).2.1.length ≤ p.1.length := by
  have key : ∀ (f : Nat) (p : KSt) (out : List Arg), (moreP f p out).2.1.length ≤ p.1.length := by
    intro f
    induction f with
    | zero => intro p out; exact Nat.le_refl _
    | succ f ih =>
      intro p out
      rw [moreP]
      split
      · have h1 := ih (argP (takeS p [44]).2).2 (out ++ [(argP (takeS p [44]).2).1])
        have h2 := argP_len (takeS p [44]).2
        have h3 := takeS_len p [44]
        exact Nat.le_trans h1 (Nat.le_trans h2 h3)
      · exact Nat.le_refl _
  unfold atomP
  have h1 := nextS_len p
  have h2 := takeS_len (nextS p).2 [40]
  simp only
  split
  · have h3 := argP_len (takeS (nextS p).2 [40]).2
    have h4 := key ((takeS (nextS p).2 [40]).2.1.length + 1) (argP (takeS (nextS p).2 [40]).2).2 [(argP (takeS (nextS p).2 [40]).2).1]
    generalize moreP _ _ _ = m at *
    split
    · simp only; omega
    · have h5 := takeS_len m.2 [41]
      simp only; omega
  · simp only; omega
theorem ltlP_len (p : KSt) : (ltlP p).2.1.length ≤ p.1.length := by
  unfold ltlP
  simp only
  split
  · have := atomP_len (nextS p).2
    have := nextS_len p
    simp only; omega
  · split
    · exact atomP_len p
    · have h1 := argP_len p
      have h2 := nextS_len (argP p).2
      have h3 := argP_len (nextS (argP p).2).2
      simp only; omega

/-- The rule that is being read lies in block b4; block b2 is for the result. -/
structure RuW (w wx : World) (g b2 b4 : Nat) (nm : Bs) (A1 : Option Addr) (n1 c1 : Nat) (args : List Arg) (lits : List Ltl) (p : KSt) : Prop where
  rt : RTW w wx g b2 #[.string ⟨#[]⟩, .slice none 0 0, .slice none 0 0] 48 p
  h4 : b2 < b4
  own : ∃ A c, wx.heap[b4]? = some (.cells #[.string ⟨nm.toArray⟩, .slice A1 n1 c1, .slice A lits.length c] 48 (0, 0)) ∧ Own wx (fun b => b4 < b) (b4 + 1) 54 A c lits
  head : Sl wx (fun b => b2 < b ∧ b < b4) A1 n1 c1 args
  ok : OkR ⟨⟨nm, args⟩, lits⟩
section
variable {w wx wy : World} {g b2 b4 : Nat} {nm : Bs} {A1 : Option Addr} {n1 c1 : Nat} {args : List Arg} {lits : List Ltl} {p q : KSt}
theorem RuW.same {A : Option Addr} {c : Nat} (h : RuW w wx g b2 b4 nm A1 n1 c1 args lits p) (hb : wx.heap[b4]? = some (.cells #[.string ⟨nm.toArray⟩, .slice A1 n1 c1, .slice A lits.length c] 48 (0, 0))) (ho : Own wx (fun b => b4 < b) (b4 + 1) 54 A c lits) (hf : Frm (MG g) wx wy) :
    wy.heap[b4]? = some (.cells #[.string ⟨nm.toArray⟩, .slice A1 n1 c1, .slice A lits.length c] 48 (0, 0)) ∧ Own wy (fun b => b4 < b) (b4 + 1) 54 A c lits := by
  have := h.rt.hg; have := h.rt.h2; have := h.h4
  exact ⟨(hf.block _ (Array.getElem?_eq_some_iff.1 hb).1 (fun e => by have : b4 = g := e; omega)).trans hb, ho.keep (fun k hk hs => hf.block k hk (fun e => by
      have e : k = g := e
      rcases hs with hs | hs
      · omega
      · have := (ho.lt k hs).1; omega))⟩
theorem RuW.call (h : RuW w wx g b2 b4 nm A1 n1 c1 args lits p) (hp : PW wy g q) (hf : Frm (MG g) wx wy) : RuW w wy g b2 b4 nm A1 n1 c1 args lits q := by
  obtain ⟨A, c, hb, ho⟩ := h.own
  have hs := h.same hb ho hf
  have := h.rt.hg; have := h.rt.h2
  exact ⟨h.rt.call hp hf, h.h4, ⟨A, c, hs⟩, h.head.keep (fun k hk hs => hf.block k hk (fun e => by have e : k = g := e; omega)), h.ok⟩
theorem RuW.below (h : RuW w wx g b2 b4 nm A1 n1 c1 args lits p) (hb : Below wx.heap.size wx wy) : RuW w wy g b2 b4 nm A1 n1 c1 args lits p := h.call (h.rt.pw.below hb) (Frm.any hb)
/-- A literal has been appended, and the list laid back. -/
theorem RuW.app {w6 : World} {A A' : Option Addr} {c c' : Nat} {x : Ltl} (h : RuW w wx g b2 b4 nm A1 n1 c1 args lits p)
    (hb : wx.heap[b4]? = some (.cells #[.string ⟨nm.toArray⟩, .slice A1 n1 c1, .slice A lits.length c] 48 (0, 0))) (ho : Own wx (fun b => b4 < b) (b4 + 1) 54 A c lits)
    (ho' : Own w6 (fun b => b4 < b) (b4 + 1) 54 A' c' (lits ++ [x])) (hgr : wx.grownBy w6 (A.map Addr.block)) (hx : OkL x) :
    RuW w (w6.setCell ⟨b4, 2, none⟩ (.slice A' (lits.length + 1) c')) g b2 b4 nm A1 n1 c1 args (lits ++ [x]) p := by
  have e1 := h.rt.hg; have e2 := h.rt.h2; have e3 := h.h4
  have hne : ∀ k, k ≤ b4 → A.map Addr.block ≠ some k := fun k hk e => by have := (ho.lt k e).1; omega
  have hk6 : ∀ k, k < wx.heap.size → k ≤ b4 → w6.heap[k]? = wx.heap[k]? := fun k hk hk3 => hgr.block k hk (fun e => hne k hk3 e.symm)
  have hlt4 := (Array.getElem?_eq_some_iff.1 hb).1
  have hb6 := (hk6 b4 hlt4 (Nat.le_refl _)).trans hb
  refine ⟨⟨h.rt.pw.keepG (fun k hk => (set_other _ _ _ _ _ (by omega)).trans (hk6 k (by have := h.rt.pw.lt; omega) (by omega))), e1, e2, (set_other _ _ _ _ _ (by omega)).trans ((hk6 b2 (by omega) (by omega)).trans h.rt.res), ?_⟩, e3, ?_, ?_, h.ok.1, ?_⟩
  · exact (h.rt.frm.grown hgr (fun k hk hkw => by have := (ho.lt k hk).1; omega)).setCell (p := ⟨b4, 2, none⟩) (fun hk => by have hk : b4 < w.heap.size := hk; omega) _
  · refine ⟨A', c', ?_, ho'.keep (fun k _ hs => set_other _ _ _ _ _ (fun e => by rcases hs with hs | hs; omega; have := (ho'.lt k hs).1; omega))⟩
    rw [Blk.set w6 hb6 2]
    simp
  · exact h.head.keep (fun k hk hs => (set_other _ _ _ _ _ (by omega)).trans (hk6 k hk (by omega)))
  · intro y hy
    rcases List.mem_append.1 hy with hy | hy
    · exact h.ok.2 y hy
    · rw [List.mem_singleton.1 hy]; exact hx
end
def UPost (w : World) (g : Nat) (r : Rul × Bool) (e : Ending) (w' : World) : Prop :=
  (∃ A1 n1 c1 A2 n2 c2, e = .returned (.tuple #[.agg #[.string ⟨r.1.head.name.toArray⟩, .slice A1 n1 c1, .slice A2 n2 c2], .bool r.2]) ∧ Sl w' (fun b => w.heap.size ≤ b) A1 n1 c1 r.1.head.args ∧ Sl w' (fun b => w.heap.size ≤ b) A2 n2 c2 r.1.body) ∧ Frm (MG g) w w' ∧ OkR r.1
def ltlC (x : Ltl) (A : Option Addr) (n c : Nat) : Array Value := #[.bool x.neg, .string ⟨x.op.toArray⟩, .string ⟨x.atom.name.toArray⟩, .slice A n c]

set_option maxRecDepth 100000 in
set_option maxHeartbeats 4000000 in
theorem rule_any (g : Nat) (p : KSt) (w : World) (h : PW w g p) (hN : p.1.length ≤ 1000000) :
    Calls Tryz.prog 43 #[.pointer (some ⟨g, 0, none⟩)] w (UPost w g (ruleP p)) := by
  have hgw := h.lt
  have hr0 : RTW w (w.alloc (.cells #[.string ⟨#[]⟩, .slice none 0 0, .slice none 0 0] 48)) g w.heap.size #[.string ⟨#[]⟩, .slice none 0 0, .slice none 0 0] 48 p :=
    ⟨h.alloc _, hgw, Nat.le_refl _, blkAt w _ rfl, (Frm.refl (MG g) w).alloc _⟩
  have hat := atom_any g p _ hr0.pw hN
  have hal := atomP_len p
  obtain ⟨R, hR⟩ : ∃ R, R = ruleP p := ⟨_, rfl⟩
  rw [← hR]
  unfold ruleP at hR
  generalize atomP p = x at *
  obtain ⟨⟨nm, args⟩, x2⟩ := x
  simp only at hal hR
  have hsz0 : (w.alloc (.cells #[.string ⟨#[]⟩, .slice none 0 0, .slice none 0 0] 48)).heap.size = w.heap.size + 1 := by simp
  have HSZ := Lib.hid hsz0; have HAT0 := Lib.hid hat; have HR := Lib.hid hR; have HR0 := Lib.hid hr0
  clear hsz0 hat hR hr0 h
  go_enter Tryz.func43, Tryz.ntmps43
  go_wp2_with fail
  refine HAT0.out.mono ?_
  rintro e w1 ⟨⟨A1, n1, c1, rfl, hsl1⟩, hw1, hf1, hok1⟩
  have hs1 := hf1.size
  rw [HSZ.out] at hs1 hsl1
  have hr1 := HR0.out.call hw1 hf1
  have hlen1 := hsl1.len
  simp only at hlen1 hok1 hsl1
  have hat : RuW w (w1.alloc (.cells #[.string ⟨nm.toArray⟩, .slice A1 n1 c1, .slice none 0 0] 48)) g w.heap.size w1.heap.size nm A1 n1 c1 args [] x2 :=
    ⟨hr1.below boxed, by omega, ⟨none, 0, blkAt w1 _ rfl, Own.nil _ _ _ _⟩, (hsl1.wide (S' := fun b => w.heap.size < b ∧ b < w1.heap.size) (fun k hk hs => ⟨by omega, hk⟩) (by decide)).alloc _, hok1, fun l hl => by cases hl⟩
  have hta := take_any g x2 [58, 45] _ hat.rt.pw rfl
  have htl := takeS_len x2 [58, 45]
  generalize takeS x2 [58, 45] = t at *
  obtain ⟨t1, t2⟩ := t
  simp only at hta htl
  generalize hb3 : w1.heap.size = b4 at *
  have HAT := Lib.hid hat; have HTA := Lib.hid hta; clear hat hta hw1 hf1 hsl1 hr1 hlen1 hok1
  go_wp2_with fail
  clear hb3
  refine HTA.out.mono ?_
  rintro e w2 ⟨rfl, hw2, hf2⟩
  have hat2 := HAT.out.call hw2 hf2
  have HAT2 := Lib.hid hat2; clear hat2 hw2 hf2 HAT HTA HAT0 HR0
  go_upto_if 10 with (fail)
  go_cut [] from 11 to 34 (fun wx => ∃ lits q, RuW w wx g w.heap.size b4 nm A1 n1 c1 args lits q ∧ q.1.length ≤ p.1.length ∧ Hid (R = ((⟨⟨nm, args⟩, lits⟩ : Rul), ((takeS q [46]).1 && (takeS q [46]).2.1.isEmpty && !(takeS q [46]).2.2) && ruleS ⟨⟨nm, args⟩, lits⟩)))
  case first =>
    cases t1
    · go_wp2_with fail
      go_meet
      exact ⟨[], t2, HAT2.out, by omega, HR.out⟩
    · have hr := HR.out
      simp only [if_true] at hr
      have hga := fun w h => literal_any g t2 w h (by omega)
      have hgl := ltlP_len t2
      generalize ltlP t2 = a1 at *
      obtain ⟨a1, p1⟩ := a1
      simp only at hgl hr
      obtain ⟨M, hM⟩ : ∃ M, M = moreL (t2.1.length + 1) p1 [a1] := ⟨_, rfl⟩
      rw [← hM] at hr
      have HMM := Lib.hid hM; clear hM
      have HR2 := Lib.hid hr; have HGA := Lib.hid hga
      clear hr hga
      have hD := HAT2.out.below (wy := w2.drew) (Below.refl _ _).drew
      obtain ⟨A, c, hb, ho⟩ := hD.own
      have hS : w2.drew.cell? ⟨b4, 2, none⟩ = some (.slice A 0 c) := (cell_blk hb 2).trans rfl
      have hcap := ho.cap
      have HD := Lib.hid hD; have HB := Lib.hid hb; have HO := Lib.hid ho; clear hD hb ho
      go_wp2_with fail
      refine wpY_region (fun x => x.cell? ⟨b4, 2, none⟩ = some (.slice A 0 c)) 7 (by kernel_rfl) ?_
      have HX := Lib.hid (fun (x : World) (hx : x.cell? ⟨b4, 2, none⟩ = some (.slice A 0 c)) => hx)
      (refine wpAnyY_takeW 0 rfl rfl (by kernel_rfl) (by kernel_rfl) (by kernel_rfl) (by kernel_rfl) (fun _ _ _ h => h) (v := ?_) (by kernel_rfl) hS ?_ ?_; rotate_left; (focus (intro x hx; have fx := HX.out x hx; go_simp; (try with_reducible rfl); done)); (try simp only [Act.put, List.setIfInBounds_toArray, List.set_cons_zero, List.set_cons_succ]))
      (refine wpAnyY_takeW 1 rfl rfl (by kernel_rfl) (by kernel_rfl) (by kernel_rfl) (by kernel_rfl) (fun _ _ _ h => h) (v := ?_) (by kernel_rfl) hS ?_ ?_; rotate_left; (focus (intro x hx; have fx := HX.out x hx; go_simp; (try with_reducible rfl); done)); (try simp only [Act.put, List.setIfInBounds_toArray, List.set_cons_zero, List.set_cons_succ]))
      (refine wpAnyY_takeW 2 rfl rfl (by kernel_rfl) (by kernel_rfl) (by kernel_rfl) (by kernel_rfl) (fun _ _ _ h => h) (v := ?_) (by kernel_rfl) hS ?_ ?_; rotate_left; (focus (intro x hx; have fx := HX.out x hx; go_simp; (try with_reducible rfl); done)); (try simp only [Act.put, List.setIfInBounds_toArray, List.set_cons_zero, List.set_cons_succ]))
      refine wpAnyY_one 3 (by kernel_rfl) rfl ?_
      intro K' hK'
      go_simp
      refine (HGA.out _ HD.out.rt.pw).mono ?_
      rintro e w3 ⟨⟨Al, nl, cl, rfl, hsl3⟩, hw3, hf3, hok3⟩
      have hat3 := HD.out.call hw3 hf3
      obtain ⟨hb3', ho3⟩ := HD.out.same HB.out HO.out hf3
      have hS3 : w3.cell? ⟨b4, 2, none⟩ = some (.slice A 0 c) := (cell_blk hb3' 2).trans rfl
      have hb4 := blkOld hb3' (.cells (ltlC a1 Al nl cl) 54)
      have hlt3 := (Array.getElem?_eq_some_iff.1 hb3').1
      have hsl4 : Sl (w3.alloc (.cells (ltlC a1 Al nl cl) 54)) (fun b => b4 < b ∧ A.map Addr.block ≠ some b) Al nl cl a1.atom.args := (hsl3.wide (fun k _ hk => ⟨by have := (Array.getElem?_eq_some_iff.1 HB.out).1; omega, fun e => by have := (HO.out.lt k e).2; omega⟩) (by decide)).alloc _
      have HAT4 := Lib.hid (hat3.below (wy := w3.alloc (.cells (ltlC a1 Al nl cl) 54)) boxed); have HB4 := Lib.hid hb4; have HO4 := Lib.hid (ho3.alloc (.cells (ltlC a1 Al nl cl) 54)); have HSL4 := Lib.hid hsl4; have HOK3 := Lib.hid hok3
      clear hw3 hf3 hat3 hb3' ho3 hb4 hsl3 hsl4 hok3
      refine hK'.out _ _ (fun _ => hS3) ?_
      clear hK' K'
      refine wpAnyY_one 4 (by kernel_rfl) rfl ?_
      intro K' hK'
      go_simp
      refine hK'.out _ _ (fun _ => cell_alloc' hS3 _) ?_
      clear hK' K'
      refine wpAnyY_one 5 (by kernel_rfl) rfl ?_
      intro K' hK'
      refine step_app1 (T := fun b => b4 < b) (base := b4 + 1) (xs := []) rfl _ _ eltLtl rfl (by decide) rfl rfl rfl HO4.out rfl [.bool a1.neg, .string ⟨a1.op.toArray⟩, .string ⟨a1.atom.name.toArray⟩, .slice Al nl cl] a1 (blkAt _ _ rfl) rfl ⟨rfl, rfl, rfl, Al, nl, cl, rfl, HSL4.out⟩ (by simp only [List.length_nil]; omega) (by simp only [List.length_nil]; omega) (by simp; omega) ?_
      intro A' c' w6 hown6 hg6 hat6
      have hb6 := grownBlk hg6 HB4.out (fun e => by have := (HO4.out.lt b4 e).1; omega)
      have hS6 : w6.cell? ⟨b4, 2, none⟩ = some (.slice A 0 c) := (cell_blk hb6 2).trans rfl
      have hZ6 := frz_blk hb6 2
      have hat7 := HAT4.out.app HB4.out HO4.out hown6 hg6 HOK3.out
      have HAT7 := Lib.hid hat7; clear hat7 hown6 hg6 hat6 hb6
      refine hK'.out _ _ (fun _ => hS6) ?_
      clear hK' K'
      refine wpAnyY_one 6 (by kernel_rfl) rfl ?_
      intro K' hK'
      go_simp
      refine hK'.out _ _ (fun _ => hS6) ?_
      clear hK' K'
      (refine wpAnyY_one 7 (by kernel_rfl) rfl ?_; intro K' hK'; go_simp; refine hK'.out _ _ (fun h => absurd rfl h) ?_; clear hK' K'; refine wpAnyY_done (by kernel_rfl) ?_ _)
      clear HB4 HO4 HAT4 HB HO HD hS hS3 hS6 hZ6 HX HAT2 HSL4 HOK3
      go_wp2_with fail
      go_loopg [18] (t2.1.length + 1) (fun f o wx => ∃ lits q, RuW w wx g w.heap.size b4 nm A1 n1 c1 args lits q ∧ q.1.length < f ∧ q.1.length + lits.length ≤ 1000001 ∧ q.1.length ≤ p.1.length ∧ Hid (M = moreL f q lits))
      case atStart => exact ⟨[a1], p1, HAT7.out, by omega, by simp; omega, by omega, HMM⟩
      case round =>
        obtain ⟨lits, q, haq, hqf, hqa, hqp, hmq⟩ := hrel
        obtain ⟨f, rfl⟩ : ∃ f, gk = f + 1 := ⟨gk - 1, by omega⟩
        have hm := hmq.out
        rw [moreL] at hm
        obtain ⟨c1', z1⟩ := haq.rt.pw.c1
        have HAQ := Lib.hid haq; clear haq hmq
        obtain ⟨ql, qb⟩ := q
        simp only at c1' hm hqf hqa hqp
        cases qb
        · have htk := fun w h => take_any g (ql, false) [44] w h rfl
          have htl2 := takeS_len (ql, false) [44]
          have htl3 := takeS_lt (p := (ql, false)) (s := [44]) rfl
          have htf : (takeS (ql, false) [44]).1 = false → (takeS (ql, false) [44]).2 = (ql, false) := by
            unfold takeS
            split
            · intro _; rfl
            · intro h; cases h
          generalize takeS (ql, false) [44] = tq at *
          obtain ⟨tq1, tq2⟩ := tq
          simp only [Bool.not_false, Bool.true_and] at htk htl2 htl3 htf hm
          have HTQ := Lib.hid htk; have HM := Lib.hid hm; clear htk hm
          go_wp2_with fail
          refine (HTQ.out _ HAQ.out.rt.pw).mono ?_
          rintro e w4 ⟨rfl, hw4, hf4⟩
          have haq4 := HAQ.out.call hw4 hf4
          clear HAQ hw4 hf4 c1' z1
          have HAQ := Lib.hid haq4; clear haq4
          cases tq1
          · have hqq := htf rfl
            subst hqq
            have hm := HM.out
            (try simp only [Bool.false_eq_true, if_false] at hm)
            have hr := HR2.out
            rw [hm] at hr
            go_wp2_with fail
            go_meet
            exact ⟨lits, (ql, false), HAQ.out, by simp only; omega, hr⟩
          · have hm := HM.out
            (try simp only [if_true] at hm)
            have hgb := fun w h => literal_any g tq2 w h (by omega)
            have hgl2 := ltlP_len tq2
            generalize ltlP tq2 = a2 at *
            obtain ⟨a2, p2⟩ := a2
            simp only at hgl2 hm
            have HM2 := Lib.hid hm; have HGB := Lib.hid hgb
            have htl4 := htl3 rfl
            clear hm hgb HM htl3 htf
            have hD := HAQ.out.below (wy := w4.drew) (Below.refl _ _).drew
            obtain ⟨A, c, hb, ho⟩ := hD.own
            have hS : w4.drew.cell? ⟨b4, 2, none⟩ = some (.slice A lits.length c) := (cell_blk hb 2).trans rfl
            have hcap := ho.cap
            have HD := Lib.hid hD; have HB := Lib.hid hb; have HO := Lib.hid ho; clear hD hb ho
            go_wp2_with fail
            refine wpY_region (fun x => x.cell? ⟨b4, 2, none⟩ = some (.slice A lits.length c)) 7 (by kernel_rfl) ?_
            have HX := Lib.hid (fun (x : World) (hx : x.cell? ⟨b4, 2, none⟩ = some (.slice A lits.length c)) => hx)
            (refine wpAnyY_takeW 0 rfl rfl (by kernel_rfl) (by kernel_rfl) (by kernel_rfl) (by kernel_rfl) (fun _ _ _ h => h) (v := ?_) (by kernel_rfl) hS ?_ ?_; rotate_left; (focus (intro x hx; have fx := HX.out x hx; go_simp; (try with_reducible rfl); done)); (try simp only [Act.put, List.setIfInBounds_toArray, List.set_cons_zero, List.set_cons_succ]))
            (refine wpAnyY_takeW 1 rfl rfl (by kernel_rfl) (by kernel_rfl) (by kernel_rfl) (by kernel_rfl) (fun _ _ _ h => h) (v := ?_) (by kernel_rfl) hS ?_ ?_; rotate_left; (focus (intro x hx; have fx := HX.out x hx; go_simp; (try with_reducible rfl); done)); (try simp only [Act.put, List.setIfInBounds_toArray, List.set_cons_zero, List.set_cons_succ]))
            (refine wpAnyY_takeW 2 rfl rfl (by kernel_rfl) (by kernel_rfl) (by kernel_rfl) (by kernel_rfl) (fun _ _ _ h => h) (v := ?_) (by kernel_rfl) hS ?_ ?_; rotate_left; (focus (intro x hx; have fx := HX.out x hx; go_simp; (try with_reducible rfl); done)); (try simp only [Act.put, List.setIfInBounds_toArray, List.set_cons_zero, List.set_cons_succ]))
            refine wpAnyY_one 3 (by kernel_rfl) rfl ?_
            intro K' hK'
            go_simp
            refine (HGB.out _ HD.out.rt.pw).mono ?_
            rintro e w5 ⟨⟨Al, nl, cl, rfl, hsl3⟩, hw5, hf5, hok3⟩
            have hat3 := HD.out.call hw5 hf5
            obtain ⟨hb3', ho3⟩ := HD.out.same HB.out HO.out hf5
            have hS3 : w5.cell? ⟨b4, 2, none⟩ = some (.slice A lits.length c) := (cell_blk hb3' 2).trans rfl
            have hb4 := blkOld hb3' (.cells (ltlC a2 Al nl cl) 54)
            have hlt3 := (Array.getElem?_eq_some_iff.1 hb3').1
            have hsl4 : Sl (w5.alloc (.cells (ltlC a2 Al nl cl) 54)) (fun b => b4 < b ∧ A.map Addr.block ≠ some b) Al nl cl a2.atom.args := (hsl3.wide (fun k _ hk => ⟨by have := (Array.getElem?_eq_some_iff.1 HB.out).1; omega, fun e => by have := (HO.out.lt k e).2; omega⟩) (by decide)).alloc _
            have HAT4 := Lib.hid (hat3.below (wy := w5.alloc (.cells (ltlC a2 Al nl cl) 54)) boxed); have HB4 := Lib.hid hb4; have HO4 := Lib.hid (ho3.alloc (.cells (ltlC a2 Al nl cl) 54)); have HSL4 := Lib.hid hsl4; have HOK3 := Lib.hid hok3
            clear hw5 hf5 hat3 hb3' ho3 hb4 hsl3 hsl4 hok3
            refine hK'.out _ _ (fun _ => hS3) ?_
            clear hK' K'
            refine wpAnyY_one 4 (by kernel_rfl) rfl ?_
            intro K' hK'
            go_simp
            refine hK'.out _ _ (fun _ => cell_alloc' hS3 _) ?_
            clear hK' K'
            refine wpAnyY_one 5 (by kernel_rfl) rfl ?_
            intro K' hK'
            refine step_app1 (T := fun b => b4 < b) (base := b4 + 1) (xs := lits) rfl _ _ eltLtl rfl (by decide) rfl rfl rfl HO4.out rfl [.bool a2.neg, .string ⟨a2.op.toArray⟩, .string ⟨a2.atom.name.toArray⟩, .slice Al nl cl] a2 (blkAt _ _ rfl) rfl ⟨rfl, rfl, rfl, Al, nl, cl, rfl, HSL4.out⟩ (by omega) (by omega) (by simp; omega) ?_
            intro A' c' w7 hown6 hg6 hat6
            have hb6 := grownBlk hg6 HB4.out (fun e => by have := (HO4.out.lt b4 e).1; omega)
            have hS6 : w7.cell? ⟨b4, 2, none⟩ = some (.slice A lits.length c) := (cell_blk hb6 2).trans rfl
            have hZ6 := frz_blk hb6 2
            have hat7 := HAT4.out.app HB4.out HO4.out hown6 hg6 HOK3.out
            have HAT7 := Lib.hid hat7; clear hat7 hown6 hg6 hat6 hb6
            refine hK'.out _ _ (fun _ => hS6) ?_
            clear hK' K'
            refine wpAnyY_one 6 (by kernel_rfl) rfl ?_
            intro K' hK'
            go_simp
            refine hK'.out _ _ (fun _ => hS6) ?_
            clear hK' K'
            (refine wpAnyY_one 7 (by kernel_rfl) rfl ?_; intro K' hK'; go_simp; refine hK'.out _ _ (fun h => absurd rfl h) ?_; clear hK' K'; refine wpAnyY_done (by kernel_rfl) ?_ _)
            clear HB4 HO4 HAT4 HB HO HD hS hS3 hS6 hZ6 HX HAQ HSL4 HOK3
            go_wp2_with fail
            go_roundg f
            case measure => omega
            case rel => exact ⟨lits ++ [a2], p2, HAT7.out, by omega, by simp; omega, by omega, HM2.out⟩
        · (try simp only [Bool.not_true, Bool.false_and, Bool.false_eq_true, if_false] at hm)
          have hr := HR2.out
          rw [hm] at hr
          go_wp2_with fail
          go_meet
          exact ⟨lits, (ql, true), HAQ.out, by simp only; omega, hr⟩
  case rest =>
    obtain ⟨lits, q, hat, hql, hr⟩ := hcut
    have htk := take_any g q [46] _ hat.rt.pw rfl
    have hr := hr.out
    generalize takeS q [46] = d at *
    obtain ⟨d1, d2⟩ := d
    obtain ⟨dl, db⟩ := d2
    simp only at htk hr
    obtain ⟨ok, hok⟩ : ∃ ok, ok = (d1 && dl.isEmpty && !db) := ⟨_, rfl⟩
    rw [← hok] at hr
    have HAT := Lib.hid hat; have HTK := Lib.hid htk; have HR3 := Lib.hid hr; have HOK := Lib.hid hok
    clear hat htk hr HR hok
    go_upto_region 6 with fail
    go_cut [5] from 34 to 51 (fun v wx => v = .bool ok ∧ RuW w wx g w.heap.size b4 nm A1 n1 c1 args lits (dl, db))
    case first =>
      go_wp2_with fail
      refine HTK.out.mono ?_
      rintro e w3 ⟨rfl, hw3, hf3⟩
      have hat3 := HAT.out.call hw3 hf3
      obtain ⟨c1', z1⟩ := hat3.rt.pw.c1
      obtain ⟨Ap, cp, hpb, hps, -⟩ := hat3.rt.pw
      have c0' : w3.cell? ⟨g, 0, none⟩ = some (.slice Ap dl.length cp) := (cell_blk hpb 0).trans rfl
      simp only at c1'
      have HAT3 := Lib.hid hat3
      clear hat3 HAT hw3 hf3 hpb hps
      go_wp2_with fail
      · go_meet
        exact ⟨by rw [HOK.out]; simp_all, HAT3.out⟩
      · go_meet
        exact ⟨by rw [HOK.out]; simp_all, HAT3.out⟩
      · go_meet
        exact ⟨by rw [HOK.out]; simp_all, HAT3.out⟩
    case rest =>
      obtain ⟨rfl, hat3⟩ := hcut
      have hfr := fun w S (h1 : Sl w S A1 n1 c1 args) (A2 : Option Addr) (n2 c2 : Nat) (h2 : Sl w S A2 n2 c2 lits) (hL : LD w) => formedRule_any ⟨⟨nm, args⟩, lits⟩ A1 n1 c1 A2 n2 c2 w S h1 h2 hat3.ok hL
      have hD := hat3.below (wy := wc.drew) (Below.refl _ _).drew
      obtain ⟨A, c, hb, ho⟩ := hD.own
      have hS : wc.drew.heap[b4]? = some (.cells #[.string ⟨nm.toArray⟩, .slice A1 n1 c1, .slice A lits.length c] 48 (0, 0)) := hb
      have hB := hD.rt.res
      have HD := Lib.hid hD; have HO := Lib.hid ho; have HFR := Lib.hid hfr; have HB := Lib.hid hB
      clear hD ho hfr hat3 hb hB
      have HX := Lib.hid (fun (x : World) (hx : x.heap[b4]? = some (.cells #[.string ⟨nm.toArray⟩, .slice A1 n1 c1, .slice A lits.length c] 48 (0, 0))) => (⟨(cell_blk hx 0).trans rfl, (cell_blk hx 1).trans rfl, (cell_blk hx 2).trans rfl⟩ : x.cell? ⟨b4, 0, none⟩ = some (.string ⟨nm.toArray⟩) ∧ x.cell? ⟨b4, 1, none⟩ = some (.slice A1 n1 c1) ∧ x.cell? ⟨b4, 2, none⟩ = some (.slice A lits.length c)))
      cases ok
      · go_wp2_with fail
        refine wpH_region (fun x => x.heap[b4]? = some (.cells #[.string ⟨nm.toArray⟩, .slice A1 n1 c1, .slice A lits.length c] 48 (0, 0))) (by kernel_rfl) ?_
        (refine wpAnyH_takeW 0 rfl rfl (by kernel_rfl) (by kernel_rfl) (by kernel_rfl) (fun _ _ _ h => h) (v := ?_) (by kernel_rfl) hS ?_ ?_; rotate_left; (focus (intro x hx; have fx := HX.out x hx; go_simp; (try with_reducible rfl); done)); (try simp only [Act.put, List.setIfInBounds_toArray, List.set_cons_zero, List.set_cons_succ]))
        (refine wpAnyH_takeW 1 rfl rfl (by kernel_rfl) (by kernel_rfl) (by kernel_rfl) (fun _ _ _ h => h) (v := ?_) (by kernel_rfl) hS ?_ ?_; rotate_left; (focus (intro x hx; have fx := HX.out x hx; go_simp; (try with_reducible rfl); done)); (try simp only [Act.put, List.setIfInBounds_toArray, List.set_cons_zero, List.set_cons_succ]))
        (refine wpAnyH_takeW 2 rfl rfl (by kernel_rfl) (by kernel_rfl) (by kernel_rfl) (fun _ _ _ h => h) (v := ?_) (by kernel_rfl) hS ?_ ?_; rotate_left; (focus (intro x hx; have fx := HX.out x hx; go_simp; (try with_reducible rfl); done)); (try simp only [Act.put, List.setIfInBounds_toArray, List.set_cons_zero, List.set_cons_succ]))
        (refine wpAnyH_takeU 3 rfl rfl (by kernel_rfl) (by kernel_rfl) (by kernel_rfl) (fun _ _ _ h => h) (by kernel_rfl) hS ?_; (try simp only [Act.put, List.setIfInBounds_toArray, List.set_cons_zero, List.set_cons_succ]))
        (refine wpAnyH_takeU 4 rfl rfl (by kernel_rfl) (by kernel_rfl) (by kernel_rfl) (fun _ _ _ h => h) (by kernel_rfl) hS ?_; (try simp only [Act.put, List.setIfInBounds_toArray, List.set_cons_zero, List.set_cons_succ]))
        (refine wpAnyH_takeW 5 rfl rfl (by kernel_rfl) (by kernel_rfl) (by kernel_rfl) (fun _ _ _ h => h) (v := ?_) (by kernel_rfl) hS ?_ ?_; rotate_left; (focus (intro x hx; have fx := HX.out x hx; go_simp; (try with_reducible rfl); done)); (try simp only [Act.put, List.setIfInBounds_toArray, List.set_cons_zero, List.set_cons_succ]))
        have hBw : wc.heap[w.heap.size]? = some (.cells #[.string ⟨#[]⟩, .slice none 0 0, .slice none 0 0] 48 (0, 0)) := HB.out
        have r0 := (cell_blk hBw 0).trans rfl; have r1 := (cell_blk hBw 1).trans rfl; have r2 := (cell_blk hBw 2).trans rfl
        have y0 := frz_blk hBw 0; have y1 := frz_blk hBw 1; have y2 := frz_blk hBw 2
        have h24 := HD.out.h4
        have hk : ∀ k, w.heap.size < k → (((wc.drew.setCell ⟨w.heap.size, 0, none⟩ (.string ⟨nm.toArray⟩)).setCell ⟨w.heap.size, 1, none⟩ (.slice A1 n1 c1)).setCell ⟨w.heap.size, 2, none⟩ (.slice A lits.length c)).heap[k]? = wc.drew.heap[k]? := fun k hk => (set_other _ _ _ _ _ (by omega)).trans ((set_other _ _ _ _ _ (by omega)).trans (set_other _ _ _ _ _ (by omega)))
        (refine wpAnyH_one 6 (by kernel_rfl) rfl ?_; intro K' hK'; go_simp; refine hK'.out _ _ ((hk b4 h24).trans hS) ?_; clear hK' K')
        (refine wpAnyH_one 7 (by kernel_rfl) rfl ?_; intro K' hK'; go_simp; refine hK'.out _ _ ((hk b4 h24).trans hS) ?_; clear hK' K')
        refine wpAnyH_done (by kernel_rfl) ?_ _
        go_wp2_with fail
        have hRF := Blk.set _ (Blk.set _ (Blk.set _ hBw 0 (.string ⟨nm.toArray⟩)) 1 (.slice A1 n1 c1)) 2 (.slice A lits.length c)
        have q0 := (cell_blk hRF 0).trans rfl; have q1 := (cell_blk hRF 1).trans rfl; have q2 := (cell_blk hRF 2).trans rfl
        refine bodyPost_ret (v := .tuple #[.agg #[.string ⟨nm.toArray⟩, .slice A1 n1 c1, .slice A lits.length c], .bool (false)]) (by simp [results, Tryz.results43, go_sem, q0, q1, q2]) rfl ?_
        have hpf := ((HD.out.rt.pf.set (Nat.le_refl _) 0 (.string ⟨nm.toArray⟩)).set (Nat.le_refl _) 1 (.slice A1 n1 c1)).set (Nat.le_refl _) 2 (.slice A lits.length c)
        have h24 := HD.out.h4
        unfold UPost
        rw [HR3.out]
        refine ⟨⟨A1, n1, c1, A, lits.length, c, rfl, (HD.out.head.keep (fun k _ hs => hk k hs.1)).wide (fun k _ hs => by omega) (by decide), ((HO.out.sl (by decide)).keep (fun k _ hs => hk k ?_)).wide (fun k _ hs => ?_) (by decide)⟩, hpf.frm, HD.out.ok⟩
        · rcases hs with hs | hs
          · omega
          · have := (HO.out.lt k hs).1; omega
        · rcases hs with hs | hs
          · omega
          · have := (HO.out.lt k hs).1; omega
      · go_wp2_with fail
        refine wpH_region (fun x => x.heap[b4]? = some (.cells #[.string ⟨nm.toArray⟩, .slice A1 n1 c1, .slice A lits.length c] 48 (0, 0))) (by kernel_rfl) ?_
        (refine wpAnyH_takeW 0 rfl rfl (by kernel_rfl) (by kernel_rfl) (by kernel_rfl) (fun _ _ _ h => h) (v := ?_) (by kernel_rfl) hS ?_ ?_; rotate_left; (focus (intro x hx; have fx := HX.out x hx; go_simp; (try with_reducible rfl); done)); (try simp only [Act.put, List.setIfInBounds_toArray, List.set_cons_zero, List.set_cons_succ]))
        (refine wpAnyH_takeW 1 rfl rfl (by kernel_rfl) (by kernel_rfl) (by kernel_rfl) (fun _ _ _ h => h) (v := ?_) (by kernel_rfl) hS ?_ ?_; rotate_left; (focus (intro x hx; have fx := HX.out x hx; go_simp; (try with_reducible rfl); done)); (try simp only [Act.put, List.setIfInBounds_toArray, List.set_cons_zero, List.set_cons_succ]))
        (refine wpAnyH_takeW 2 rfl rfl (by kernel_rfl) (by kernel_rfl) (by kernel_rfl) (fun _ _ _ h => h) (v := ?_) (by kernel_rfl) hS ?_ ?_; rotate_left; (focus (intro x hx; have fx := HX.out x hx; go_simp; (try with_reducible rfl); done)); (try simp only [Act.put, List.setIfInBounds_toArray, List.set_cons_zero, List.set_cons_succ]))
        (refine wpAnyH_takeW 3 rfl rfl (by kernel_rfl) (by kernel_rfl) (by kernel_rfl) (fun _ _ _ h => h) (v := ?_) (by kernel_rfl) hS ?_ ?_; rotate_left; (focus (intro x hx; have fx := HX.out x hx; go_simp; (try with_reducible rfl); done)); (try simp only [Act.put, List.setIfInBounds_toArray, List.set_cons_zero, List.set_cons_succ]))
        refine wpAnyH_one 4 (by kernel_rfl) rfl ?_
        intro K' hK'
        go_simp
        refine (HFR.out _ (fun _ => True) (HD.out.head.any) A lits.length c ((HO.out.sl (by decide)).any) HD.out.rt.pw.ld).mono ?_
        rintro e w5 ⟨rfl, hb5⟩
        have hS5 : w5.heap[b4]? = some (.cells #[.string ⟨nm.toArray⟩, .slice A1 n1 c1, .slice A lits.length c] 48 (0, 0)) := keptBlk hb5 hS
        have HD5 := Lib.hid (HD.out.below hb5); have HO5 := Lib.hid (HO.out.below hb5); have HB5 := Lib.hid (keptBlk hb5 HB.out)
        clear hb5
        refine hK'.out _ _ hS5 ?_
        clear hK' K'
        have hS := hS5
        (refine wpAnyH_takeW 5 rfl rfl (by kernel_rfl) (by kernel_rfl) (by kernel_rfl) (fun _ _ _ h => h) (v := ?_) (by kernel_rfl) hS ?_ ?_; rotate_left; (focus (intro x hx; have fx := HX.out x hx; go_simp; (try with_reducible rfl); done)); (try simp only [Act.put, List.setIfInBounds_toArray, List.set_cons_zero, List.set_cons_succ]))
        have r0 := (cell_blk HB5.out 0).trans rfl; have r1 := (cell_blk HB5.out 1).trans rfl; have r2 := (cell_blk HB5.out 2).trans rfl
        have y0 := frz_blk HB5.out 0; have y1 := frz_blk HB5.out 1; have y2 := frz_blk HB5.out 2
        have h24 := HD5.out.h4
        have hk : ∀ k, w.heap.size < k → (((w5.setCell ⟨w.heap.size, 0, none⟩ (.string ⟨nm.toArray⟩)).setCell ⟨w.heap.size, 1, none⟩ (.slice A1 n1 c1)).setCell ⟨w.heap.size, 2, none⟩ (.slice A lits.length c)).heap[k]? = w5.heap[k]? := fun k hk => (set_other _ _ _ _ _ (by omega)).trans ((set_other _ _ _ _ _ (by omega)).trans (set_other _ _ _ _ _ (by omega)))
        (refine wpAnyH_one 6 (by kernel_rfl) rfl ?_; intro K' hK'; go_simp; refine hK'.out _ _ ((hk b4 h24).trans hS) ?_; clear hK' K')
        (refine wpAnyH_one 7 (by kernel_rfl) rfl ?_; intro K' hK'; go_simp; refine hK'.out _ _ ((hk b4 h24).trans hS) ?_; clear hK' K')
        refine wpAnyH_done (by kernel_rfl) ?_ _
        go_wp2_with fail
        have hRF := Blk.set _ (Blk.set _ (Blk.set _ HB5.out 0 (.string ⟨nm.toArray⟩)) 1 (.slice A1 n1 c1)) 2 (.slice A lits.length c)
        have q0 := (cell_blk hRF 0).trans rfl; have q1 := (cell_blk hRF 1).trans rfl; have q2 := (cell_blk hRF 2).trans rfl
        refine bodyPost_ret (v := .tuple #[.agg #[.string ⟨nm.toArray⟩, .slice A1 n1 c1, .slice A lits.length c], .bool (ruleS ⟨⟨nm, args⟩, lits⟩)]) (by simp [results, Tryz.results43, go_sem, q0, q1, q2]) rfl ?_
        have hpf := ((HD5.out.rt.pf.set (Nat.le_refl _) 0 (.string ⟨nm.toArray⟩)).set (Nat.le_refl _) 1 (.slice A1 n1 c1)).set (Nat.le_refl _) 2 (.slice A lits.length c)
        have h24 := HD5.out.h4
        unfold UPost
        rw [HR3.out]
        refine ⟨⟨A1, n1, c1, A, lits.length, c, rfl, (HD5.out.head.keep (fun k _ hs => hk k hs.1)).wide (fun k _ hs => by omega) (by decide), ((HO5.out.sl (by decide)).keep (fun k _ hs => hk k ?_)).wide (fun k _ hs => ?_) (by decide)⟩, hpf.frm, HD5.out.ok⟩
        · rcases hs with hs | hs
          · omega
          · have := (HO5.out.lt k hs).1; omega
        · rcases hs with hs | hs
          · omega
          · have := (HO5.out.lt k hs).1; omega
end Go.Proofs.YtjopmgoacncmgaaGreatDoor
