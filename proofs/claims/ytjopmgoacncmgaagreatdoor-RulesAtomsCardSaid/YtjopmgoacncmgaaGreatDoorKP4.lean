/- Rules: the parser's atom. -/
import Derived.Test.YtjopmgoacncmgaaGreatDoorKP3
import Derived.Test.YtjopmgoacncmgaaGreatDoorRegY
set_option linter.unusedVariables false
set_option linter.unusedSimpArgs false
namespace Go.Proofs.YtjopmgoacncmgaaGreatDoor
open Go.RowKit

theorem PW.bad {w : World} {g : Nat} {p : KSt} (h : PW w g p) (b : Bool) : PW (w.setCell ⟨g, 1, none⟩ (.bool b)) g (p.1, b) := by
  have hlt := h.lt
  obtain ⟨A, c, hb, hs, hl, hd, ht⟩ := h
  exact PW.mk_ (p := p) (q := (p.1, b)) (A := A) (c := c) (by rw [Blk.set w hb 1]; rfl) hs hl hd ht (fun k _ hk => set_other _ _ _ _ _ hk) hlt
theorem PW.c1 {w : World} {g : Nat} {p : KSt} (h : PW w g p) : w.cell? ⟨g, 1, none⟩ = some (.bool p.2) ∧ w.frozen? ⟨g, 1, none⟩ = false := by
  obtain ⟨A, c, hb, _⟩ := h
  exact ⟨(cell_blk hb 1).trans rfl, frz_blk hb 1⟩
theorem nextS_len (p : KSt) : (nextS p).2.1.length ≤ p.1.length := by
  unfold nextS
  split
  · exact Nat.le_refl _
  · simp
theorem takeS_len (p : KSt) (s : Bs) : (takeS p s).2.1.length ≤ p.1.length := by
  unfold takeS
  split
  · exact Nat.le_refl _
  · exact nextS_len p
theorem takeS_lt {p : KSt} {s : Bs} (hs : s.isEmpty = false) (h : (takeS p s).1 = true) : (takeS p s).2.1.length + 1 ≤ p.1.length := by
  unfold takeS at *
  split at h
  · cases h
  · rename_i hn
    rw [if_neg hn]
    have he : peekS p = s := by simpa using hn
    unfold nextS
    rw [he, hs]
    simp only [Bool.false_eq_true, if_false, List.length_drop]
    unfold peekS at he
    cases hp : p.1 with
    | nil => rw [hp] at he; subst he; cases hs
    | cons a r => simp
theorem argP_len (p : KSt) : (argP p).2.1.length ≤ p.1.length := nextS_len p
theorem argP_ok {w : World} {g : Nat} {p : KSt} (h : PW w g p) : OkA (argP p).1 := okA_argOf (nextS_tok h).1

/-- The atom that is being read lies in block b3; block b2 is for the result; the parser is in state p. -/
structure ATW (w wx : World) (g b2 b3 : Nat) (nm : Bs) (args : List Arg) (p : KSt) : Prop where
  pw : PW wx g p
  hg : g < w.heap.size
  h2 : w.heap.size ≤ b2
  h3 : b2 < b3
  res : wx.heap[b2]? = some (.cells #[.string ⟨#[]⟩, .slice none 0 0] 45 (0, 0))
  own : ∃ A c, wx.heap[b3]? = some (.cells #[.string ⟨nm.toArray⟩, .slice A args.length c] 45 (0, 0)) ∧ Own wx (fun _ => False) (b3 + 1) 95 A c args
  frm : Frm (MG g) w wx
  ok : OkT ⟨nm, args⟩
theorem ATW.call {w wx wy : World} {g b2 b3 : Nat} {nm : Bs} {args : List Arg} {p q : KSt} (h : ATW w wx g b2 b3 nm args p) (hp : PW wy g q) (hf : Frm (MG g) wx wy) : ATW w wy g b2 b3 nm args q := by
  obtain ⟨A, c, hb, ho⟩ := h.own
  have := h.hg; have := h.h2; have := h.h3
  exact ⟨hp, h.hg, h.h2, h.h3, (hf.block _ (Array.getElem?_eq_some_iff.1 h.res).1 (fun e => by have : b2 = g := e; omega)).trans h.res,
    ⟨A, c, (hf.block _ (Array.getElem?_eq_some_iff.1 hb).1 (fun e => by have : b3 = g := e; omega)).trans hb, ho.keep (fun k hk hs => hf.block k hk (fun e => by
      have e : k = g := e
      rcases hs with hs | hs
      · exact hs
      · have := (ho.lt k hs).1; omega))⟩, h.frm.trans hf, h.ok⟩
theorem ATW.bad {w wx : World} {g b2 b3 : Nat} {nm : Bs} {args : List Arg} {p : KSt} (h : ATW w wx g b2 b3 nm args p) (b : Bool) : ATW w (wx.setCell ⟨g, 1, none⟩ (.bool b)) g b2 b3 nm args (p.1, b) :=
  h.call (h.pw.bad b) ((Frm.refl (MG g) wx).setCell (p := ⟨g, 1, none⟩) (fun _ => rfl) _)
theorem ATW.below {w wx wy : World} {g b2 b3 : Nat} {nm : Bs} {args : List Arg} {p : KSt} (h : ATW w wx g b2 b3 nm args p) (hb : Below wx.heap.size wx wy) : ATW w wy g b2 b3 nm args p := h.call (h.pw.below hb) (Frm.any hb)
/-- An argument has been appended, and the list laid back. -/
theorem ATW.app {w wx w6 : World} {g b2 b3 : Nat} {nm : Bs} {args : List Arg} {p : KSt} {A A' : Option Addr} {c c' : Nat} {a : Arg} (h : ATW w wx g b2 b3 nm args p)
    (hb : wx.heap[b3]? = some (.cells #[.string ⟨nm.toArray⟩, .slice A args.length c] 45 (0, 0))) (ho : Own wx (fun _ => False) (b3 + 1) 95 A c args)
    (ho' : Own w6 (fun _ => False) (b3 + 1) 95 A' c' (args ++ [a])) (hgr : wx.grownBy w6 (A.map Addr.block)) (ha : OkA a) :
    ATW w (w6.setCell ⟨b3, 1, none⟩ (.slice A' (args.length + 1) c')) g b2 b3 nm (args ++ [a]) p := by
  have e1 := h.hg; have e2 := h.h2; have e3 := h.h3
  have hne : ∀ k, k ≤ b3 → A.map Addr.block ≠ some k := fun k hk e => by have := (ho.lt k e).1; omega
  have hk6 : ∀ k, k < wx.heap.size → k ≤ b3 → w6.heap[k]? = wx.heap[k]? := fun k hk hk3 => hgr.block k hk (fun e => hne k hk3 e.symm)
  have hlt3 := (Array.getElem?_eq_some_iff.1 hb).1
  have hb6 := (hk6 b3 hlt3 (Nat.le_refl _)).trans hb
  refine ⟨h.pw.keepG (fun k hk => (set_other _ _ _ _ _ (by omega)).trans (hk6 k (by have := h.pw.lt; omega) (by omega))), e1, e2, e3, (set_other _ _ _ _ _ (by omega)).trans ((hk6 b2 (by omega) (by omega)).trans h.res), ?_, ?_, h.ok.1, ?_⟩
  · refine ⟨A', c', ?_, ho'.keep (fun k _ hs => set_other _ _ _ _ _ (fun e => by rcases hs with hs | hs; exact hs; have := (ho'.lt k hs).1; omega))⟩
    rw [Blk.set w6 hb6 1]
    simp
  · exact (h.frm.grown hgr (fun k hk hkw => by have := (ho.lt k hk).1; omega)).setCell (p := ⟨b3, 1, none⟩) (fun hk => by have hk : b3 < w.heap.size := hk; omega) _
  · intro x hx
    rcases List.mem_append.1 hx with hx | hx
    · exact h.ok.2 x hx
    · rw [List.mem_singleton.1 hx]; exact ha
theorem ATW.same {w wx wy : World} {g b2 b3 : Nat} {nm : Bs} {args : List Arg} {p : KSt} {A : Option Addr} {c : Nat} (h : ATW w wx g b2 b3 nm args p)
    (hb : wx.heap[b3]? = some (.cells #[.string ⟨nm.toArray⟩, .slice A args.length c] 45 (0, 0))) (ho : Own wx (fun _ => False) (b3 + 1) 95 A c args) (hf : Frm (MG g) wx wy) :
    wy.heap[b3]? = some (.cells #[.string ⟨nm.toArray⟩, .slice A args.length c] 45 (0, 0)) ∧ Own wy (fun _ => False) (b3 + 1) 95 A c args := by
  have := h.hg; have := h.h2; have := h.h3
  exact ⟨(hf.block _ (Array.getElem?_eq_some_iff.1 hb).1 (fun e => by have : b3 = g := e; omega)).trans hb, ho.keep (fun k hk hs => hf.block k hk (fun e => by
      have e : k = g := e
      rcases hs with hs | hs
      · exact hs
      · have := (ho.lt k hs).1; omega))⟩
def APost (w : World) (g : Nat) (r : Atm × KSt) (e : Ending) (w' : World) : Prop :=
  (∃ A n c, e = .returned (.agg #[.string ⟨r.1.name.toArray⟩, .slice A n c]) ∧ Sl w' (fun b => w.heap.size ≤ b) A n c r.1.args) ∧ PW w' g r.2 ∧ Frm (MG g) w w' ∧ OkT r.1

set_option maxRecDepth 100000 in
set_option maxHeartbeats 4000000 in
theorem atom_any (g : Nat) (p : KSt) (w : World) (h : PW w g p) (hN : p.1.length ≤ 1000000) :
    Calls Tryz.prog 69 #[.pointer (some ⟨g, 0, none⟩)] w (APost w g (atomP p)) := by
  have hn := next_any g p (w.alloc (.cells #[.string ⟨#[]⟩, .slice none 0 0] 45)) (h.alloc _)
  have hgw := h.lt
  have htk := nextS_tok h
  have hnl := nextS_len p
  obtain ⟨R, hR⟩ : ∃ R, R = atomP p := ⟨_, rfl⟩
  rw [← hR]
  unfold atomP at hR
  generalize nextS p = x at *
  obtain ⟨nm, x2⟩ := x
  simp only at *
  have HN := Lib.hid hn; have HR := Lib.hid hR; have HTK := Lib.hid htk; clear hn hR htk h
  go_enter Tryz.func69, Tryz.ntmps69
  go_wp2_with fail
  refine HN.out.mono ?_
  rintro e w1 ⟨rfl, hw1, hf1⟩
  have hb0 : w1.heap[w.heap.size]? = some (.cells #[.string ⟨#[]⟩, .slice none 0 0] 45 (0, 0)) := (hf1.block _ (by simp) (fun e => by have : w.heap.size = g := e; omega)).trans (blkAt w _ rfl)
  have hs1 : w.heap.size < w1.heap.size := by { have := hf1.size; simp at this; omega }
  have hat : ATW w (w1.alloc (.cells #[.string ⟨nm.toArray⟩, .slice none 0 0] 45)) g w.heap.size w1.heap.size nm [] x2 :=
    ⟨hw1.alloc _, hgw, Nat.le_refl _, hs1, blkOld hb0 _, ⟨none, 0, blkAt w1 _ rfl, Own.nil _ _ _ _⟩, (((Frm.refl (MG g) w).alloc _).trans hf1).alloc _, by have := HTK.out.1; exact ⟨by simp only; omega, fun a ha => by cases ha⟩⟩
  have hta := take_any g x2 [40] _ hat.pw rfl
  have htl := takeS_len x2 [40]
  generalize takeS x2 [40] = t at *
  obtain ⟨t1, t2⟩ := t
  simp only at hta htl
  generalize hb3 : w1.heap.size = b3 at *
  have HAT := Lib.hid hat; have HTA := Lib.hid hta; clear hat hta hw1 hf1 hb0
  go_wp2_with fail
  clear hb3
  refine HTA.out.mono ?_
  rintro e w2 ⟨rfl, hw2, hf2⟩
  have hat2 := HAT.out.call hw2 hf2
  have HAT2 := Lib.hid hat2; clear hat2 hw2 hf2 HAT HTA
  go_upto_if 8 with (fail)
  go_cut [] from 9 to 44 (fun wx => ∃ args q, ATW w wx g w.heap.size b3 nm args q ∧ q.1.length ≤ p.1.length ∧ Hid (R = ((⟨nm, args⟩ : Atm), (q.1, q.2 || !atomS ⟨nm, args⟩))))
  case first =>
    cases t1
    · go_wp2_with fail
      go_meet
      exact ⟨[], t2, HAT2.out, by omega, HR.out⟩
    · have hr := HR.out
      simp only [if_true] at hr
      have hga := fun w h => arg_any g t2 w h
      have hgl := argP_len t2
      have hgo := argP_ok HAT2.out.pw
      generalize argP t2 = a1 at *
      obtain ⟨a1, p1⟩ := a1
      simp only at hga hgl hgo hr
      obtain ⟨M, hM⟩ : ∃ M, M = moreP (t2.1.length + 1) p1 [a1] := ⟨_, rfl⟩
      rw [← hM] at hr
      have HMM := Lib.hid hM; clear hM
      have HR2 := Lib.hid hr; have HGA := Lib.hid hga; have HGO := Lib.hid hgo
      clear hr hga hgo
      have hD := HAT2.out.below (wy := w2.drew) (Below.refl _ _).drew
      obtain ⟨A, c, hb, ho⟩ := hD.own
      have hS : w2.drew.cell? ⟨b3, 1, none⟩ = some (.slice A 0 c) := (cell_blk hb 1).trans rfl
      have hcap := ho.cap
      have HD := Lib.hid hD; have HB := Lib.hid hb; have HO := Lib.hid ho; clear hD hb ho
      go_wp2_with fail
      refine wpY_region (fun x => x.cell? ⟨b3, 1, none⟩ = some (.slice A 0 c)) 7 (by kernel_rfl) ?_
      have HX := Lib.hid (fun (x : World) (hx : x.cell? ⟨b3, 1, none⟩ = some (.slice A 0 c)) => hx)
      (refine wpAnyY_takeW 0 rfl rfl (by kernel_rfl) (by kernel_rfl) (by kernel_rfl) (by kernel_rfl) (fun _ _ _ h => h) (v := ?_) (by kernel_rfl) hS ?_ ?_; rotate_left; (focus (intro x hx; have fx := HX.out x hx; go_simp; (try with_reducible rfl); done)); (try simp only [Act.put, List.setIfInBounds_toArray, List.set_cons_zero, List.set_cons_succ]))
      (refine wpAnyY_takeW 1 rfl rfl (by kernel_rfl) (by kernel_rfl) (by kernel_rfl) (by kernel_rfl) (fun _ _ _ h => h) (v := ?_) (by kernel_rfl) hS ?_ ?_; rotate_left; (focus (intro x hx; have fx := HX.out x hx; go_simp; (try with_reducible rfl); done)); (try simp only [Act.put, List.setIfInBounds_toArray, List.set_cons_zero, List.set_cons_succ]))
      (refine wpAnyY_takeW 2 rfl rfl (by kernel_rfl) (by kernel_rfl) (by kernel_rfl) (by kernel_rfl) (fun _ _ _ h => h) (v := ?_) (by kernel_rfl) hS ?_ ?_; rotate_left; (focus (intro x hx; have fx := HX.out x hx; go_simp; (try with_reducible rfl); done)); (try simp only [Act.put, List.setIfInBounds_toArray, List.set_cons_zero, List.set_cons_succ]))
      refine wpAnyY_one 3 (by kernel_rfl) rfl ?_
      intro K' hK'
      go_simp
      refine (HGA.out _ HD.out.pw).mono ?_
      rintro e w3 ⟨rfl, hw3, hf3⟩
      have hat3 := HD.out.call hw3 hf3
      obtain ⟨hb3', ho3⟩ := HD.out.same HB.out HO.out hf3
      have hS3 : w3.cell? ⟨b3, 1, none⟩ = some (.slice A 0 c) := (cell_blk hb3' 1).trans rfl
      have hb4 := blkOld hb3' (.cells (argC a1) 95)
      have hlt3 := (Array.getElem?_eq_some_iff.1 hb3').1
      have HAT4 := Lib.hid (hat3.below (wy := w3.alloc (.cells (argC a1) 95)) boxed); have HB4 := Lib.hid hb4; have HO4 := Lib.hid (ho3.alloc (.cells (argC a1) 95))
      clear hw3 hf3 hat3 hb3' ho3 hb4
      refine hK'.out _ _ (fun _ => hS3) ?_
      clear hK' K'
      unfold vArg
      refine wpAnyY_one 4 (by kernel_rfl) rfl ?_
      intro K' hK'
      go_simp
      refine hK'.out _ _ (fun _ => cell_alloc' hS3 _) ?_
      clear hK' K'
      refine wpAnyY_one 5 (by kernel_rfl) rfl ?_
      intro K' hK'
      refine step_app1 (T := fun _ => False) (base := b3 + 1) (xs := []) rfl _ _ eltArg rfl (by decide) rfl rfl rfl HO4.out rfl [.int .i64 a1.kind, .string ⟨a1.text.toArray⟩, .int .i64 a1.num] a1 (blkAt _ _ rfl) rfl ⟨rfl, rfl, rfl⟩ (by simp only [List.length_nil]; omega) (by simp only [List.length_nil]; omega) (by simp; omega) ?_
      intro A' c' w6 hown6 hg6 hat6
      have hb6 := grownBlk hg6 HB4.out (fun e => by have := (HO4.out.lt b3 e).1; omega)
      have hS6 : w6.cell? ⟨b3, 1, none⟩ = some (.slice A 0 c) := (cell_blk hb6 1).trans rfl
      have hZ6 := frz_blk hb6 1
      have hat7 := HAT4.out.app HB4.out HO4.out hown6 hg6 HGO.out
      have HAT7 := Lib.hid hat7; clear hat7 hown6 hg6 hat6 hb6
      refine hK'.out _ _ (fun _ => hS6) ?_
      clear hK' K'
      refine wpAnyY_one 6 (by kernel_rfl) rfl ?_
      intro K' hK'
      go_simp
      refine hK'.out _ _ (fun _ => hS6) ?_
      clear hK' K'
      (refine wpAnyY_one 7 (by kernel_rfl) rfl ?_; intro K' hK'; go_simp; refine hK'.out _ _ (fun h => absurd rfl h) ?_; clear hK' K'; refine wpAnyY_done (by kernel_rfl) ?_ _)
      clear HB4 HO4 HAT4 HB HO HD hS hS3 hS6 hZ6 HX HAT2
      go_wp2_with fail
      go_loopg [16] (t2.1.length + 1) (fun f o wx => ∃ args q, ATW w wx g w.heap.size b3 nm args q ∧ q.1.length < f ∧ q.1.length + args.length ≤ 1000001 ∧ q.1.length ≤ p.1.length ∧ Hid (M = moreP f q args))
      case atStart => exact ⟨[a1], p1, HAT7.out, by omega, by simp; omega, by omega, HMM⟩
      case round =>
        obtain ⟨args, q, haq, hqf, hqa, hqp, hmq⟩ := hrel
        obtain ⟨f, rfl⟩ : ∃ f, gk = f + 1 := ⟨gk - 1, by omega⟩
        have hm := hmq.out
        rw [moreP] at hm
        obtain ⟨c1, z1⟩ := haq.pw.c1
        have HAQ := Lib.hid haq; clear haq hmq
        obtain ⟨ql, qb⟩ := q
        simp only at c1 hm hqf hqa hqp
        cases qb
        · have htk := fun w h => take_any g (ql, false) [44] w h rfl
          have htl2 := takeS_len (ql, false) [44]
          have htl3 := takeS_lt (p := (ql, false)) (s := [44]) rfl
          have htf : (takeS (ql, false) [44]).1 = false → (takeS (ql, false) [44]).2 = (ql, false) := by
            unfold takeS
            split
            · intro _; rfl
            · intro h; cases h
          generalize takeS (ql, false) [44] = tq at *
          obtain ⟨tq1, tq2⟩ := tq
          simp only [Bool.not_false, Bool.true_and] at htk htl2 htl3 htf hm
          have HTQ := Lib.hid htk; have HM := Lib.hid hm; clear htk hm
          go_wp2_with fail
          refine (HTQ.out _ HAQ.out.pw).mono ?_
          rintro e w4 ⟨rfl, hw4, hf4⟩
          have haq4 := HAQ.out.call hw4 hf4
          clear HAQ hw4 hf4 c1 z1
          have HAQ := Lib.hid haq4; clear haq4
          cases tq1
          · have hqq := htf rfl
            subst hqq
            have hm := HM.out
            (try simp only [Bool.false_eq_true, if_false] at hm)
            have hr := HR2.out
            rw [hm] at hr
            simp only [Bool.false_eq_true, if_false, Bool.false_or] at hr
            have htc := fun w h => take_any g (ql, false) [41] w h rfl
            have htcl := takeS_len (ql, false) [41]
            generalize takeS (ql, false) [41] = tc at *
            obtain ⟨tc1, tc2⟩ := tc
            simp only at htc htcl hr
            have HTC := Lib.hid htc; have HR3 := Lib.hid hr
            obtain ⟨c1, z1⟩ := HAQ.out.pw.c1
            simp only at c1
            clear htc hr hm HM HTQ HR2 HGA
            go_wp2_with fail
            refine (HTC.out _ HAQ.out.pw).mono ?_
            rintro e w5 ⟨rfl, hw5, hf5⟩
            have haq5 := HAQ.out.call hw5 hf5
            have HAQ5 := Lib.hid haq5; clear HAQ haq5 hw5 hf5 c1 z1
            obtain ⟨c1, z1⟩ := HAQ5.out.pw.c1
            go_wp2_with fail
            go_meet
            exact ⟨args, (tc2.1, !tc1), HAQ5.out.bad _, by simp only; omega, HR3.out⟩
          · have hm := HM.out
            (try simp only [if_true] at hm)
            have hgb := fun w h => arg_any g tq2 w h
            have hgl2 := argP_len tq2
            have hgp := argP_ok HAQ.out.pw
            generalize argP tq2 = a2 at *
            obtain ⟨a2, p2⟩ := a2
            simp only at hgb hgl2 hgp hm
            have HM2 := Lib.hid hm; have HGB := Lib.hid hgb; have HGP := Lib.hid hgp
            have htl4 := htl3 rfl
            clear hm hgb hgp HM htl3 htf
            have hD := HAQ.out.below (wy := w4.drew) (Below.refl _ _).drew
            obtain ⟨A, c, hb, ho⟩ := hD.own
            have hS : w4.drew.cell? ⟨b3, 1, none⟩ = some (.slice A args.length c) := (cell_blk hb 1).trans rfl
            have hcap := ho.cap
            have HD := Lib.hid hD; have HB := Lib.hid hb; have HO := Lib.hid ho; clear hD hb ho
            go_wp2_with fail
            refine wpY_region (fun x => x.cell? ⟨b3, 1, none⟩ = some (.slice A args.length c)) 7 (by kernel_rfl) ?_
            have HX := Lib.hid (fun (x : World) (hx : x.cell? ⟨b3, 1, none⟩ = some (.slice A args.length c)) => hx)
            (refine wpAnyY_takeW 0 rfl rfl (by kernel_rfl) (by kernel_rfl) (by kernel_rfl) (by kernel_rfl) (fun _ _ _ h => h) (v := ?_) (by kernel_rfl) hS ?_ ?_; rotate_left; (focus (intro x hx; have fx := HX.out x hx; go_simp; (try with_reducible rfl); done)); (try simp only [Act.put, List.setIfInBounds_toArray, List.set_cons_zero, List.set_cons_succ]))
            (refine wpAnyY_takeW 1 rfl rfl (by kernel_rfl) (by kernel_rfl) (by kernel_rfl) (by kernel_rfl) (fun _ _ _ h => h) (v := ?_) (by kernel_rfl) hS ?_ ?_; rotate_left; (focus (intro x hx; have fx := HX.out x hx; go_simp; (try with_reducible rfl); done)); (try simp only [Act.put, List.setIfInBounds_toArray, List.set_cons_zero, List.set_cons_succ]))
            (refine wpAnyY_takeW 2 rfl rfl (by kernel_rfl) (by kernel_rfl) (by kernel_rfl) (by kernel_rfl) (fun _ _ _ h => h) (v := ?_) (by kernel_rfl) hS ?_ ?_; rotate_left; (focus (intro x hx; have fx := HX.out x hx; go_simp; (try with_reducible rfl); done)); (try simp only [Act.put, List.setIfInBounds_toArray, List.set_cons_zero, List.set_cons_succ]))
            refine wpAnyY_one 3 (by kernel_rfl) rfl ?_
            intro K' hK'
            go_simp
            refine (HGB.out _ HD.out.pw).mono ?_
            rintro e w5 ⟨rfl, hw5, hf5⟩
            have hat3 := HD.out.call hw5 hf5
            obtain ⟨hb3', ho3⟩ := HD.out.same HB.out HO.out hf5
            have hS3 : w5.cell? ⟨b3, 1, none⟩ = some (.slice A args.length c) := (cell_blk hb3' 1).trans rfl
            have hb4 := blkOld hb3' (.cells (argC a2) 95)
            have hlt3 := (Array.getElem?_eq_some_iff.1 hb3').1
            have HAT4 := Lib.hid (hat3.below (wy := w5.alloc (.cells (argC a2) 95)) boxed); have HB4 := Lib.hid hb4; have HO4 := Lib.hid (ho3.alloc (.cells (argC a2) 95))
            clear hw5 hf5 hat3 hb3' ho3 hb4
            refine hK'.out _ _ (fun _ => hS3) ?_
            clear hK' K'
            unfold vArg
            refine wpAnyY_one 4 (by kernel_rfl) rfl ?_
            intro K' hK'
            go_simp
            refine hK'.out _ _ (fun _ => cell_alloc' hS3 _) ?_
            clear hK' K'
            refine wpAnyY_one 5 (by kernel_rfl) rfl ?_
            intro K' hK'
            refine step_app1 (T := fun _ => False) (base := b3 + 1) (xs := args) rfl _ _ eltArg rfl (by decide) rfl rfl rfl HO4.out rfl [.int .i64 a2.kind, .string ⟨a2.text.toArray⟩, .int .i64 a2.num] a2 (blkAt _ _ rfl) rfl ⟨rfl, rfl, rfl⟩ (by omega) (by omega) (by simp; omega) ?_
            intro A' c' w7 hown6 hg6 hat6
            have hb6 := grownBlk hg6 HB4.out (fun e => by have := (HO4.out.lt b3 e).1; omega)
            have hS6 : w7.cell? ⟨b3, 1, none⟩ = some (.slice A args.length c) := (cell_blk hb6 1).trans rfl
            have hZ6 := frz_blk hb6 1
            have hat7 := HAT4.out.app HB4.out HO4.out hown6 hg6 HGP.out
            have HAT7 := Lib.hid hat7; clear hat7 hown6 hg6 hat6 hb6
            refine hK'.out _ _ (fun _ => hS6) ?_
            clear hK' K'
            refine wpAnyY_one 6 (by kernel_rfl) rfl ?_
            intro K' hK'
            go_simp
            refine hK'.out _ _ (fun _ => hS6) ?_
            clear hK' K'
            (refine wpAnyY_one 7 (by kernel_rfl) rfl ?_; intro K' hK'; go_simp; refine hK'.out _ _ (fun h => absurd rfl h) ?_; clear hK' K'; refine wpAnyY_done (by kernel_rfl) ?_ _)
            clear HB4 HO4 HAT4 HB HO HD hS hS3 hS6 hZ6 HX HAQ
            go_wp2_with fail
            go_roundg f
            case measure => omega
            case rel => exact ⟨args ++ [a2], p2, HAT7.out, by omega, by simp; omega, by omega, HM2.out⟩
        · (try simp only [Bool.not_true, Bool.false_and, Bool.false_eq_true, if_false] at hm)
          have hr := HR2.out
          rw [hm] at hr
          simp only [if_true, Bool.true_or] at hr
          have HR3 := Lib.hid hr
          clear hr hm HR2 HGA
          go_wp2_with fail
          go_meet
          exact ⟨args, (ql, true), HAQ.out.bad _, by simp only; omega, HR3.out⟩
  case rest =>
    obtain ⟨args, q, hat, hql, hr⟩ := hcut
    obtain ⟨ql, qb⟩ := q
    obtain ⟨c1, z1⟩ := hat.pw.c1
    simp only at c1
    have hok := hat.ok
    obtain ⟨A, c, hb, ho⟩ := hat.own
    have hres := hat.res
    have h3 := hat.h3
    have hfa := fun w S (h : Sl w S A args.length c args) => formedAtom_any ⟨nm, args⟩ A args.length c w S h hok
    have k0 := (cell_blk hb 0).trans rfl; have k1 := (cell_blk hb 1).trans rfl
    have r0 := (cell_blk hres 0).trans rfl; have r1 := (cell_blk hres 1).trans rfl
    have y0 := frz_blk hres 0; have y1 := frz_blk hres 1
    have hgr : g ≠ w.heap.size := by omega
    have hgb : g ≠ b3 := by omega
    have HAT := Lib.hid hat; have HR := Lib.hid hr.out; have HB := Lib.hid hb; have HO := Lib.hid ho; have HFA := Lib.hid hfa; have HRES := Lib.hid hres
    clear hat hr hb ho hfa hres
    cases qb
    · go_wp2_with fail
      refine (HFA.out _ _ (HO.out.sl (by decide))).mono ?_
      rintro e w5 ⟨rfl, hb5⟩
      have HAT5 := Lib.hid (HAT.out.below hb5)
      have hb55 := keptBlk hb5 HB.out
      have hres5 := keptBlk hb5 HRES.out
      have HO5 := Lib.hid (HO.out.below hb5)
      obtain ⟨c1, z1⟩ := HAT5.out.pw.c1
      have k0 := (cell_blk hb55 0).trans rfl; have k1 := (cell_blk hb55 1).trans rfl
      have r0 := (cell_blk hres5 0).trans rfl; have r1 := (cell_blk hres5 1).trans rfl
      have y0 := frz_blk hres5 0; have y1 := frz_blk hres5 1
      have HRES5 := Lib.hid hres5; clear hb5 hb55 hres5
      go_wp2_with fail
      have hRF := Blk.set _ (Blk.set _ ((set_other w5 g 1 (.bool !atomS ⟨nm, args⟩) _ (Ne.symm hgr)).trans HRES5.out) 0 (.string ⟨nm.toArray⟩)) 1 (.slice A args.length c)
      have q0 := (cell_blk hRF 0).trans rfl; have q1 := (cell_blk hRF 1).trans rfl
      refine bodyPost_ret (v := .agg #[.string ⟨nm.toArray⟩, .slice A args.length c]) (by simp [results, Tryz.results69, go_sem, q0, q1]) rfl ?_
      unfold APost
      rw [HR.out]
      refine ⟨⟨A, args.length, c, rfl, ?_⟩, (HAT5.out.pw.bad _).keepG (fun k hk => (set_other _ _ _ _ _ (by omega)).trans (set_other _ _ _ _ _ (by omega))), ((HAT5.out.frm.setCell (p := ⟨g, 1, none⟩) (fun _ => rfl) _).setCell (p := ⟨w.heap.size, 0, none⟩) (fun h => absurd h (Nat.lt_irrefl _)) _).setCell (p := ⟨w.heap.size, 1, none⟩) (fun h => absurd h (Nat.lt_irrefl _)) _, hok⟩
      have hk := HO5.out.keep (w' := ((w5.setCell ⟨g, 1, none⟩ (.bool !atomS ⟨nm, args⟩)).setCell ⟨w.heap.size, 0, none⟩ (.string ⟨nm.toArray⟩)).setCell ⟨w.heap.size, 1, none⟩ (.slice A args.length c)) (fun k _ hs => by
        rcases hs with hs | hs
        · exact hs.elim
        · have := (HO5.out.lt k hs).1
          exact (set_other _ _ _ _ _ (by omega)).trans ((set_other _ _ _ _ _ (by omega)).trans (set_other _ _ _ _ _ (by omega))))
      exact (hk.sl (by decide)).wide (fun k _ hs => by
        rcases hs with hs | hs
        · exact hs.elim
        · have := (hk.lt k hs).1; omega) (by decide)
    · go_wp2_with fail
      have hRF := Blk.set _ (Blk.set _ ((set_other wc g 1 (.bool true) _ (Ne.symm hgr)).trans HRES.out) 0 (.string ⟨nm.toArray⟩)) 1 (.slice A args.length c)
      have q0 := (cell_blk hRF 0).trans rfl; have q1 := (cell_blk hRF 1).trans rfl
      refine bodyPost_ret (v := .agg #[.string ⟨nm.toArray⟩, .slice A args.length c]) (by simp [results, Tryz.results69, go_sem, q0, q1]) rfl ?_
      unfold APost
      rw [HR.out]
      refine ⟨⟨A, args.length, c, rfl, ?_⟩, (HAT.out.pw.bad _).keepG (fun k hk => (set_other _ _ _ _ _ (by omega)).trans (set_other _ _ _ _ _ (by omega))), ((HAT.out.frm.setCell (p := ⟨g, 1, none⟩) (fun _ => rfl) _).setCell (p := ⟨w.heap.size, 0, none⟩) (fun h => absurd h (Nat.lt_irrefl _)) _).setCell (p := ⟨w.heap.size, 1, none⟩) (fun h => absurd h (Nat.lt_irrefl _)) _, hok⟩
      have hk := HO.out.keep (w' := ((wc.setCell ⟨g, 1, none⟩ (.bool true)).setCell ⟨w.heap.size, 0, none⟩ (.string ⟨nm.toArray⟩)).setCell ⟨w.heap.size, 1, none⟩ (.slice A args.length c)) (fun k _ hs => by
        rcases hs with hs | hs
        · exact hs.elim
        · have := (HO.out.lt k hs).1
          exact (set_other _ _ _ _ _ (by omega)).trans ((set_other _ _ _ _ _ (by omega)).trans (set_other _ _ _ _ _ (by omega))))
      exact (hk.sl (by decide)).wide (fun k _ hs => by
        rcases hs with hs | hs
        · exact hs.elim
        · have := (hk.lt k hs).1; omega) (by decide)
end Go.Proofs.YtjopmgoacncmgaaGreatDoor
