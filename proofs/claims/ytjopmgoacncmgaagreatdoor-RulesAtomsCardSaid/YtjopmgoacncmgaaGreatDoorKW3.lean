/- Rules, reference: SameAtom. -/
import Derived.Test.YtjopmgoacncmgaaGreatDoorKZ1
set_option linter.unusedVariables false
set_option linter.unusedSimpArgs false
namespace Go.Proofs.YtjopmgoacncmgaaGreatDoor
open Go.RowKit

theorem place_any (k : Int) (w : World) : Calls Tryz.prog 126 #[.int .i64 k] w fun e w' => e = .returned (.int .i64 (rankS k)) ∧ w' = w := by
  unfold rankS
  by_cases h3 : k = 3
  · subst h3
    go_enter Tryz.func126, Tryz.ntmps126
    go_wp2
    go_ret
    exact ⟨rfl, rfl⟩
  · have h3b : (k == 3) = false := by simpa using h3
    by_cases h2 : k = 2
    · subst h2
      go_enter Tryz.func126, Tryz.ntmps126
      go_wp2
      go_ret
      exact ⟨rfl, rfl⟩
    · have h2b : (k == 2) = false := by simpa using h2
      rw [if_neg h3, if_neg h2]
      go_enter Tryz.func126, Tryz.ntmps126
      go_wp2
      go_ret
      exact ⟨rfl, rfl⟩
set_option maxRecDepth 100000 in
set_option maxHeartbeats 4000000 in
theorem rcompare_any (a b : Arg) (w : World) :
    Calls Tryz.prog 81 #[vArg a, vArg b] w fun e w' => e = .returned (.int .i64 (rcmpArg a b)) ∧ Below w.heap.size w w' := by
  obtain ⟨v, hv⟩ : ∃ v, v = rcmpArg a b := ⟨_, rfl⟩
  rw [← hv]
  unfold rcmpArg at hv
  obtain ⟨ak, at_, an⟩ := a
  obtain ⟨bk, bt, bn⟩ := b
  simp only at hv
  unfold vArg
  simp only
  have HV := Lib.hid hv; clear hv
  go_enter Tryz.func81, Tryz.ntmps81
  go_wp2_with fail
  have hB0 : ((w.alloc (.cells #[.int .i64 ak, .string ⟨at_.toArray⟩, .int .i64 an] 95)).alloc (.cells #[.int .i64 bk, .string ⟨bt.toArray⟩, .int .i64 bn] 95)).heap[w.heap.size]? = some (.cells #[.int .i64 ak, .string ⟨at_.toArray⟩, .int .i64 an] 95 (0, 0)) := blkOld (blkAt w _ rfl) _
  have hB1 : ((w.alloc (.cells #[.int .i64 ak, .string ⟨at_.toArray⟩, .int .i64 an] 95)).alloc (.cells #[.int .i64 bk, .string ⟨bt.toArray⟩, .int .i64 bn] 95)).heap[w.heap.size + 1]? = some (.cells #[.int .i64 bk, .string ⟨bt.toArray⟩, .int .i64 bn] 95 (0, 0)) := blkAt2 (by simp) rfl
  have hbl : Below w.heap.size w ((w.alloc (.cells #[.int .i64 ak, .string ⟨at_.toArray⟩, .int .i64 an] 95)).alloc (.cells #[.int .i64 bk, .string ⟨bt.toArray⟩, .int .i64 bn] 95)) := boxed.alloc (by simp) _
  generalize (w.alloc (.cells #[.int .i64 ak, .string ⟨at_.toArray⟩, .int .i64 an] 95)).alloc (.cells #[.int .i64 bk, .string ⟨bt.toArray⟩, .int .i64 bn] 95) = W at *
  refine wpH_region (fun x => Below W.heap.size W x) (by kernel_rfl) ?_
  have hS : Below W.heap.size W W.drew := (Below.refl _ _).drew
  have HX := Lib.hid (fun (x : World) (hx : Below W.heap.size W x) => And.intro ((cell_blk (keptBlk hx hB0) 0).trans rfl) (And.intro ((cell_blk (keptBlk hx hB0) 1).trans rfl) (And.intro ((cell_blk (keptBlk hx hB0) 2).trans rfl) (And.intro ((cell_blk (keptBlk hx hB1) 0).trans rfl) (And.intro ((cell_blk (keptBlk hx hB1) 1).trans rfl) ((cell_blk (keptBlk hx hB1) 2).trans rfl))))))
  have HBL := Lib.hid hbl
  clear hB0 hB1 hbl
  (refine wpAnyH_takeW 0 rfl rfl (by kernel_rfl) (by kernel_rfl) (by kernel_rfl) (fun _ _ _ h => h) (v := ?_) (by kernel_rfl) hS ?_ ?_; rotate_left; (focus (intro x hx; have fx := HX.out x hx; go_simp; (try with_reducible rfl); done)); (try simp only [Act.put, List.setIfInBounds_toArray, List.set_cons_zero, List.set_cons_succ]))
  (refine wpAnyH_takeW 1 rfl rfl (by kernel_rfl) (by kernel_rfl) (by kernel_rfl) (fun _ _ _ h => h) (v := ?_) (by kernel_rfl) hS ?_ ?_; rotate_left; (focus (intro x hx; have fx := HX.out x hx; go_simp; (try with_reducible rfl); done)); (try simp only [Act.put, List.setIfInBounds_toArray, List.set_cons_zero, List.set_cons_succ]))
  (refine wpAnyH_takeW 3 rfl rfl (by kernel_rfl) (by kernel_rfl) (by kernel_rfl) (fun _ _ _ h => h) (v := ?_) (by kernel_rfl) hS ?_ ?_; rotate_left; (focus (intro x hx; have fx := HX.out x hx; go_simp; (try with_reducible rfl); done)); (try simp only [Act.put, List.setIfInBounds_toArray, List.set_cons_zero, List.set_cons_succ]))
  (refine wpAnyH_takeW 4 rfl rfl (by kernel_rfl) (by kernel_rfl) (by kernel_rfl) (fun _ _ _ h => h) (v := ?_) (by kernel_rfl) hS ?_ ?_; rotate_left; (focus (intro x hx; have fx := HX.out x hx; go_simp; (try with_reducible rfl); done)); (try simp only [Act.put, List.setIfInBounds_toArray, List.set_cons_zero, List.set_cons_succ]))
  (refine wpAnyH_one 2 (by kernel_rfl) rfl ?_; intro K' hK'; go_simp; refine (place_any ak _).mono ?_; rintro e w1 ⟨rfl, rfl⟩; refine hK'.out _ _ hS ?_; clear hK' K')
  (refine wpAnyH_one 5 (by kernel_rfl) rfl ?_; intro K' hK'; go_simp; refine (place_any bk _).mono ?_; rintro e w1 ⟨rfl, rfl⟩; refine hK'.out _ _ hS ?_; clear hK' K')
  (refine wpAnyH_takeW 6 rfl rfl (by kernel_rfl) (by kernel_rfl) (by kernel_rfl) (fun _ _ _ h => h) (v := ?_) (by kernel_rfl) hS ?_ ?_; rotate_left; (focus (intro x hx; have fx := HX.out x hx; go_simp; (try with_reducible rfl); done)); (try simp only [Act.put, List.setIfInBounds_toArray, List.set_cons_zero, List.set_cons_succ]))
  (refine wpAnyH_takeW 7 rfl rfl (by kernel_rfl) (by kernel_rfl) (by kernel_rfl) (fun _ _ _ h => h) (v := ?_) (by kernel_rfl) hS ?_ ?_; rotate_left; (focus (intro x hx; have fx := HX.out x hx; go_simp; (try with_reducible rfl); done)); (try simp only [Act.put, List.setIfInBounds_toArray, List.set_cons_zero, List.set_cons_succ]))
  refine wpAnyH_done (by kernel_rfl) ?_ _
  obtain ⟨q0, q1, q2, q3, q4, q5⟩ := HX.out W.drew hS
  have hS2 := Lib.hid hS; clear hS HX
  go_wp2_with fail
  all_goals (go_ret; refine ⟨ret_int ?_, HBL.out.trans (hS2.out.mono HBL.out.size)⟩; rw [HV.out]; clear HV HBL hS2 q0 q1 q2 q3 q4 q5)
  all_goals first | (simp_all [less_ltB]; done) | (simp_all [less_ltB]; omega)
end Go.Proofs.YtjopmgoacncmgaaGreatDoor

namespace Go.Proofs.YtjopmgoacncmgaaGreatDoor
open Go.RowKit

set_option maxRecDepth 100000 in
set_option maxHeartbeats 4000000 in
theorem rorder_any (x y : Atm) (A : Option Addr) (n c : Nat) (B : Option Addr) (m d : Nat) (w : World) (S T : Nat → Prop) (hl : Sl w S A n c x.args) (hr : Sl w T B m d y.args) :
    Calls Tryz.prog 39 #[.agg #[.string ⟨x.name.toArray⟩, .slice A n c], .agg #[.string ⟨y.name.toArray⟩, .slice B m d]] w fun e w' => e = .returned (.int .i64 (rordS x y)) ∧ Below w.heap.size w w' := by
  obtain ⟨v, hv⟩ : ∃ v, v = rordS x y := ⟨_, rfl⟩
  rw [← hv]
  unfold rordS at hv
  obtain ⟨xn, xa⟩ := x
  obtain ⟨yn, ya⟩ := y
  simp only at hl hr hv ⊢
  have hn := hl.len; have hm := hr.len
  subst hn hm
  have hle := hl.le; have hle2 := hr.le
  by_cases hne : xn = yn
  · subst hne
    by_cases hlen : xa.length = ya.length
    · replace hv : v = rcmpArgs (xa.drop 0) (ya.drop 0) := by rw [hv]; simp [hlen]
      rw [← hlen] at hr hle2
      rw [← hlen]
      have hk0 : ya.length = xa.length := hlen.symm
      have HF := Lib.hid hv; have HL := Lib.hid hl; have HR := Lib.hid hr; have HK := Lib.hid hk0
      clear hv hl hr hlen hk0
      go_enter Tryz.func39, Tryz.ntmps39
      go_wp2_with fail
      have hB0 : ((w.alloc (.cells #[.string ⟨xn.toArray⟩, .slice A xa.length c] 45)).alloc (.cells #[.string ⟨xn.toArray⟩, .slice B xa.length d] 45)).heap[w.heap.size]? = some (.cells #[.string ⟨xn.toArray⟩, .slice A xa.length c] 45 (0, 0)) := blkOld (blkAt w _ rfl) _
      have hB1 : ((w.alloc (.cells #[.string ⟨xn.toArray⟩, .slice A xa.length c] 45)).alloc (.cells #[.string ⟨xn.toArray⟩, .slice B xa.length d] 45)).heap[w.heap.size + 1]? = some (.cells #[.string ⟨xn.toArray⟩, .slice B xa.length d] 45 (0, 0)) := blkAt2 (by simp) rfl
      have hbl : Below w.heap.size w ((w.alloc (.cells #[.string ⟨xn.toArray⟩, .slice A xa.length c] 45)).alloc (.cells #[.string ⟨xn.toArray⟩, .slice B xa.length d] 45)) := boxed.alloc (by simp) _
      generalize (w.alloc (.cells #[.string ⟨xn.toArray⟩, .slice A xa.length c] 45)).alloc (.cells #[.string ⟨xn.toArray⟩, .slice B xa.length d] 45) = W at *
      have HB0 := Lib.hid hB0; have HB1 := Lib.hid hB1; have HBL := Lib.hid hbl
      clear hB0 hB1 hbl
      go_loopw [5] (fun i wr => ∃ k : Nat, k ≤ xa.length ∧ i = .int .i64 k ∧ Below W.heap.size W wr ∧ Hid (v = rcmpArgs (xa.drop k) (ya.drop k))) (fun i _ => xa.length - (intOf i).toNat)
      case atStart => exact ⟨0, by omega, rfl, Below.refl _ _, HF⟩
      case round =>
        obtain ⟨k, hk, rfl, hb, hf⟩ := hrel
        have hbw : Below w.heap.size w wr := HBL.out.trans (hb.mono HBL.out.size)
        have k1 := (cell_blk (keptBlk hb HB0.out) 1).trans rfl; have k2 := (cell_blk (keptBlk hb HB1.out) 1).trans rfl
        by_cases hlt : k < xa.length
        · obtain ⟨b1, o1, rfl, -, hbs1, h1, h2, h3⟩ := (HL.out.below hbw).arg hlt
          obtain ⟨b2, o2, rfl, -, hbs2, g1, g2, g3⟩ := (HR.out.below hbw).arg (k := k) (by have := HK.out; omega)
          have hd := hf.out
          rw [drop_get hlt, drop_get (l := ya) (k := k) (by have := HK.out; omega), rcmpArgs] at hd
          have hca := fun w => rcompare_any xa[k] (ya[k]'(by have := HK.out; omega)) w
          generalize xa[k] = p at *
          generalize ya[k]'_ = q at *
          unfold vArg at hca
          generalize rcmpArg p q = cv at *
          have HD := Lib.hid hd; have HCA := Lib.hid hca
          have HX := Lib.hid (fun (x : World) (hx : Below wr.heap.size wr x) => And.intro (cell_later hx k1) (And.intro (cell_later hx k2) (And.intro (cell_later hx h1) (And.intro (cell_later hx h2) (And.intro (cell_later hx h3) (And.intro (cell_later hx g1) (And.intro (cell_later hx g2) (cell_later hx g3))))))))
          have HBW := Lib.hid hb
          clear hd hca hf
          go_wp2_with fail
          refine wpH_region (fun x => Below wr.heap.size wr x) (by kernel_rfl) ?_
          have hS : Below wr.heap.size wr wr.drew := (Below.refl _ _).drew
          clear h1 h2 h3 g1 g2 g3 k1 k2 hb
          (refine wpAnyH_takeW 0 rfl rfl (by kernel_rfl) (by kernel_rfl) (by kernel_rfl) (fun _ _ _ h => h) (v := ?_) (by kernel_rfl) hS ?_ ?_; rotate_left; (focus (intro x hx; have fx := HX.out x hx; go_simp; (try with_reducible rfl); done)); (try simp only [Act.put, List.setIfInBounds_toArray, List.set_cons_zero, List.set_cons_succ]))
          (refine wpAnyH_takeW 1 rfl rfl (by kernel_rfl) (by kernel_rfl) (by kernel_rfl) (fun _ _ _ h => h) (v := ?_) (by kernel_rfl) hS ?_ ?_; rotate_left; (focus (intro x hx; have fx := HX.out x hx; go_simp; (try with_reducible rfl); done)); (try simp only [Act.put, List.setIfInBounds_toArray, List.set_cons_zero, List.set_cons_succ]))
          (refine wpAnyH_takeW 2 rfl rfl (by kernel_rfl) (by kernel_rfl) (by kernel_rfl) (fun _ _ _ h => h) (v := ?_) (by kernel_rfl) hS ?_ ?_; rotate_left; (focus (intro x hx; have fx := HX.out x hx; go_simp; (try with_reducible rfl); done)); (try simp only [Act.put, List.setIfInBounds_toArray, List.set_cons_zero, List.set_cons_succ]))
          (refine wpAnyH_takeW 3 rfl rfl (by kernel_rfl) (by kernel_rfl) (by kernel_rfl) (fun _ _ _ h => h) (v := ?_) (by kernel_rfl) hS ?_ ?_; rotate_left; (focus (intro x hx; have fx := HX.out x hx; go_simp; (try with_reducible rfl); done)); (try simp only [Act.put, List.setIfInBounds_toArray, List.set_cons_zero, List.set_cons_succ]))
          (refine wpAnyH_takeW 4 rfl rfl (by kernel_rfl) (by kernel_rfl) (by kernel_rfl) (fun _ _ _ h => h) (v := ?_) (by kernel_rfl) hS ?_ ?_; rotate_left; (focus (intro x hx; have fx := HX.out x hx; go_simp; (try with_reducible rfl); done)); (try simp only [Act.put, List.setIfInBounds_toArray, List.set_cons_zero, List.set_cons_succ]))
          (refine wpAnyH_takeW 5 rfl rfl (by kernel_rfl) (by kernel_rfl) (by kernel_rfl) (fun _ _ _ h => h) (v := ?_) (by kernel_rfl) hS ?_ ?_; rotate_left; (focus (intro x hx; have fx := HX.out x hx; go_simp; (try with_reducible rfl); done)); (try simp only [Act.put, List.setIfInBounds_toArray, List.set_cons_zero, List.set_cons_succ]))
          (refine wpAnyH_takeW 6 rfl rfl (by kernel_rfl) (by kernel_rfl) (by kernel_rfl) (fun _ _ _ h => h) (v := ?_) (by kernel_rfl) hS ?_ ?_; rotate_left; (focus (intro x hx; have fx := HX.out x hx; go_simp; (try with_reducible rfl); done)); (try simp only [Act.put, List.setIfInBounds_toArray, List.set_cons_zero, List.set_cons_succ]))
          (refine wpAnyH_takeW 7 rfl rfl (by kernel_rfl) (by kernel_rfl) (by kernel_rfl) (fun _ _ _ h => h) (v := ?_) (by kernel_rfl) hS ?_ ?_; rotate_left; (focus (intro x hx; have fx := HX.out x hx; go_simp; (try with_reducible rfl); done)); (try simp only [Act.put, List.setIfInBounds_toArray, List.set_cons_zero, List.set_cons_succ]))
          (refine wpAnyH_takeW 8 rfl rfl (by kernel_rfl) (by kernel_rfl) (by kernel_rfl) (fun _ _ _ h => h) (v := ?_) (by kernel_rfl) hS ?_ ?_; rotate_left; (focus (intro x hx; have fx := HX.out x hx; go_simp; (try with_reducible rfl); done)); (try simp only [Act.put, List.setIfInBounds_toArray, List.set_cons_zero, List.set_cons_succ]))
          (refine wpAnyH_takeW 9 rfl rfl (by kernel_rfl) (by kernel_rfl) (by kernel_rfl) (fun _ _ _ h => h) (v := ?_) (by kernel_rfl) hS ?_ ?_; rotate_left; (focus (intro x hx; have fx := HX.out x hx; go_simp; (try with_reducible rfl); done)); (try simp only [Act.put, List.setIfInBounds_toArray, List.set_cons_zero, List.set_cons_succ]))
          (refine wpAnyH_one 10 (by kernel_rfl) rfl ?_; intro K' hK'; go_simp; refine (HCA.out _).mono ?_; rintro e w5 ⟨rfl, hb5⟩; have hS := hS.trans (hb5.mono hS.size); refine hK'.out _ _ hS ?_; clear hK' K')
          (refine wpAnyH_takeW 11 rfl rfl (by kernel_rfl) (by kernel_rfl) (by kernel_rfl) (fun _ _ _ h => h) (v := ?_) (by kernel_rfl) hS ?_ ?_; rotate_left; (focus (intro x hx; have fx := HX.out x hx; go_simp; (try with_reducible rfl); done)); (try simp only [Act.put, List.setIfInBounds_toArray, List.set_cons_zero, List.set_cons_succ]))
          refine wpAnyH_done (by kernel_rfl) ?_ _
          by_cases hc0 : cv = 0
          · have hcb : (cv == 0) = true := by simpa using hc0
            have HC0 := Lib.hid hc0; clear hc0
            go_wp2_with fail
            go_roundw
            case rel =>
              have hd := HD.out
              rw [if_neg (by simp [HC0.out])] at hd
              exact ⟨k + 1, by omega, by go_num, HBW.out.trans (hS.mono HBW.out.size), hd⟩
            case measure => simp [intOf]; omega
          · have hcb : (cv == 0) = false := by simpa using hc0
            have HC0 := Lib.hid hc0; clear hc0
            go_wp2_with fail
            go_ret
            have hd := HD.out
            rw [if_pos HC0.out] at hd
            exact ⟨ret_int hd, hbw.trans (hS.mono hbw.size)⟩
        · have hd := hf.out
          rw [drop_end hlt] at hd
          have HD := Lib.hid (show v = 0 by rw [hd]; cases ya.drop k <;> rfl)
          clear hd hf hb
          go_wp2_with fail
          go_ret
          exact ⟨ret_int HD.out, hbw⟩
    · replace hv : v = if xa.length < ya.length then -1 else 1 := by rw [hv]; simp [hlen]
      have hlI : ¬ (xa.length : Int) = (ya.length : Int) := by omega
      have HV := Lib.hid hv; clear hv hl hr hlen
      go_enter Tryz.func39, Tryz.ntmps39
      go_wp2_with fail
      all_goals (go_ret; refine ⟨ret_int ?_, boxed.alloc (by simp) _⟩; rw [HV.out])
      · rw [if_pos (by omega)]
      · rw [if_neg (by omega)]
  · replace hv : v = if ltB xn yn = true then -1 else 1 := by rw [hv]; simp [hne]
    have hneb : (xn == yn) = false := by simpa using hne
    have HV := Lib.hid hv; clear hv hl hr
    go_enter Tryz.func39, Tryz.ntmps39
    go_wp2_with fail
    all_goals (go_ret; refine ⟨ret_int ?_, boxed.alloc (by simp) _⟩; rw [HV.out])
    · rename_i h; rw [less_ltB] at h; rw [if_pos h]
    · rename_i h; rw [less_ltB] at h; rw [if_neg (by simp [h])]
end Go.Proofs.YtjopmgoacncmgaaGreatDoor

namespace Go.Proofs.YtjopmgoacncmgaaGreatDoor
open Go.RowKit

def sameAs : List Arg → List Arg → Bool
  | a :: r, b :: t => decide (a = b) && sameAs r t
  | _, _ => true
theorem sameAs_eq (l : List Arg) : ∀ t, l.length = t.length → sameAs l t = decide (l = t) := by
  induction l with
  | nil => intro t h; cases t with
    | nil => rfl
    | cons b t => simp at h
  | cons a r ih => intro t h; cases t with
    | nil => simp at h
    | cons b t =>
      simp only [List.length_cons, Nat.add_right_cancel_iff] at h
      simp only [sameAs, ih t h, List.cons.injEq, Bool.decide_and]
set_option maxRecDepth 100000 in
set_option maxHeartbeats 4000000 in
theorem sameAtom_any (x y : Atm) (A : Option Addr) (n c : Nat) (B : Option Addr) (m d : Nat) (w : World) (S T : Nat → Prop) (hl : Sl w S A n c x.args) (hr : Sl w T B m d y.args) :
    Calls Tryz.prog 34 #[.agg #[.string ⟨x.name.toArray⟩, .slice A n c], .agg #[.string ⟨y.name.toArray⟩, .slice B m d]] w fun e w' => e = .returned (.bool (decide (x = y))) ∧ Below w.heap.size w w' := by
  obtain ⟨v, hv⟩ : ∃ v, v = decide (x = y) := ⟨_, rfl⟩
  rw [← hv]
  obtain ⟨xn, xa⟩ := x
  obtain ⟨yn, ya⟩ := y
  simp only at hl hr hv ⊢
  have hn := hl.len; have hm := hr.len
  subst hn hm
  have hle := hl.le; have hle2 := hr.le
  by_cases hne : xn = yn
  · subst hne
    by_cases hlen : xa.length = ya.length
    · replace hv : v = sameAs (xa.drop 0) (ya.drop 0) := by rw [hv]; simp [sameAs_eq _ _ hlen]
      rw [← hlen] at hr hle2
      rw [← hlen]
      have hk0 : ya.length = xa.length := hlen.symm
      have HF := Lib.hid hv; have HL := Lib.hid hl; have HR := Lib.hid hr; have HK := Lib.hid hk0
      clear hv hl hr hlen hk0
      go_enter Tryz.func34, Tryz.ntmps34
      go_wp2_with fail
      have hB0 : ((w.alloc (.cells #[.string ⟨xn.toArray⟩, .slice A xa.length c] 45)).alloc (.cells #[.string ⟨xn.toArray⟩, .slice B xa.length d] 45)).heap[w.heap.size]? = some (.cells #[.string ⟨xn.toArray⟩, .slice A xa.length c] 45 (0, 0)) := blkOld (blkAt w _ rfl) _
      have hB1 : ((w.alloc (.cells #[.string ⟨xn.toArray⟩, .slice A xa.length c] 45)).alloc (.cells #[.string ⟨xn.toArray⟩, .slice B xa.length d] 45)).heap[w.heap.size + 1]? = some (.cells #[.string ⟨xn.toArray⟩, .slice B xa.length d] 45 (0, 0)) := blkAt2 (by simp) rfl
      have hbl : Below w.heap.size w ((w.alloc (.cells #[.string ⟨xn.toArray⟩, .slice A xa.length c] 45)).alloc (.cells #[.string ⟨xn.toArray⟩, .slice B xa.length d] 45)) := boxed.alloc (by simp) _
      generalize (w.alloc (.cells #[.string ⟨xn.toArray⟩, .slice A xa.length c] 45)).alloc (.cells #[.string ⟨xn.toArray⟩, .slice B xa.length d] 45) = W at *
      have HB0 := Lib.hid hB0; have HB1 := Lib.hid hB1; have HBL := Lib.hid hbl
      clear hB0 hB1 hbl
      go_loopw [5] (fun i wr => ∃ k : Nat, k ≤ xa.length ∧ i = .int .i64 k ∧ Below W.heap.size W wr ∧ Hid (v = sameAs (xa.drop k) (ya.drop k))) (fun i _ => xa.length - (intOf i).toNat)
      case atStart => exact ⟨0, by omega, rfl, Below.refl _ _, HF⟩
      case round =>
        obtain ⟨k, hk, rfl, hb, hf⟩ := hrel
        have hbw : Below w.heap.size w wr := HBL.out.trans (hb.mono HBL.out.size)
        have k1 := (cell_blk (keptBlk hb HB0.out) 1).trans rfl; have k2 := (cell_blk (keptBlk hb HB1.out) 1).trans rfl
        by_cases hlt : k < xa.length
        · obtain ⟨b1, o1, rfl, -, hbs1, h1, h2, h3⟩ := (HL.out.below hbw).arg hlt
          obtain ⟨b2, o2, rfl, -, hbs2, g1, g2, g3⟩ := (HR.out.below hbw).arg (k := k) (by have := HK.out; omega)
          have hd := hf.out
          rw [drop_get hlt, drop_get (l := ya) (k := k) (by have := HK.out; omega), sameAs] at hd
          generalize xa[k] = p at *
          generalize ya[k]'_ = q at *
          obtain ⟨pk, pt, pn⟩ := p
          obtain ⟨qk, qt, qn⟩ := q
          simp only at h1 h2 h3 g1 g2 g3
          have HD := Lib.hid hd
          have HX := Lib.hid (fun (x : World) (hx : Below wr.heap.size wr x) => And.intro (cell_later hx k1) (And.intro (cell_later hx k2) (And.intro (cell_later hx h1) (And.intro (cell_later hx h2) (And.intro (cell_later hx h3) (And.intro (cell_later hx g1) (And.intro (cell_later hx g2) (cell_later hx g3))))))))
          have HBW := Lib.hid hb
          clear hd hf
          go_wp2_with fail
          refine wpH_region (fun x => Below wr.heap.size wr x) (by kernel_rfl) ?_
          have hS : Below wr.heap.size wr wr.drew := (Below.refl _ _).drew
          clear h1 h2 h3 g1 g2 g3 k1 k2 hb
          (refine wpAnyH_takeW 0 rfl rfl (by kernel_rfl) (by kernel_rfl) (by kernel_rfl) (fun _ _ _ h => h) (v := ?_) (by kernel_rfl) hS ?_ ?_; rotate_left; (focus (intro x hx; have fx := HX.out x hx; go_simp; (try with_reducible rfl); done)); (try simp only [Act.put, List.setIfInBounds_toArray, List.set_cons_zero, List.set_cons_succ]))
          (refine wpAnyH_takeW 1 rfl rfl (by kernel_rfl) (by kernel_rfl) (by kernel_rfl) (fun _ _ _ h => h) (v := ?_) (by kernel_rfl) hS ?_ ?_; rotate_left; (focus (intro x hx; have fx := HX.out x hx; go_simp; (try with_reducible rfl); done)); (try simp only [Act.put, List.setIfInBounds_toArray, List.set_cons_zero, List.set_cons_succ]))
          (refine wpAnyH_takeW 2 rfl rfl (by kernel_rfl) (by kernel_rfl) (by kernel_rfl) (fun _ _ _ h => h) (v := ?_) (by kernel_rfl) hS ?_ ?_; rotate_left; (focus (intro x hx; have fx := HX.out x hx; go_simp; (try with_reducible rfl); done)); (try simp only [Act.put, List.setIfInBounds_toArray, List.set_cons_zero, List.set_cons_succ]))
          (refine wpAnyH_takeW 3 rfl rfl (by kernel_rfl) (by kernel_rfl) (by kernel_rfl) (fun _ _ _ h => h) (v := ?_) (by kernel_rfl) hS ?_ ?_; rotate_left; (focus (intro x hx; have fx := HX.out x hx; go_simp; (try with_reducible rfl); done)); (try simp only [Act.put, List.setIfInBounds_toArray, List.set_cons_zero, List.set_cons_succ]))
          (refine wpAnyH_takeW 4 rfl rfl (by kernel_rfl) (by kernel_rfl) (by kernel_rfl) (fun _ _ _ h => h) (v := ?_) (by kernel_rfl) hS ?_ ?_; rotate_left; (focus (intro x hx; have fx := HX.out x hx; go_simp; (try with_reducible rfl); done)); (try simp only [Act.put, List.setIfInBounds_toArray, List.set_cons_zero, List.set_cons_succ]))
          (refine wpAnyH_takeW 5 rfl rfl (by kernel_rfl) (by kernel_rfl) (by kernel_rfl) (fun _ _ _ h => h) (v := ?_) (by kernel_rfl) hS ?_ ?_; rotate_left; (focus (intro x hx; have fx := HX.out x hx; go_simp; (try with_reducible rfl); done)); (try simp only [Act.put, List.setIfInBounds_toArray, List.set_cons_zero, List.set_cons_succ]))
          (refine wpAnyH_takeW 6 rfl rfl (by kernel_rfl) (by kernel_rfl) (by kernel_rfl) (fun _ _ _ h => h) (v := ?_) (by kernel_rfl) hS ?_ ?_; rotate_left; (focus (intro x hx; have fx := HX.out x hx; go_simp; (try with_reducible rfl); done)); (try simp only [Act.put, List.setIfInBounds_toArray, List.set_cons_zero, List.set_cons_succ]))
          (refine wpAnyH_takeW 7 rfl rfl (by kernel_rfl) (by kernel_rfl) (by kernel_rfl) (fun _ _ _ h => h) (v := ?_) (by kernel_rfl) hS ?_ ?_; rotate_left; (focus (intro x hx; have fx := HX.out x hx; go_simp; (try with_reducible rfl); done)); (try simp only [Act.put, List.setIfInBounds_toArray, List.set_cons_zero, List.set_cons_succ]))
          (refine wpAnyH_takeW 8 rfl rfl (by kernel_rfl) (by kernel_rfl) (by kernel_rfl) (fun _ _ _ h => h) (v := ?_) (by kernel_rfl) hS ?_ ?_; rotate_left; (focus (intro x hx; have fx := HX.out x hx; go_simp; (try with_reducible rfl); done)); (try simp only [Act.put, List.setIfInBounds_toArray, List.set_cons_zero, List.set_cons_succ]))
          (refine wpAnyH_takeW 9 rfl rfl (by kernel_rfl) (by kernel_rfl) (by kernel_rfl) (fun _ _ _ h => h) (v := ?_) (by kernel_rfl) hS ?_ ?_; rotate_left; (focus (intro x hx; have fx := HX.out x hx; go_simp; (try with_reducible rfl); done)); (try simp only [Act.put, List.setIfInBounds_toArray, List.set_cons_zero, List.set_cons_succ]))
          by_cases hpq : pk = qk ∧ pt = qt ∧ pn = qn
          · obtain ⟨rfl, rfl, rfl⟩ := hpq
            (refine wpAnyH_takeW 10 rfl rfl (by kernel_rfl) (by kernel_rfl) (by kernel_rfl) (fun _ _ _ h => h) (v := ?_) (by kernel_rfl) hS ?_ ?_; rotate_left; (focus (intro x hx; have fx := HX.out x hx; go_simp; (try with_reducible rfl); done)); (try simp only [Act.put, List.setIfInBounds_toArray, List.set_cons_zero, List.set_cons_succ]))
            refine wpAnyH_done (by kernel_rfl) ?_ _
            go_wp2_with fail
            go_roundw
            case rel =>
              have hd := HD.out
              rw [decide_eq_true rfl, Bool.true_and] at hd
              exact ⟨k + 1, by omega, by go_num, HBW.out.trans (hS.mono HBW.out.size), hd⟩
            case measure => simp [intOf]; omega
          · refine wpAnyH_takeW 10 rfl rfl (by kernel_rfl) (by kernel_rfl) (by kernel_rfl) (fun _ _ _ h => h) (v := .bool true) (by kernel_rfl) hS (fun x hx => by have fx := HX.out x hx; go_simp; exact fun a b c => hpq ⟨a, b, c⟩) ?_
            simp only [Act.put, List.setIfInBounds_toArray, List.set_cons_zero, List.set_cons_succ]
            refine wpAnyH_done (by kernel_rfl) ?_ _
            have hd := HD.out
            rw [decide_eq_false (fun e => hpq (by injection e with e1 e2 e3; exact ⟨e1, e2, e3⟩)), Bool.false_and] at hd
            have HV := Lib.hid hd; clear hd hpq
            go_wp2_with fail
            go_ret
            exact ⟨ret_bool HV.out, hbw.trans (hS.mono hbw.size)⟩
        · have hd := hf.out
          rw [drop_end hlt] at hd
          have HD := Lib.hid (show v = true by rw [hd]; cases ya.drop k <;> rfl)
          clear hd hf hb
          go_wp2_with fail
          go_ret
          exact ⟨ret_bool HD.out, hbw⟩
    · replace hv : v = false := by rw [hv]; simp; intro h; exact hlen (by rw [h])
      have hlI : ¬ (xa.length : Int) = (ya.length : Int) := by omega
      have HV := Lib.hid hv; clear hv hl hr hlen
      go_enter Tryz.func34, Tryz.ntmps34
      go_wp2_with fail
      go_ret
      exact ⟨ret_bool HV.out, boxed.alloc (by simp) _⟩
  · replace hv : v = false := by rw [hv]; simp [hne]
    have hneb : (xn == yn) = false := by simpa using hne
    have HV := Lib.hid hv; clear hv hl hr
    go_enter Tryz.func34, Tryz.ntmps34
    go_wp2_with fail
    go_ret
    exact ⟨ret_bool HV.out, boxed.alloc (by simp) _⟩
end Go.Proofs.YtjopmgoacncmgaaGreatDoor
