/- Query (package licitlaw54): a part of the proofs of its laws; see the law's own text, which comes last in 'order'. No conditions of its own. -/
import Derived.Test.YtkjoaodoioicpaaGreatDoorWC09
import Derived.Test.YtkjoaodoioicpaaGreatDoorWC28
set_option linter.unusedVariables false
set_option linter.unusedSimpArgs false
namespace Go.Proofs.YtkjoaodoioicpaaGreatDoor
open Go.RowKit
theorem place_any (k : Int) (w : World) : Calls Tryz.prog 82 #[.int .i64 k] w fun e w' => e = .returned (.int .i64 (rankS k)) ∧ w' = w := by
  unfold rankS
  by_cases h3 : k = 3
  · subst h3
    go_enter Tryz.func82, Tryz.ntmps82
    go_wp2
    go_ret
    exact ⟨rfl, rfl⟩
  · have h3b : (k == 3) = false := by simpa using h3
    by_cases h2 : k = 2
    · subst h2
      go_enter Tryz.func82, Tryz.ntmps82
      go_wp2
      go_ret
      exact ⟨rfl, rfl⟩
    · have h2b : (k == 2) = false := by simpa using h2
      rw [if_neg h3, if_neg h2]
      go_enter Tryz.func82, Tryz.ntmps82
      go_wp2
      go_ret
      exact ⟨rfl, rfl⟩
set_option maxRecDepth 100000 in
set_option maxHeartbeats 4000000 in
theorem rcompare_any (a b : Arg) (w : World) :
    Calls Tryz.prog 42 #[vArg a, vArg b] w fun e w' => e = .returned (.int .i64 (rcmpArg a b)) ∧ Below w.heap.size w w' := by
  obtain ⟨v, hv⟩ : ∃ v, v = rcmpArg a b := ⟨_, rfl⟩
  rw [← hv]
  unfold rcmpArg at hv
  obtain ⟨ak, at_, an⟩ := a
  obtain ⟨bk, bt, bn⟩ := b
  simp only at hv
  unfold vArg
  simp only
  have HV := Lib.hid hv; clear hv
  go_enter Tryz.func42, Tryz.ntmps42
  go_wp2_with fail
  have hB0 : ((w.alloc (.cells #[.int .i64 ak, .string ⟨at_.toArray⟩, .int .i64 an] 46)).alloc (.cells #[.int .i64 bk, .string ⟨bt.toArray⟩, .int .i64 bn] 46)).heap[w.heap.size]? = some (.cells #[.int .i64 ak, .string ⟨at_.toArray⟩, .int .i64 an] 46 (0, 0)) := blkOld (blkAt w _ rfl) _
  have hB1 : ((w.alloc (.cells #[.int .i64 ak, .string ⟨at_.toArray⟩, .int .i64 an] 46)).alloc (.cells #[.int .i64 bk, .string ⟨bt.toArray⟩, .int .i64 bn] 46)).heap[w.heap.size + 1]? = some (.cells #[.int .i64 bk, .string ⟨bt.toArray⟩, .int .i64 bn] 46 (0, 0)) := blkAt2 (by simp) rfl
  have hbl : Below w.heap.size w ((w.alloc (.cells #[.int .i64 ak, .string ⟨at_.toArray⟩, .int .i64 an] 46)).alloc (.cells #[.int .i64 bk, .string ⟨bt.toArray⟩, .int .i64 bn] 46)) := boxed.alloc (by simp) _
  generalize (w.alloc (.cells #[.int .i64 ak, .string ⟨at_.toArray⟩, .int .i64 an] 46)).alloc (.cells #[.int .i64 bk, .string ⟨bt.toArray⟩, .int .i64 bn] 46) = W at *
  refine wpH_region (fun x => Below W.heap.size W x) (by kernel_rfl) ?_
  have hS : Below W.heap.size W W.drew := (Below.refl _ _).drew
  have HX := Lib.hid (fun (x : World) (hx : Below W.heap.size W x) => And.intro ((cell_blk (keptBlk hx hB0) 0).trans rfl) (And.intro ((cell_blk (keptBlk hx hB0) 1).trans rfl) (And.intro ((cell_blk (keptBlk hx hB0) 2).trans rfl) (And.intro ((cell_blk (keptBlk hx hB1) 0).trans rfl) (And.intro ((cell_blk (keptBlk hx hB1) 1).trans rfl) ((cell_blk (keptBlk hx hB1) 2).trans rfl))))))
  have HBL := Lib.hid hbl
  clear hB0 hB1 hbl
  (refine tkW 0 (v := ?_) hS ?_ ?_; rotate_left; (focus (intro x hx; have fx := HX.out x hx; go_simp; (try with_reducible rfl); done)); (try simp only [Act.put, lsa, lsz, lss]))
  (refine tkW 1 (v := ?_) hS ?_ ?_; rotate_left; (focus (intro x hx; have fx := HX.out x hx; go_simp; (try with_reducible rfl); done)); (try simp only [Act.put, lsa, lsz, lss]))
  (refine tkW 3 (v := ?_) hS ?_ ?_; rotate_left; (focus (intro x hx; have fx := HX.out x hx; go_simp; (try with_reducible rfl); done)); (try simp only [Act.put, lsa, lsz, lss]))
  (refine tkW 4 (v := ?_) hS ?_ ?_; rotate_left; (focus (intro x hx; have fx := HX.out x hx; go_simp; (try with_reducible rfl); done)); (try simp only [Act.put, lsa, lsz, lss]))
  (refine wpAnyH_one 2 (by kernel_rfl) rfl ?_; intro K' hK'; go_simp; refine (place_any ak _).mono ?_; rintro e w1 ⟨rfl, rfl⟩; refine hK'.out _ _ hS ?_; clear hK' K')
  (refine wpAnyH_one 5 (by kernel_rfl) rfl ?_; intro K' hK'; go_simp; refine (place_any bk _).mono ?_; rintro e w1 ⟨rfl, rfl⟩; refine hK'.out _ _ hS ?_; clear hK' K')
  (refine tkW 6 (v := ?_) hS ?_ ?_; rotate_left; (focus (intro x hx; have fx := HX.out x hx; go_simp; (try with_reducible rfl); done)); (try simp only [Act.put, lsa, lsz, lss]))
  (refine tkW 7 (v := ?_) hS ?_ ?_; rotate_left; (focus (intro x hx; have fx := HX.out x hx; go_simp; (try with_reducible rfl); done)); (try simp only [Act.put, lsa, lsz, lss]))
  refine wpAnyH_done (by kernel_rfl) ?_ _
  obtain ⟨q0, q1, q2, q3, q4, q5⟩ := HX.out W.drew hS
  have hS2 := Lib.hid hS; clear hS HX
  go_wp2_with fail
  all_goals (go_ret; refine ⟨ret_int ?_, HBL.out.trans (hS2.out.mono HBL.out.size)⟩; rw [HV.out]; clear HV HBL hS2 q0 q1 q2 q3 q4 q5)
  all_goals first | (simp_all [less_ltB]; done) | (simp_all [less_ltB]; omega)
end Go.Proofs.YtkjoaodoioicpaaGreatDoor
namespace Go.Proofs.YtkjoaodoioicpaaGreatDoor
open Go.RowKit
set_option maxRecDepth 100000 in
set_option maxHeartbeats 4000000 in
theorem rorder_any (x y : Atm) (A : Option Addr) (n c : Nat) (B : Option Addr) (m d : Nat) (w : World) (S T : Nat → Prop) (hl : Sl w S A n c x.args) (hr : Sl w T B m d y.args) :
    Calls Tryz.prog 18 #[.agg #[.string ⟨x.name.toArray⟩, .slice A n c], .agg #[.string ⟨y.name.toArray⟩, .slice B m d]] w fun e w' => e = .returned (.int .i64 (rordS x y)) ∧ Below w.heap.size w w' := by
  obtain ⟨v, hv⟩ : ∃ v, v = rordS x y := ⟨_, rfl⟩
  rw [← hv]
  unfold rordS at hv
  obtain ⟨xn, xa⟩ := x
  obtain ⟨yn, ya⟩ := y
  simp only at hl hr hv ⊢
  have hn := hl.len; have hm := hr.len
  subst hn hm
  have hle := hl.le; have hle2 := hr.le
  by_cases hne : xn = yn
  · subst hne
    by_cases hlen : xa.length = ya.length
    · replace hv : v = rcmpArgs (xa.drop 0) (ya.drop 0) := by rw [hv]; simp [hlen]
      rw [← hlen] at hr hle2
      rw [← hlen]
      have hk0 : ya.length = xa.length := hlen.symm
      have HF := Lib.hid hv; have HL := Lib.hid hl; have HR := Lib.hid hr; have HK := Lib.hid hk0
      clear hv hl hr hlen hk0
      go_enter Tryz.func18, Tryz.ntmps18
      go_wp2_with fail
      have hB0 : ((w.alloc (.cells #[.string ⟨xn.toArray⟩, .slice A xa.length c] 31)).alloc (.cells #[.string ⟨xn.toArray⟩, .slice B xa.length d] 31)).heap[w.heap.size]? = some (.cells #[.string ⟨xn.toArray⟩, .slice A xa.length c] 31 (0, 0)) := blkOld (blkAt w _ rfl) _
      have hB1 : ((w.alloc (.cells #[.string ⟨xn.toArray⟩, .slice A xa.length c] 31)).alloc (.cells #[.string ⟨xn.toArray⟩, .slice B xa.length d] 31)).heap[w.heap.size + 1]? = some (.cells #[.string ⟨xn.toArray⟩, .slice B xa.length d] 31 (0, 0)) := blkAt2 (by simp) rfl
      have hbl : Below w.heap.size w ((w.alloc (.cells #[.string ⟨xn.toArray⟩, .slice A xa.length c] 31)).alloc (.cells #[.string ⟨xn.toArray⟩, .slice B xa.length d] 31)) := boxed.alloc (by simp) _
      generalize (w.alloc (.cells #[.string ⟨xn.toArray⟩, .slice A xa.length c] 31)).alloc (.cells #[.string ⟨xn.toArray⟩, .slice B xa.length d] 31) = W at *
      have HB0 := Lib.hid hB0; have HB1 := Lib.hid hB1; have HBL := Lib.hid hbl
      clear hB0 hB1 hbl
      go_loopw [5] (fun i wr => ∃ k : Nat, k ≤ xa.length ∧ i = .int .i64 k ∧ Below W.heap.size W wr ∧ Hid (v = rcmpArgs (xa.drop k) (ya.drop k))) (fun i _ => xa.length - (intOf i).toNat)
      case atStart => exact ⟨0, by omega, rfl, Below.refl _ _, HF⟩
      case round =>
        obtain ⟨k, hk, rfl, hb, hf⟩ := hrel
        have hbw : Below w.heap.size w wr := HBL.out.trans (hb.mono HBL.out.size)
        have k1 := (cell_blk (keptBlk hb HB0.out) 1).trans rfl; have k2 := (cell_blk (keptBlk hb HB1.out) 1).trans rfl
        by_cases hlt : k < xa.length
        · obtain ⟨b1, o1, rfl, -, hbs1, h1, h2, h3⟩ := (HL.out.below hbw).arg hlt
          obtain ⟨b2, o2, rfl, -, hbs2, g1, g2, g3⟩ := (HR.out.below hbw).arg (k := k) (by have := HK.out; omega)
          have hd := hf.out
          rw [drop_get hlt, drop_get (l := ya) (k := k) (by have := HK.out; omega), rcmpArgs] at hd
          have hca := fun w => rcompare_any xa[k] (ya[k]'(by have := HK.out; omega)) w
          generalize xa[k] = p at *
          generalize ya[k]'_ = q at *
          unfold vArg at hca
          generalize rcmpArg p q = cv at *
          have HD := Lib.hid hd; have HCA := Lib.hid hca
          have HX := Lib.hid (fun (x : World) (hx : Below wr.heap.size wr x) => And.intro (cell_later hx k1) (And.intro (cell_later hx k2) (And.intro (cell_later hx h1) (And.intro (cell_later hx h2) (And.intro (cell_later hx h3) (And.intro (cell_later hx g1) (And.intro (cell_later hx g2) (cell_later hx g3))))))))
          have HBW := Lib.hid hb
          clear hd hca hf
          go_wp2_with fail
          refine wpH_region (fun x => Below wr.heap.size wr x) (by kernel_rfl) ?_
          have hS : Below wr.heap.size wr wr.drew := (Below.refl _ _).drew
          clear h1 h2 h3 g1 g2 g3 k1 k2 hb
          (refine tkW 0 (v := ?_) hS ?_ ?_; rotate_left; (focus (intro x hx; have fx := HX.out x hx; go_simp; (try with_reducible rfl); done)); (try simp only [Act.put, lsa, lsz, lss]))
          (refine tkW 1 (v := ?_) hS ?_ ?_; rotate_left; (focus (intro x hx; have fx := HX.out x hx; go_simp; (try with_reducible rfl); done)); (try simp only [Act.put, lsa, lsz, lss]))
          (refine tkW 2 (v := ?_) hS ?_ ?_; rotate_left; (focus (intro x hx; have fx := HX.out x hx; go_simp; (try with_reducible rfl); done)); (try simp only [Act.put, lsa, lsz, lss]))
          (refine tkW 3 (v := ?_) hS ?_ ?_; rotate_left; (focus (intro x hx; have fx := HX.out x hx; go_simp; (try with_reducible rfl); done)); (try simp only [Act.put, lsa, lsz, lss]))
          (refine tkW 4 (v := ?_) hS ?_ ?_; rotate_left; (focus (intro x hx; have fx := HX.out x hx; go_simp; (try with_reducible rfl); done)); (try simp only [Act.put, lsa, lsz, lss]))
          (refine tkW 5 (v := ?_) hS ?_ ?_; rotate_left; (focus (intro x hx; have fx := HX.out x hx; go_simp; (try with_reducible rfl); done)); (try simp only [Act.put, lsa, lsz, lss]))
          (refine tkW 6 (v := ?_) hS ?_ ?_; rotate_left; (focus (intro x hx; have fx := HX.out x hx; go_simp; (try with_reducible rfl); done)); (try simp only [Act.put, lsa, lsz, lss]))
          (refine tkW 7 (v := ?_) hS ?_ ?_; rotate_left; (focus (intro x hx; have fx := HX.out x hx; go_simp; (try with_reducible rfl); done)); (try simp only [Act.put, lsa, lsz, lss]))
          (refine tkW 8 (v := ?_) hS ?_ ?_; rotate_left; (focus (intro x hx; have fx := HX.out x hx; go_simp; (try with_reducible rfl); done)); (try simp only [Act.put, lsa, lsz, lss]))
          (refine tkW 9 (v := ?_) hS ?_ ?_; rotate_left; (focus (intro x hx; have fx := HX.out x hx; go_simp; (try with_reducible rfl); done)); (try simp only [Act.put, lsa, lsz, lss]))
          (refine wpAnyH_one 10 (by kernel_rfl) rfl ?_; intro K' hK'; go_simp; refine (HCA.out _).mono ?_; rintro e w5 ⟨rfl, hb5⟩; have hS := hS.trans (hb5.mono hS.size); refine hK'.out _ _ hS ?_; clear hK' K')
          (refine tkW 11 (v := ?_) hS ?_ ?_; rotate_left; (focus (intro x hx; have fx := HX.out x hx; go_simp; (try with_reducible rfl); done)); (try simp only [Act.put, lsa, lsz, lss]))
          refine wpAnyH_done (by kernel_rfl) ?_ _
          by_cases hc0 : cv = 0
          · have hcb : (cv == 0) = true := by simpa using hc0
            have HC0 := Lib.hid hc0; clear hc0
            go_wp2_with fail
            go_roundw
            case rel =>
              have hd := HD.out
              rw [if_neg (by simp [HC0.out])] at hd
              exact ⟨k + 1, by omega, by go_num, HBW.out.trans (hS.mono HBW.out.size), hd⟩
            case measure => simp [intOf]; omega
          · have hcb : (cv == 0) = false := by simpa using hc0
            have HC0 := Lib.hid hc0; clear hc0
            go_wp2_with fail
            go_ret
            have hd := HD.out
            rw [if_pos HC0.out] at hd
            exact ⟨ret_int hd, hbw.trans (hS.mono hbw.size)⟩
        · have hd := hf.out
          rw [drop_end hlt] at hd
          have HD := Lib.hid (show v = 0 by rw [hd]; cases ya.drop k <;> rfl)
          clear hd hf hb
          go_wp2_with fail
          go_ret
          exact ⟨ret_int HD.out, hbw⟩
    · replace hv : v = if xa.length < ya.length then -1 else 1 := by rw [hv]; simp [hlen]
      have hlI : ¬ (xa.length : Int) = (ya.length : Int) := by omega
      have HV := Lib.hid hv; clear hv hl hr hlen
      go_enter Tryz.func18, Tryz.ntmps18
      go_wp2_with fail
      all_goals (go_ret; refine ⟨ret_int ?_, boxed.alloc (by simp) _⟩; rw [HV.out])
      · rw [if_pos (by omega)]
      · rw [if_neg (by omega)]
  · replace hv : v = if ltB xn yn = true then -1 else 1 := by rw [hv]; simp [hne]
    have hneb : (xn == yn) = false := by simpa using hne
    have HV := Lib.hid hv; clear hv hl hr
    go_enter Tryz.func18, Tryz.ntmps18
    go_wp2_with fail
    all_goals (go_ret; refine ⟨ret_int ?_, boxed.alloc (by simp) _⟩; rw [HV.out])
    · rename_i h; rw [less_ltB] at h; rw [if_pos h]
    · rename_i h; rw [less_ltB] at h; rw [if_neg (by simp [h])]
end Go.Proofs.YtkjoaodoioicpaaGreatDoor
namespace Go.Proofs.YtkjoaodoioicpaaGreatDoor
open Go.RowKit
def sameAs : List Arg → List Arg → Bool
  | a :: r, b :: t => decide (a = b) && sameAs r t
  | _, _ => true
theorem sameAs_eq (l : List Arg) : ∀ t, l.length = t.length → sameAs l t = decide (l = t) := by
  induction l with
  | nil => intro t h; cases t with
    | nil => rfl
    | cons b t => simp at h
  | cons a r ih => intro t h; cases t with
    | nil => simp at h
    | cons b t =>
      simp only [List.length_cons, Nat.add_right_cancel_iff] at h
      simp only [sameAs, ih t h, List.cons.injEq, Bool.decide_and]
set_option maxRecDepth 100000 in
set_option maxHeartbeats 4000000 in
theorem sameAtom_any (x y : Atm) (A : Option Addr) (n c : Nat) (B : Option Addr) (m d : Nat) (w : World) (S T : Nat → Prop) (hl : Sl w S A n c x.args) (hr : Sl w T B m d y.args) :
    Calls Tryz.prog 29 #[.agg #[.string ⟨x.name.toArray⟩, .slice A n c], .agg #[.string ⟨y.name.toArray⟩, .slice B m d]] w fun e w' => e = .returned (.bool (decide (x = y))) ∧ Below w.heap.size w w' := by
  obtain ⟨v, hv⟩ : ∃ v, v = decide (x = y) := ⟨_, rfl⟩
  rw [← hv]
  obtain ⟨xn, xa⟩ := x
  obtain ⟨yn, ya⟩ := y
  simp only at hl hr hv ⊢
  have hn := hl.len; have hm := hr.len
  subst hn hm
  have hle := hl.le; have hle2 := hr.le
  by_cases hne : xn = yn
  · subst hne
    by_cases hlen : xa.length = ya.length
    · replace hv : v = sameAs (xa.drop 0) (ya.drop 0) := by rw [hv]; simp [sameAs_eq _ _ hlen]
      rw [← hlen] at hr hle2
      rw [← hlen]
      have hk0 : ya.length = xa.length := hlen.symm
      have HF := Lib.hid hv; have HL := Lib.hid hl; have HR := Lib.hid hr; have HK := Lib.hid hk0
      clear hv hl hr hlen hk0
      go_enter Tryz.func29, Tryz.ntmps29
      go_wp2_with fail
      have hB0 : ((w.alloc (.cells #[.string ⟨xn.toArray⟩, .slice A xa.length c] 31)).alloc (.cells #[.string ⟨xn.toArray⟩, .slice B xa.length d] 31)).heap[w.heap.size]? = some (.cells #[.string ⟨xn.toArray⟩, .slice A xa.length c] 31 (0, 0)) := blkOld (blkAt w _ rfl) _
      have hB1 : ((w.alloc (.cells #[.string ⟨xn.toArray⟩, .slice A xa.length c] 31)).alloc (.cells #[.string ⟨xn.toArray⟩, .slice B xa.length d] 31)).heap[w.heap.size + 1]? = some (.cells #[.string ⟨xn.toArray⟩, .slice B xa.length d] 31 (0, 0)) := blkAt2 (by simp) rfl
      have hbl : Below w.heap.size w ((w.alloc (.cells #[.string ⟨xn.toArray⟩, .slice A xa.length c] 31)).alloc (.cells #[.string ⟨xn.toArray⟩, .slice B xa.length d] 31)) := boxed.alloc (by simp) _
      generalize (w.alloc (.cells #[.string ⟨xn.toArray⟩, .slice A xa.length c] 31)).alloc (.cells #[.string ⟨xn.toArray⟩, .slice B xa.length d] 31) = W at *
      have HB0 := Lib.hid hB0; have HB1 := Lib.hid hB1; have HBL := Lib.hid hbl
      clear hB0 hB1 hbl
      go_loopw [5] (fun i wr => ∃ k : Nat, k ≤ xa.length ∧ i = .int .i64 k ∧ Below W.heap.size W wr ∧ Hid (v = sameAs (xa.drop k) (ya.drop k))) (fun i _ => xa.length - (intOf i).toNat)
      case atStart => exact ⟨0, by omega, rfl, Below.refl _ _, HF⟩
      case round =>
        obtain ⟨k, hk, rfl, hb, hf⟩ := hrel
        have hbw : Below w.heap.size w wr := HBL.out.trans (hb.mono HBL.out.size)
        have k1 := (cell_blk (keptBlk hb HB0.out) 1).trans rfl; have k2 := (cell_blk (keptBlk hb HB1.out) 1).trans rfl
        by_cases hlt : k < xa.length
        · obtain ⟨b1, o1, rfl, -, hbs1, h1, h2, h3⟩ := (HL.out.below hbw).arg hlt
          obtain ⟨b2, o2, rfl, -, hbs2, g1, g2, g3⟩ := (HR.out.below hbw).arg (k := k) (by have := HK.out; omega)
          have hd := hf.out
          rw [drop_get hlt, drop_get (l := ya) (k := k) (by have := HK.out; omega), sameAs] at hd
          generalize xa[k] = p at *
          generalize ya[k]'_ = q at *
          obtain ⟨pk, pt, pn⟩ := p
          obtain ⟨qk, qt, qn⟩ := q
          simp only at h1 h2 h3 g1 g2 g3
          have HD := Lib.hid hd
          have HX := Lib.hid (fun (x : World) (hx : Below wr.heap.size wr x) => And.intro (cell_later hx k1) (And.intro (cell_later hx k2) (And.intro (cell_later hx h1) (And.intro (cell_later hx h2) (And.intro (cell_later hx h3) (And.intro (cell_later hx g1) (And.intro (cell_later hx g2) (cell_later hx g3))))))))
          have HBW := Lib.hid hb
          clear hd hf
          go_wp2_with fail
          refine wpH_region (fun x => Below wr.heap.size wr x) (by kernel_rfl) ?_
          have hS : Below wr.heap.size wr wr.drew := (Below.refl _ _).drew
          clear h1 h2 h3 g1 g2 g3 k1 k2 hb
          (refine tkW 0 (v := ?_) hS ?_ ?_; rotate_left; (focus (intro x hx; have fx := HX.out x hx; go_simp; (try with_reducible rfl); done)); (try simp only [Act.put, lsa, lsz, lss]))
          (refine tkW 1 (v := ?_) hS ?_ ?_; rotate_left; (focus (intro x hx; have fx := HX.out x hx; go_simp; (try with_reducible rfl); done)); (try simp only [Act.put, lsa, lsz, lss]))
          (refine tkW 2 (v := ?_) hS ?_ ?_; rotate_left; (focus (intro x hx; have fx := HX.out x hx; go_simp; (try with_reducible rfl); done)); (try simp only [Act.put, lsa, lsz, lss]))
          (refine tkW 3 (v := ?_) hS ?_ ?_; rotate_left; (focus (intro x hx; have fx := HX.out x hx; go_simp; (try with_reducible rfl); done)); (try simp only [Act.put, lsa, lsz, lss]))
          (refine tkW 4 (v := ?_) hS ?_ ?_; rotate_left; (focus (intro x hx; have fx := HX.out x hx; go_simp; (try with_reducible rfl); done)); (try simp only [Act.put, lsa, lsz, lss]))
          (refine tkW 5 (v := ?_) hS ?_ ?_; rotate_left; (focus (intro x hx; have fx := HX.out x hx; go_simp; (try with_reducible rfl); done)); (try simp only [Act.put, lsa, lsz, lss]))
          (refine tkW 6 (v := ?_) hS ?_ ?_; rotate_left; (focus (intro x hx; have fx := HX.out x hx; go_simp; (try with_reducible rfl); done)); (try simp only [Act.put, lsa, lsz, lss]))
          (refine tkW 7 (v := ?_) hS ?_ ?_; rotate_left; (focus (intro x hx; have fx := HX.out x hx; go_simp; (try with_reducible rfl); done)); (try simp only [Act.put, lsa, lsz, lss]))
          (refine tkW 8 (v := ?_) hS ?_ ?_; rotate_left; (focus (intro x hx; have fx := HX.out x hx; go_simp; (try with_reducible rfl); done)); (try simp only [Act.put, lsa, lsz, lss]))
          (refine tkW 9 (v := ?_) hS ?_ ?_; rotate_left; (focus (intro x hx; have fx := HX.out x hx; go_simp; (try with_reducible rfl); done)); (try simp only [Act.put, lsa, lsz, lss]))
          by_cases hpq : pk = qk ∧ pt = qt ∧ pn = qn
          · obtain ⟨rfl, rfl, rfl⟩ := hpq
            (refine tkW 10 (v := ?_) hS ?_ ?_; rotate_left; (focus (intro x hx; have fx := HX.out x hx; go_simp; (try with_reducible rfl); done)); (try simp only [Act.put, lsa, lsz, lss]))
            refine wpAnyH_done (by kernel_rfl) ?_ _
            go_wp2_with fail
            go_roundw
            case rel =>
              have hd := HD.out
              rw [decide_eq_true rfl, Bool.true_and] at hd
              exact ⟨k + 1, by omega, by go_num, HBW.out.trans (hS.mono HBW.out.size), hd⟩
            case measure => simp [intOf]; omega
          · refine wpAnyH_takeW 10 rfl rfl (by kernel_rfl) (by kernel_rfl) (by kernel_rfl) (fun _ _ _ h => h) (v := .bool true) (by kernel_rfl) hS (fun x hx => by have fx := HX.out x hx; go_simp; exact fun a b c => hpq ⟨a, b, c⟩) ?_
            simp only [Act.put, lsa, lsz, lss]
            refine wpAnyH_done (by kernel_rfl) ?_ _
            have hd := HD.out
            rw [decide_eq_false (fun e => hpq (by injection e with e1 e2 e3; exact ⟨e1, e2, e3⟩)), Bool.false_and] at hd
            have HV := Lib.hid hd; clear hd hpq
            go_wp2_with fail
            go_ret
            exact ⟨ret_bool HV.out, hbw.trans (hS.mono hbw.size)⟩
        · have hd := hf.out
          rw [drop_end hlt] at hd
          have HD := Lib.hid (show v = true by rw [hd]; cases ya.drop k <;> rfl)
          clear hd hf hb
          go_wp2_with fail
          go_ret
          exact ⟨ret_bool HD.out, hbw⟩
    · replace hv : v = false := by rw [hv]; simp; intro h; exact hlen (by rw [h])
      have hlI : ¬ (xa.length : Int) = (ya.length : Int) := by omega
      have HV := Lib.hid hv; clear hv hl hr hlen
      go_enter Tryz.func29, Tryz.ntmps29
      go_wp2_with fail
      go_ret
      exact ⟨ret_bool HV.out, boxed.alloc (by simp) _⟩
  · replace hv : v = false := by rw [hv]; simp [hne]
    have hneb : (xn == yn) = false := by simpa using hne
    have HV := Lib.hid hv; clear hv hl hr
    go_enter Tryz.func29, Tryz.ntmps29
    go_wp2_with fail
    go_ret
    exact ⟨ret_bool HV.out, boxed.alloc (by simp) _⟩
end Go.Proofs.YtkjoaodoioicpaaGreatDoor
namespace Go.Proofs.YtkjoaodoioicpaaGreatDoor
open Go.RowKit
theorem posR_any (l : Ltl) (A : Option Addr) (n c : Nat) (w : World) :
    Calls Tryz.prog 25 #[.agg #[.bool l.neg, .string ⟨l.op.toArray⟩, .string ⟨l.atom.name.toArray⟩, .slice A n c]] w fun e w' => e = .returned (.bool (positiveS l)) ∧ Below w.heap.size w w' := by
  obtain ⟨neg, op, nm, args⟩ := l
  have hv : positiveS ⟨neg, op, nm, args⟩ = (op.isEmpty && !neg) := rfl
  simp only at *
  cases op with
  | nil =>
    cases neg
    all_goals
      go_enter Tryz.func25, Tryz.ntmps25
      go_wp2_with fail
      go_ret
      exact ⟨ret_bool (by rw [hv]; rfl), boxed⟩
  | cons x r =>
    go_enter Tryz.func25, Tryz.ntmps25
    go_wp2_with fail
    go_ret
    exact ⟨ret_bool (by rw [hv]; rfl), boxed⟩
set_option maxHeartbeats 1000000 in
theorem has54_any (A : Option Addr) (n c : Nat) (l : List Bs) (s : Bs) (w : World) (S : Nat → Prop) (hl : Sl w S A n c l) :
    Calls Tryz.prog 53 #[.slice A n c, .string ⟨s.toArray⟩] w fun e w' => e = .returned (.bool (l.contains s)) ∧ w' = w := by
  obtain ⟨v, hv⟩ : ∃ v, v = l.contains s := ⟨_, rfl⟩
  rw [← hv]
  have hn := hl.len
  subst hn
  have hle := hl.le
  have Hf : Hid (v = (l.drop 0).contains s) := hv
  have HL := Lib.hid hl; clear hv hl
  go_enter Tryz.func53, Tryz.ntmps53
  go_wp2_with fail
  go_loop [5] (fun i => ∃ k : Nat, k ≤ l.length ∧ i = .int .i64 k ∧ Hid (v = (l.drop k).contains s)) (fun i => l.length - (intOf i).toNat)
  case atStart => exact ⟨0, by omega, rfl, Hf⟩
  case round =>
    obtain ⟨k, hk, rfl, hf⟩ := hrel
    by_cases hlt : k < l.length
    · obtain ⟨b, o, rfl, -, hbs, h1⟩ := HL.out.str hlt
      have hd := hf.out
      rw [drop_get hlt, List.contains_cons] at hd
      generalize l[k] = x at *
      by_cases hx : s = x
      · have hxb : (x == s) = true := by simp [hx]
        have HD := Lib.hid (show v = true by rw [hd, hx]; simp); clear hd hf hx
        go_wp2_with fail
        go_ret
        exact ⟨ret_bool HD.out, rfl⟩
      · have hxb : (x == s) = false := by rw [beq_eq_false_iff_ne]; exact fun e => hx e.symm
        have HD := Lib.hid (show v = (l.drop (k + 1)).contains s by rw [hd]; simp [hx]); clear hd hf hx
        go_wp2_with fail
        go_round
        case rel => exact ⟨k + 1, by omega, by go_num, HD.out⟩
        case measure => simp [intOf]; omega
    · have hd := hf.out
      rw [drop_end hlt] at hd
      have HD := Lib.hid (show v = false from hd); clear hd hf
      go_wp2_with fail
      go_ret
      exact ⟨ret_bool HD.out, rfl⟩
theorem power_any (n k : Int) (hk : -9223372036854775808 ≤ k ∧ k ≤ 9223372036854775807) (w : World) :
    Calls Tryz.prog 54 #[.int .i64 n, .int .i64 k] w fun e w' => (∃ z, e = .returned (.int .i64 z)) ∧ w' = w := by
  go_enter Tryz.func54, Tryz.ntmps54
  go_wp2_with fail
  go_loop [5, 6] (fun o i => ∃ j : Nat, (j : Int) ≤ max k 0 ∧ i = .int .i64 j ∧ ∃ z, o = .int .i64 z) (fun _ i => (max k 0).toNat - (intOf i).toNat)
  case atStart => exact ⟨0, by omega, rfl, 1, rfl⟩
  case round =>
    obtain ⟨j, hj, rfl, z, rfl⟩ := hrel
    by_cases hlt : (j : Int) < k
    · by_cases hz : z < 1000000
      · go_wp2_with fail
        go_round
        case rel => exact ⟨j + 1, by omega, by go_num, _, rfl⟩
        case measure => simp [intOf]; omega
      · go_wp2_with fail
        go_ret
        exact ⟨⟨z, by rfl⟩, rfl⟩
    · go_wp2_with fail
      go_ret
      exact ⟨⟨z, by rfl⟩, rfl⟩
set_option maxRecDepth 100000 in
set_option maxHeartbeats 4000000 in
theorem indexR_any (l : List Atm) (y : Atm) (A : Option Addr) (n c : Nat) (B : Option Addr) (m d : Nat) (w : World) (S T : Nat → Prop) (hl : Sl w S A n c l) (hr : Sl w T B m d y.args) :
    Calls Tryz.prog 30 #[.slice A n c, .agg #[.string ⟨y.name.toArray⟩, .slice B m d]] w fun e w' => (∃ z : Int, e = .returned (.int .i64 z) ∧ -1 ≤ z ∧ z ≤ 9223372036854775807 ∧ decide (0 ≤ z) = hasQ l y) ∧ Below w.heap.size w w' := by
  have hn := hl.len
  subst hn
  have hle := hl.le
  obtain ⟨v, hv⟩ : ∃ v, v = hasQ l y := ⟨_, rfl⟩
  rw [← hv]
  unfold hasQ at hv
  replace hv : v = (l.drop 0).contains y := hv
  have HL := Lib.hid hl; have HR := Lib.hid hr; have HF := Lib.hid hv
  clear hl hr hv
  go_enter Tryz.func30, Tryz.ntmps30
  go_wp2_with fail
  have hB0 := blkAt w (.cells #[.string ⟨y.name.toArray⟩, .slice B m d] 31) rfl
  have hbl : Below w.heap.size w (w.alloc (.cells #[.string ⟨y.name.toArray⟩, .slice B m d] 31)) := boxed
  generalize w.alloc (.cells #[.string ⟨y.name.toArray⟩, .slice B m d] 31) = W at *
  have HB0 := Lib.hid hB0; have HBL := Lib.hid hbl
  clear hB0 hbl
  go_loopw [5] (fun i wr => ∃ k : Nat, k ≤ l.length ∧ i = .int .i64 k ∧ Below W.heap.size W wr ∧ Hid (v = (l.drop k).contains y)) (fun i _ => l.length - (intOf i).toNat)
  case atStart => exact ⟨0, by omega, rfl, Below.refl _ _, HF⟩
  case round =>
    obtain ⟨k, hk, rfl, hb, hf⟩ := hrel
    have hbw : Below w.heap.size w wr := HBL.out.trans (hb.mono HBL.out.size)
    have k1 := (cell_blk (keptBlk hb HB0.out) 0).trans rfl; have k2 := (cell_blk (keptBlk hb HB0.out) 1).trans rfl
    by_cases hlt : k < l.length
    · obtain ⟨b1, o1, rfl, -, hbs1, A1, n1, c1, h1, h2, hs1⟩ := (HL.out.below hbw).atm hlt
      have hd := hf.out
      rw [drop_get hlt, List.contains_cons] at hd
      generalize l[k] = x at *
      have hsm := fun w' (hb' : Below wr.heap.size wr w') => sameAtom_any x y A1 n1 c1 B m d w' _ _ (hs1.below hb') ((HR.out.below hbw).below hb')
      have HX := Lib.hid (fun (z : World) (hz : Below wr.heap.size wr z) => And.intro (cell_later hz k1) (And.intro (cell_later hz k2) (And.intro (cell_later hz h1) (cell_later hz h2))))
      have HD := Lib.hid hd; have HSM := Lib.hid hsm; have HB := Lib.hid hb
      clear hd hf hsm hs1
      go_wp2_with fail
      refine wpH_region (fun z => Below wr.heap.size wr z) (by kernel_rfl) ?_
      have hS : Below wr.heap.size wr wr.drew := (Below.refl _ _).drew
      clear h1 h2 k1 k2 hb
      (refine tkW 0 (v := ?_) hS ?_ ?_; rotate_left; (focus (intro x hx; have fx := HX.out x hx; go_simp; (try with_reducible rfl); done)); (try simp only [Act.put, lsa, lsz, lss]))
      (refine tkW 1 (v := ?_) hS ?_ ?_; rotate_left; (focus (intro x hx; have fx := HX.out x hx; go_simp; (try with_reducible rfl); done)); (try simp only [Act.put, lsa, lsz, lss]))
      (refine tkW 2 (v := ?_) hS ?_ ?_; rotate_left; (focus (intro x hx; have fx := HX.out x hx; go_simp; (try with_reducible rfl); done)); (try simp only [Act.put, lsa, lsz, lss]))
      (refine tkW 3 (v := ?_) hS ?_ ?_; rotate_left; (focus (intro x hx; have fx := HX.out x hx; go_simp; (try with_reducible rfl); done)); (try simp only [Act.put, lsa, lsz, lss]))
      (refine tkW 4 (v := ?_) hS ?_ ?_; rotate_left; (focus (intro x hx; have fx := HX.out x hx; go_simp; (try with_reducible rfl); done)); (try simp only [Act.put, lsa, lsz, lss]))
      (refine wpAnyH_one 5 (by kernel_rfl) rfl ?_; intro K' hK'; go_simp; refine (HSM.out _ hS).mono ?_; rintro e w5 ⟨rfl, hb5⟩; have hS := hS.trans (hb5.mono hS.size); refine hK'.out _ _ hS ?_; clear hK' K')
      refine wpAnyH_done (by kernel_rfl) ?_ _
      have hw5 := hS.size
      by_cases hxy : x = y
      · rw [decide_eq_true hxy]
        have HV := Lib.hid (show v = true by rw [HD.out, hxy]; simp)
        clear hxy
        go_wp2_with fail
        go_ret
        exact ⟨⟨_, rfl, by omega, by omega, by rw [HV.out]; simp⟩, hbw.trans (hS.mono hbw.size)⟩
      · rw [decide_eq_false hxy]
        have HV := Lib.hid (show v = (l.drop (k + 1)).contains y by rw [HD.out]; simp [show ¬ y = x from fun e => hxy e.symm])
        clear hxy
        have HB6 := Lib.hid (HB.out.trans (hS.mono HB.out.size))
        clear hS
        go_wp2_with fail
        go_roundw
        case rel => exact ⟨k + 1, by omega, by go_num, HB6.out, HV⟩
        case measure => simp [intOf]; omega
    · have hd := hf.out
      rw [drop_end hlt] at hd
      have HD := Lib.hid (show v = false from hd)
      clear hd hf hb k1 k2
      go_wp2_with fail
      go_ret
      exact ⟨⟨_, rfl, by omega, by omega, by rw [HD.out]; rfl⟩, hbw⟩
set_option maxHeartbeats 1000000 in
theorem hasR_any (l : List Atm) (y : Atm) (A : Option Addr) (n c : Nat) (B : Option Addr) (m d : Nat) (w : World) (S T : Nat → Prop) (hl : Sl w S A n c l) (hr : Sl w T B m d y.args) :
    Calls Tryz.prog 14 #[.slice A n c, .agg #[.string ⟨y.name.toArray⟩, .slice B m d]] w fun e w' => e = .returned (.bool (hasQ l y)) ∧ Below w.heap.size w w' := by
  have hi := indexR_any l y A n c B m d (w.alloc (.cells #[.string ⟨y.name.toArray⟩, .slice B m d] 31)) S T (hl.alloc _) (hr.alloc _)
  generalize hasQ l y = v at *
  have HI := Lib.hid hi
  clear hi hl hr
  go_enter Tryz.func14, Tryz.ntmps14
  go_wp2_with fail
  refine HI.out.mono ?_
  rintro e w1 ⟨⟨z, rfl, h1, h2, h3⟩, hb1⟩
  have H3 := Lib.hid h3; have HB := Lib.hid hb1; clear h3 hb1
  go_wp2_with fail
  go_ret
  exact ⟨ret_bool (by rw [← H3.out]; try rfl), boxed.trans (HB.out.mono (by simp))⟩
set_option maxRecDepth 100000 in
set_option maxHeartbeats 4000000 in
theorem sameR_any (l r : List Atm) (A : Option Addr) (n c : Nat) (B : Option Addr) (m d : Nat) (w : World) (S T : Nat → Prop) (hl : Sl w S A n c l) (hr : Sl w T B m d r) :
    Calls Tryz.prog 12 #[.slice A n c, .slice B m d] w fun e w' => e = .returned (.bool (decide (l = r))) ∧ Below w.heap.size w w' := by
  obtain ⟨v, hv⟩ : ∃ v, v = decide (l = r) := ⟨_, rfl⟩
  rw [← hv]
  have hn := hl.len; have hm := hr.len
  subst hn hm
  have hle := hl.le; have hle2 := hr.le
  by_cases hlen : l.length = r.length
  · have hlb : ((l.length : Int) == (r.length : Int)) = true := by simp [hlen]
    have hlI : (l.length : Int) = (r.length : Int) := by omega
    have HV : Hid (v = decide (l.drop 0 = r.drop 0)) := hv
    have HL := Lib.hid hl; have HR := Lib.hid hr; have HLEN := Lib.hid hlen
    clear hv hl hr
    go_enter Tryz.func12, Tryz.ntmps12
    go_wp2_with fail
    clear hlb hlen hlI
    go_loopw [5] (fun i wr => ∃ k : Nat, k ≤ l.length ∧ i = .int .i64 k ∧ Below w.heap.size w wr ∧ Hid (v = decide (l.drop k = r.drop k))) (fun i _ => l.length - (intOf i).toNat)
    case atStart => exact ⟨0, by omega, rfl, Below.refl _ _, HV⟩
    case round =>
      obtain ⟨k, hk, rfl, hb, hf⟩ := hrel
      have hwr := hb.size
      by_cases hlt : k < l.length
      · have hlt2 : k < r.length := by have := HLEN.out; omega
        obtain ⟨b, o, rfl, -, hbs, A1, n1, c1, h1, h2, hs1⟩ := (HL.out.below hb).atm hlt
        obtain ⟨b', o', rfl, -, hbs', B1, m1, d1, g1, g2, ht1⟩ := (HR.out.below hb).atm hlt2
        have hd := hf.out
        rw [drop_get hlt, drop_get hlt2] at hd
        generalize l[k] = x at *
        generalize r[k] = y at *
        have hsm := fun w' (hb' : Below wr.heap.size wr w') => sameAtom_any x y A1 n1 c1 B1 m1 d1 w' _ _ (hs1.below hb') (ht1.below hb')
        have HX := Lib.hid (fun (z : World) (hz : Below wr.heap.size wr z) => And.intro (cell_later hz h1) (And.intro (cell_later hz h2) (And.intro (cell_later hz g1) (cell_later hz g2))))
        have HD := Lib.hid hd; have HSM := Lib.hid hsm; have HB := Lib.hid hb
        clear hd hf hsm hs1 ht1
        have k0 : (0 : Int) ≤ (k : Int) := by omega
        have k1 : (k : Int) < (l.length : Int) := by omega
        have k2 : (k : Int) < (r.length : Int) := by omega
        go_wp2_with fail
        refine wpH_region (fun z => Below wr.heap.size wr z) (by kernel_rfl) ?_
        have hS : Below wr.heap.size wr wr.drew := (Below.refl _ _).drew
        clear h1 h2 g1 g2 hb
        (refine tkW 0 (v := ?_) hS ?_ ?_; rotate_left; (focus (intro x hx; have fx := HX.out x hx; go_simp; (try with_reducible rfl); done)); (try simp only [Act.put, lsa, lsz, lss]))
        (refine tkW 1 (v := ?_) hS ?_ ?_; rotate_left; (focus (intro x hx; have fx := HX.out x hx; go_simp; (try with_reducible rfl); done)); (try simp only [Act.put, lsa, lsz, lss]))
        (refine tkW 2 (v := ?_) hS ?_ ?_; rotate_left; (focus (intro x hx; have fx := HX.out x hx; go_simp; (try with_reducible rfl); done)); (try simp only [Act.put, lsa, lsz, lss]))
        (refine tkW 3 (v := ?_) hS ?_ ?_; rotate_left; (focus (intro x hx; have fx := HX.out x hx; go_simp; (try with_reducible rfl); done)); (try simp only [Act.put, lsa, lsz, lss]))
        (refine tkW 4 (v := ?_) hS ?_ ?_; rotate_left; (focus (intro x hx; have fx := HX.out x hx; go_simp; (try with_reducible rfl); done)); (try simp only [Act.put, lsa, lsz, lss]))
        (refine tkW 5 (v := ?_) hS ?_ ?_; rotate_left; (focus (intro x hx; have fx := HX.out x hx; go_simp; (try with_reducible rfl); done)); (try simp only [Act.put, lsa, lsz, lss]))
        (refine tkW 6 (v := ?_) hS ?_ ?_; rotate_left; (focus (intro x hx; have fx := HX.out x hx; go_simp; (try with_reducible rfl); done)); (try simp only [Act.put, lsa, lsz, lss]))
        (refine tkW 7 (v := ?_) hS ?_ ?_; rotate_left; (focus (intro x hx; have fx := HX.out x hx; go_simp; (try with_reducible rfl); done)); (try simp only [Act.put, lsa, lsz, lss]))
        (refine wpAnyH_one 8 (by kernel_rfl) rfl ?_; intro K' hK'; go_simp; refine (HSM.out _ hS).mono ?_; rintro e w5 ⟨rfl, hb5⟩; have hS := hS.trans (hb5.mono hS.size); refine hK'.out _ _ hS ?_; clear hK' K')
        have HX := Lib.hid (fun (z : World) (hz : Below wr.heap.size wr z) => True.intro)
        by_cases hxy : x = y
        · rw [decide_eq_true hxy]
          (refine tkW 9 (v := ?_) hS ?_ ?_; rotate_left; (focus (intro x hx; have fx := HX.out x hx; go_simp; (try with_reducible rfl); done)); (try simp only [Act.put, lsa, lsz, lss]))
          refine wpAnyH_done (by kernel_rfl) ?_ _
          have HV := Lib.hid (show v = decide (l.drop (k + 1) = r.drop (k + 1)) by rw [HD.out, hxy, Bool.eq_iff_iff]; simp)
          have HB6 := Lib.hid (HB.out.trans (hS.mono HB.out.size))
          clear hS hxy
          go_wp2_with fail
          go_roundw
          case rel => exact ⟨k + 1, by omega, by go_num, HB6.out, HV⟩
          case measure => simp [intOf]; omega
        · rw [decide_eq_false hxy]
          (refine tkW 9 (v := ?_) hS ?_ ?_; rotate_left; (focus (intro x hx; have fx := HX.out x hx; go_simp; (try with_reducible rfl); done)); (try simp only [Act.put, lsa, lsz, lss]))
          refine wpAnyH_done (by kernel_rfl) ?_ _
          have HV := Lib.hid (show v = false by rw [HD.out]; simp [hxy])
          have HB6 := Lib.hid (HB.out.trans (hS.mono HB.out.size))
          clear hS hxy
          go_wp2_with fail
          go_ret
          exact ⟨ret_bool HV.out, HB6.out⟩
      · have hd := hf.out
        rw [drop_end hlt, drop_end (by have := HLEN.out; omega : ¬ k < r.length)] at hd
        have HD := Lib.hid (show v = true by rw [hd]; rfl)
        have HB := Lib.hid hb
        clear hd hf hb
        go_wp2_with fail
        go_ret
        exact ⟨ret_bool HD.out, HB.out⟩
  · have hlb : ((l.length : Int) == (r.length : Int)) = false := by simp; omega
    have hlI : ¬ (l.length : Int) = (r.length : Int) := by omega
    have HV := Lib.hid (show v = false by rw [hv]; simp; intro h; exact hlen (by rw [h]))
    clear hv hl hr hlen
    go_enter Tryz.func12, Tryz.ntmps12
    go_wp2_with fail
    go_ret
    exact ⟨ret_bool HV.out, Below.refl _ _⟩
end Go.Proofs.YtkjoaodoioicpaaGreatDoor
namespace Go.Proofs.YtkjoaodoioicpaaGreatDoor
open Go.RowKit
set_option maxRecDepth 100000 in
set_option maxHeartbeats 4000000 in
theorem instances_any (l : List Rul) (facts : List Atm) (A : Option Addr) (n c : Nat) (B : Option Addr) (m d : Nat) (s : Bs) (z : Int) (w : World) (S T : Nat → Prop) (hl : Sl w S A n c l) (hf : Sl w T B m d facts) :
    Calls Tryz.prog 52 #[.slice A n c, .slice B m d, .string ⟨s.toArray⟩, .int .i64 z] w fun e w' => (∃ z, e = .returned (.int .i64 z)) ∧ w' = w := by
  have hn := hl.len; have hm := hf.len
  subst hn hm
  have hle := hl.le; have hle2 := hf.le
  have HL := Lib.hid hl; have HF := Lib.hid hf; clear hl hf
  go_enter Tryz.func52, Tryz.ntmps52
  go_wp2_with fail
  go_loop [9, 10] (fun o i => ∃ k : Nat, k ≤ facts.length ∧ i = .int .i64 k ∧ ∃ y : Nat, y ≤ k ∧ o = .int .i64 y) (fun _ i => facts.length - (intOf i).toNat)
  case atStart => exact ⟨0, by omega, rfl, 0, by omega, rfl⟩
  case round =>
    obtain ⟨k, hk, rfl, y, hy, rfl⟩ := hrel
    by_cases hlt : k < facts.length
    · obtain ⟨b, o, rfl, -, hbs, A1, n1, c1, h1, h2, hs1⟩ := HF.out.atm hlt
      generalize facts[k] = x at *
      obtain ⟨nm, args⟩ := x
      simp only at *
      clear hs1 h2
      by_cases he : nm = s
      · have hbe : (nm == s) = true := by simp [he]
        clear he
        go_wp2_with fail
        go_round
        case rel => exact ⟨k + 1, by omega, by go_num, y + 1, by omega, by go_num⟩
        case measure => simp [intOf]; omega
      · have hbe : (nm == s) = false := by rw [beq_eq_false_iff_ne]; exact he
        clear he
        go_wp2_with fail
        go_round
        case rel => exact ⟨k + 1, by omega, by go_num, y, by omega, rfl⟩
        case measure => simp [intOf]; omega
    · go_wp2_with fail
      go_loop [11] (fun i => ∃ k : Nat, k ≤ l.length ∧ i = .int .i64 k) (fun i => l.length - (intOf i).toNat)
      case atStart => exact ⟨0, by omega, rfl⟩
      case round =>
        obtain ⟨j, hj, rfl⟩ := hrel
        by_cases hlj : j < l.length
        · obtain ⟨b, o, rfl, -, hbs, A1, n1, c1, A2, n2, c2, h1, h2, h3, hs1, hs2⟩ := HL.out.rul hlj
          generalize l[j] = x at *
          obtain ⟨⟨nm, args⟩, body⟩ := x
          simp only at *
          have hn1 := hs1.len
          subst hn1
          have hle1 := hs1.le
          have hpw := power_any z args.length (by omega) w
          have HP := Lib.hid hpw
          clear hs1 hs2 h3 hpw
          by_cases he : nm = s
          · have hbe : (nm == s) = true := by simp [he]
            clear he
            go_wp2_with fail
            refine HP.out.mono ?_
            rintro e w1 ⟨⟨q, rfl⟩, rfl⟩
            go_wp2_with fail
            go_ret
            exact ⟨⟨_, by rfl⟩, rfl⟩
          · have hbe : (nm == s) = false := by rw [beq_eq_false_iff_ne]; exact he
            clear he
            go_wp2_with fail
            go_round
            case rel => exact ⟨j + 1, by omega, by go_num⟩
            case measure => simp [intOf]; omega
        · go_wp2_with fail
          go_ret
          exact ⟨⟨_, by rfl⟩, rfl⟩
end Go.Proofs.YtkjoaodoioicpaaGreatDoor
