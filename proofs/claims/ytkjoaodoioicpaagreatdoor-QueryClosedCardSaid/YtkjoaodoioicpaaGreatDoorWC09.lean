/- Query (package licitlaw54): a part of the proofs of its laws; see the law's own text, which comes last in 'order'. No conditions of its own. -/
import Derived.Lib.AtoiErrMem
import Derived.Lib.AtoiAllCases
import Derived.Lib.AppendIntMem
import Derived.Deep.CutBlock
import Derived.Test.YtkjoaodoioicpaaGreatDoorWC03
import Derived.Test.YtkjoaodoioicpaaGreatDoorWC04
import Derived.Test.YtkjoaodoioicpaaGreatDoorWC05
import Derived.Test.YtkjoaodoioicpaaGreatDoorWC06
import Derived.Test.YtkjoaodoioicpaaGreatDoorWC07
set_option linter.unusedVariables false
set_option linter.unusedSimpArgs false
namespace Go.Proofs.YtkjoaodoioicpaaGreatDoor
open Go.RowKit
theorem rank_any (k : Int) (w : World) : Calls Tryz.prog 131 #[.int .i64 k] w fun e w' => e = .returned (.int .i64 (rankS k)) ∧ w' = w := by
  unfold rankS
  by_cases h3 : k = 3
  · subst h3
    go_enter Tryz.func131, Tryz.ntmps131
    go_wp2
    go_ret
    exact ⟨rfl, rfl⟩
  · have h3b : (k == 3) = false := by simpa using h3
    by_cases h2 : k = 2
    · subst h2
      go_enter Tryz.func131, Tryz.ntmps131
      go_wp2
      go_ret
      exact ⟨rfl, rfl⟩
    · have h2b : (k == 2) = false := by simpa using h2
      rw [if_neg h3, if_neg h2]
      clear h3 h2
      go_enter Tryz.func131, Tryz.ntmps131
      go_wp2
      go_ret
      exact ⟨rfl, rfl⟩
theorem nanS_any (s : Bs) (w : World) : Calls Tryz.prog 129 #[.string ⟨s.toArray⟩] w fun e w' => e = .returned (.bool false) ∧ w' = w := by
  go_enter Tryz.func129, Tryz.ntmps129
  go_wp2
  go_ret
  exact ⟨rfl, rfl⟩
theorem less_ltB (a : Bs) : ∀ b : Bs, Op.bytesLess a b = ltB a b := by
  induction a with
  | nil => intro b; cases b <;> rfl
  | cons x r ih =>
    intro b
    cases b with
    | nil => rfl
    | cons y t =>
      show (decide (x < y) || (x == y && Op.bytesLess r t)) = if x = y then ltB r t else decide (x.toNat < y.toNat)
      rw [ih t]
      have hd : decide (x < y) = decide (x.toNat < y.toNat) := by rw [Bool.eq_iff_iff]; simp [UInt8.lt_iff_toNat_lt]
      rw [hd]
      by_cases h : x = y
      · subst h
        rw [if_pos rfl]
        simp
      · rw [if_neg h]
        simp [h]
theorem cmpS_any (a b : Bs) (w : World) : Calls Tryz.prog 96 #[.string ⟨a.toArray⟩, .string ⟨b.toArray⟩] w fun e w' => e = .returned (.int .i64 (cmpB a b)) ∧ w' = w := by
  obtain ⟨v, hv⟩ : ∃ v, v = cmpB a b := ⟨_, rfl⟩
  rw [← hv]
  have HV := Lib.hid hv; clear hv
  go_enter Tryz.func96, Tryz.ntmps96
  go_wp2_with fail
  refine (nanS_any a _).mono ?_
  rintro e w' ⟨rfl, rfl⟩
  go_wp2_with fail
  refine (nanS_any b _).mono ?_
  rintro e w' ⟨rfl, rfl⟩
  go_wp2_with fail
  · rename_i h1
    go_ret
    exact ⟨ret_int (by rw [HV.out]; unfold cmpB; rw [← less_ltB, h1]; rfl), rfl⟩
  · have h1 : Op.bytesLess a b = false := by assumption
    go_ret
    refine ⟨ret_int ?_, rfl⟩
    rw [HV.out]
    unfold cmpB
    rw [less_ltB] at h1
    rw [h1]
    rcases ltB_tot a b with h | h | h
    · rw [h] at h1; cases h1
    · subst h; simp_all
    · rw [h]; rfl
  · rename_i h2
    go_ret
    refine ⟨ret_int ?_, rfl⟩
    have h3 : a = b := by simpa using h2
    rw [HV.out]
    subst h3
    unfold cmpB
    rw [ltB_irr]
    rfl
theorem cmpI_any (a b : Int) (w : World) : Calls Tryz.prog 97 #[.int .i64 a, .int .i64 b] w fun e w' => e = .returned (.int .i64 (cmpI a b)) ∧ w' = w := by
  have h := Tryz.cmp_Compare_int a b w
  have e : Lib.compareInt a b = cmpI a b := by
    unfold Lib.compareInt cmpI
    split <;> (try rfl) <;> (split <;> (try rfl)) <;> (split <;> (try rfl)) <;> omega
  rw [e] at h
  exact h
theorem or_any (b c0 : Nat) (x y z : Int) (t : TypeId) (w : World) (hb : w.heap[b]? = some (.cells #[.int .i64 x, .int .i64 y, .int .i64 z] t (0, 0))) :
    Calls Tryz.prog 95 #[.slice (some ⟨b, 0, none⟩) 3 c0] w fun e w' => e = .returned (.int .i64 (orI [x, y, z])) ∧ w' = w := by
  have c0 := (cell_blk hb 0).trans rfl; have c1 := (cell_blk hb 1).trans rfl; have c2 := (cell_blk hb 2).trans rfl
  clear hb
  obtain ⟨v, hv⟩ : ∃ v, v = orI [x, y, z] := ⟨_, rfl⟩
  rw [← hv]
  have Hf : Hid (v = orI (([x, y, z] : List Int).drop 0)) := hv
  clear hv
  go_enter Tryz.func95, Tryz.ntmps95
  go_wp2_with fail
  go_loop [8] (fun i => ∃ k : Nat, k ≤ 3 ∧ i = .int .i64 k ∧ Hid (v = orI (([x, y, z] : List Int).drop k))) (fun i => 3 - (intOf i).toNat)
  case atStart => exact ⟨0, by omega, rfl, Hf⟩
  case round =>
    obtain ⟨k, hk, rfl, hf⟩ := hrel
    rcases (show k = 0 ∨ k = 1 ∨ k = 2 ∨ k = 3 by omega) with rfl | rfl | rfl | rfl
    · by_cases hz : x = 0
      · have hzb : (x == 0) = true := by simpa using hz
        have HZ := Lib.hid hz; clear hz
        go_wp2_with fail
        have hz := HZ.out
        go_round
        case rel => exact ⟨1, by omega, rfl, by show v = _; rw [hf.out]; show orI (x :: _) = _; rw [orI, if_neg (by simp [hz])]; rfl⟩
        case measure => simp [intOf]
      · have hzb : (x == 0) = false := by simpa using hz
        have HZ := Lib.hid hz; clear hz
        go_wp2_with fail
        go_ret
        have hz := HZ.out
        exact ⟨ret_int (by rw [hf.out]; show orI (x :: _) = _; rw [orI, if_pos hz]), rfl⟩
    · by_cases hz : y = 0
      · have hzb : (y == 0) = true := by simpa using hz
        have HZ := Lib.hid hz; clear hz
        go_wp2_with fail
        have hz := HZ.out
        go_round
        case rel => exact ⟨2, by omega, rfl, by show v = _; rw [hf.out]; show orI (y :: _) = _; rw [orI, if_neg (by simp [hz])]; rfl⟩
        case measure => simp [intOf]
      · have hzb : (y == 0) = false := by simpa using hz
        have HZ := Lib.hid hz; clear hz
        go_wp2_with fail
        go_ret
        have hz := HZ.out
        exact ⟨ret_int (by rw [hf.out]; show orI (y :: _) = _; rw [orI, if_pos hz]), rfl⟩
    · by_cases hz : z = 0
      · have hzb : (z == 0) = true := by simpa using hz
        have HZ := Lib.hid hz; clear hz
        go_wp2_with fail
        have hz := HZ.out
        go_round
        case rel => exact ⟨3, by omega, rfl, by show v = _; rw [hf.out]; show orI (z :: _) = _; rw [orI, if_neg (by simp [hz])]; rfl⟩
        case measure => simp [intOf]
      · have hzb : (z == 0) = false := by simpa using hz
        have HZ := Lib.hid hz; clear hz
        go_wp2_with fail
        go_ret
        have hz := HZ.out
        exact ⟨ret_int (by rw [hf.out]; show orI (z :: _) = _; rw [orI, if_pos hz]), rfl⟩
    · go_wp2_with fail
      go_ret
      exact ⟨ret_int (by rw [hf.out]; rfl), rfl⟩
set_option maxRecDepth 100000 in
set_option maxHeartbeats 4000000 in
theorem compareArgs_any (a b : Arg) (w : World) :
    Calls Tryz.prog 99 #[vArg a, vArg b] w fun e w' => e = .returned (.int .i64 (cmpArg a b)) ∧ Below w.heap.size w w' := by
  obtain ⟨v, hv⟩ : ∃ v, v = cmpArg a b := ⟨_, rfl⟩
  rw [← hv]
  unfold cmpArg at hv
  obtain ⟨ak, at_, an⟩ := a
  obtain ⟨bk, bt, bn⟩ := b
  simp only at hv
  unfold vArg
  simp only
  have HV := Lib.hid hv; clear hv
  go_enter Tryz.func99, Tryz.ntmps99
  go_wp2_with fail
  have hB0 : ((w.alloc (.cells #[.int .i64 ak, .string ⟨at_.toArray⟩, .int .i64 an] 46)).alloc (.cells #[.int .i64 bk, .string ⟨bt.toArray⟩, .int .i64 bn] 46)).heap[w.heap.size]? = some (.cells #[.int .i64 ak, .string ⟨at_.toArray⟩, .int .i64 an] 46 (0, 0)) := blkOld (blkAt w _ rfl) _
  have hB1 : ((w.alloc (.cells #[.int .i64 ak, .string ⟨at_.toArray⟩, .int .i64 an] 46)).alloc (.cells #[.int .i64 bk, .string ⟨bt.toArray⟩, .int .i64 bn] 46)).heap[w.heap.size + 1]? = some (.cells #[.int .i64 bk, .string ⟨bt.toArray⟩, .int .i64 bn] 46 (0, 0)) := blkAt2 (by simp) rfl
  have hbl : Below w.heap.size w ((w.alloc (.cells #[.int .i64 ak, .string ⟨at_.toArray⟩, .int .i64 an] 46)).alloc (.cells #[.int .i64 bk, .string ⟨bt.toArray⟩, .int .i64 bn] 46)) := boxed.alloc (by simp) _
  generalize (w.alloc (.cells #[.int .i64 ak, .string ⟨at_.toArray⟩, .int .i64 an] 46)).alloc (.cells #[.int .i64 bk, .string ⟨bt.toArray⟩, .int .i64 bn] 46) = W at *
  refine wpH_region (fun x => Below W.heap.size W x) (by kernel_rfl) ?_
  have hS : Below W.heap.size W W.drew := (Below.refl _ _).drew
  have HX := Lib.hid (fun (x : World) (hx : Below W.heap.size W x) => And.intro ((cell_blk (keptBlk hx hB0) 0).trans rfl) (And.intro ((cell_blk (keptBlk hx hB0) 1).trans rfl) (And.intro ((cell_blk (keptBlk hx hB0) 2).trans rfl) (And.intro ((cell_blk (keptBlk hx hB1) 0).trans rfl) (And.intro ((cell_blk (keptBlk hx hB1) 1).trans rfl) ((cell_blk (keptBlk hx hB1) 2).trans rfl))))))
  have HBL := Lib.hid hbl
  clear hB0 hB1 hbl
  (refine tkW 0 (v := ?_) hS ?_ ?_; rotate_left; (focus (intro x hx; have fx := HX.out x hx; go_simp; (try with_reducible rfl); done)); (try simp only [Act.put, lsa, lsz, lss]))
  (refine tkW 1 (v := ?_) hS ?_ ?_; rotate_left; (focus (intro x hx; have fx := HX.out x hx; go_simp; (try with_reducible rfl); done)); (try simp only [Act.put, lsa, lsz, lss]))
  (refine tkW 3 (v := ?_) hS ?_ ?_; rotate_left; (focus (intro x hx; have fx := HX.out x hx; go_simp; (try with_reducible rfl); done)); (try simp only [Act.put, lsa, lsz, lss]))
  (refine tkW 4 (v := ?_) hS ?_ ?_; rotate_left; (focus (intro x hx; have fx := HX.out x hx; go_simp; (try with_reducible rfl); done)); (try simp only [Act.put, lsa, lsz, lss]))
  (refine tkW 7 (v := ?_) hS ?_ ?_; rotate_left; (focus (intro x hx; have fx := HX.out x hx; go_simp; (try with_reducible rfl); done)); (try simp only [Act.put, lsa, lsz, lss]))
  (refine tkW 8 (v := ?_) hS ?_ ?_; rotate_left; (focus (intro x hx; have fx := HX.out x hx; go_simp; (try with_reducible rfl); done)); (try simp only [Act.put, lsa, lsz, lss]))
  (refine tkW 9 (v := ?_) hS ?_ ?_; rotate_left; (focus (intro x hx; have fx := HX.out x hx; go_simp; (try with_reducible rfl); done)); (try simp only [Act.put, lsa, lsz, lss]))
  (refine tkW 10 (v := ?_) hS ?_ ?_; rotate_left; (focus (intro x hx; have fx := HX.out x hx; go_simp; (try with_reducible rfl); done)); (try simp only [Act.put, lsa, lsz, lss]))
  (refine tkW 12 (v := ?_) hS ?_ ?_; rotate_left; (focus (intro x hx; have fx := HX.out x hx; go_simp; (try with_reducible rfl); done)); (try simp only [Act.put, lsa, lsz, lss]))
  (refine tkW 13 (v := ?_) hS ?_ ?_; rotate_left; (focus (intro x hx; have fx := HX.out x hx; go_simp; (try with_reducible rfl); done)); (try simp only [Act.put, lsa, lsz, lss]))
  (refine tkW 14 (v := ?_) hS ?_ ?_; rotate_left; (focus (intro x hx; have fx := HX.out x hx; go_simp; (try with_reducible rfl); done)); (try simp only [Act.put, lsa, lsz, lss]))
  (refine tkW 15 (v := ?_) hS ?_ ?_; rotate_left; (focus (intro x hx; have fx := HX.out x hx; go_simp; (try with_reducible rfl); done)); (try simp only [Act.put, lsa, lsz, lss]))
  (refine wpAnyH_one 2 (by kernel_rfl) rfl ?_; intro K' hK'; go_simp; refine (rank_any ak _).mono ?_; rintro e w1 ⟨rfl, rfl⟩; refine hK'.out _ _ hS ?_; clear hK' K')
  (refine wpAnyH_one 5 (by kernel_rfl) rfl ?_; intro K' hK'; go_simp; refine (rank_any bk _).mono ?_; rintro e w1 ⟨rfl, rfl⟩; refine hK'.out _ _ hS ?_; clear hK' K')
  (refine wpAnyH_one 6 (by kernel_rfl) rfl ?_; intro K' hK'; go_simp; refine (cmpI_any _ _ _).mono ?_; rintro e w1 ⟨rfl, rfl⟩; refine hK'.out _ _ hS ?_; clear hK' K')
  (refine wpAnyH_one 11 (by kernel_rfl) rfl ?_; intro K' hK'; go_simp; refine (cmpI_any _ _ _).mono ?_; rintro e w1 ⟨rfl, rfl⟩; refine hK'.out _ _ hS ?_; clear hK' K')
  (refine wpAnyH_one 16 (by kernel_rfl) rfl ?_; intro K' hK'; go_simp; refine (cmpS_any at_ bt _).mono ?_; rintro e w1 ⟨rfl, rfl⟩; refine hK'.out _ _ hS ?_; clear hK' K')
  (refine wpAnyH_one 17 (by kernel_rfl) rfl ?_; intro K' hK'; go_simp; refine hK'.out _ _ (hS.alloc (by simp) _) ?_; clear hK' K')
  have hS := hS.alloc (w := W.drew) (by simp) (.cells #[.int .i64 (cmpI (rankS ak) (rankS bk)), .int .i64 (cmpI an bn), .int .i64 (cmpB at_ bt)] 3)
  (refine wpAnyH_one 18 (by kernel_rfl) rfl ?_; intro K' hK'; go_simp; (first | refine (or_any _ _ _ _ _ _ _ (blkAt _ _ rfl)).mono ?_ | refine (or_any _ _ _ _ _ _ _ (blkDrw (blkAt _ _ rfl))).mono ?_); rintro e w1 ⟨rfl, rfl⟩; refine hK'.out _ _ hS ?_; clear hK' K')
  (refine tkW 19 (v := ?_) hS ?_ ?_; rotate_left; (focus (intro x hx; have fx := HX.out x hx; go_simp; (try with_reducible rfl); done)); (try simp only [Act.put, lsa, lsz, lss]))
  refine wpAnyH_done (by kernel_rfl) ?_ _
  go_wp2_with fail
  go_ret
  exact ⟨ret_int HV.out, HBL.out.trans (hS.mono HBL.out.size)⟩
set_option maxRecDepth 100000 in
set_option maxHeartbeats 4000000 in
theorem compareFunc_any (A : Option Addr) (n c : Nat) (l : List Arg) (B : Option Addr) (m d : Nat) (r : List Arg) (w : World) (S T : Nat → Prop) (hl : Sl w S A n c l) (hr : Sl w T B m d r) :
    Calls Tryz.prog 98 #[.slice A n c, .slice B m d, .func (.func 99) #[] #[]] w fun e w' => e = .returned (.int .i64 (cmpArgs l r)) ∧ Below w.heap.size w w' := by
  obtain ⟨v, hv⟩ : ∃ v, v = cmpArgs l r := ⟨_, rfl⟩
  rw [← hv]
  have hn := hl.len; have hm := hr.len
  subst hn hm
  have hle := hl.le; have hle2 := hr.le
  have Hf : Hid (v = cmpArgs (l.drop 0) (r.drop 0)) := hv
  have HL := Lib.hid hl; have HR := Lib.hid hr
  clear hv hl hr
  go_enter Tryz.func98, Tryz.ntmps98
  go_wp2_with fail
  go_loopw [13] (fun i wr => ∃ k : Nat, k ≤ l.length ∧ i = .int .i64 k ∧ k ≤ r.length ∧ Below w.heap.size w wr ∧ Hid (v = cmpArgs (l.drop k) (r.drop k))) (fun i _ => l.length - (intOf i).toNat)
  case atStart => exact ⟨0, by omega, rfl, by omega, Below.refl _ _, Hf⟩
  case round =>
    obtain ⟨k, hk, rfl, hkr, hb, hf⟩ := hrel
    have hwr := hb.size
    by_cases hlt : k < l.length
    · obtain ⟨b1, o1, hA, -, hbs1, h1, h2, h3⟩ := (HL.out.below hb).arg hlt
      by_cases hlt2 : k < r.length
      · obtain ⟨b2, o2, hB, -, hbs2, g1, g2, g3⟩ := (HR.out.below hb).arg hlt2
        have hd := hf.out
        rw [drop_get hlt, drop_get hlt2, cmpArgs] at hd
        subst hA hB
        have hca := fun w => compareArgs_any l[k] r[k] w
        have hlt2I : ¬ (r.length : Int) ≤ (k : Int) := by omega
        generalize l[k] = x at *
        generalize r[k] = y at *
        unfold vArg at hca
        generalize cmpArg x y = cv at *
        have HD := Lib.hid hd; have HCA := Lib.hid hca; have HB := Lib.hid hb
        clear hd hca hb hf
        by_cases hc0 : cv = 0
        · have hcb : (cv == 0) = true := by simpa using hc0
          have HC0 := Lib.hid hc0; clear hc0
          go_wp2_with fail
          refine (HCA.out _).mono ?_
          rintro e w2 ⟨rfl, hb2⟩
          have hsz2 := hb2.size
          simp at hsz2
          go_wp2_with fail
          go_roundw
          case rel =>
            have hd := HD.out
            rw [if_neg (by simp [HC0.out])] at hd
            exact ⟨k + 1, by omega, by go_num, by omega, ((HB.out.alloc hwr _).alloc (by simp; omega) _).trans (hb2.mono (by simp; omega)), hd⟩
          case measure => simp [intOf]; omega
        · have hcb : (cv == 0) = false := by simpa using hc0
          have HC0 := Lib.hid hc0; clear hc0
          go_wp2_with fail
          refine (HCA.out _).mono ?_
          rintro e w2 ⟨rfl, hb2⟩
          have hsz2 := hb2.size
          simp at hsz2
          go_wp2_with fail
          go_ret
          have hd := HD.out
          rw [if_pos HC0.out] at hd
          exact ⟨ret_int hd, ((HB.out.alloc hwr _).alloc (by simp; omega) _).trans (hb2.mono (by simp; omega))⟩
      · have hd := hf.out
        rw [drop_get hlt, drop_end hlt2, cmpArgs] at hd
        subst hA
        have hlt2I : (r.length : Int) ≤ (k : Int) := by omega
        have HD := Lib.hid hd; have HB := Lib.hid hb; clear hd hb hf
        go_wp2_with fail
        go_ret
        exact ⟨ret_int HD.out, HB.out.alloc hwr _⟩
    · have hd := hf.out
      rw [drop_end hlt] at hd
      by_cases hlt2 : k < r.length
      · rw [drop_get hlt2, cmpArgs] at hd
        have HD := Lib.hid hd; have HB := Lib.hid hb; clear hd hb hf
        have hlI : (l.length : Int) < (r.length : Int) := by omega
        go_wp2_with fail
        go_ret
        exact ⟨ret_int HD.out, HB.out⟩
      · rw [drop_end hlt2, cmpArgs] at hd
        have HD := Lib.hid hd; have HB := Lib.hid hb; clear hd hb hf
        have hlI : ¬ (l.length : Int) < (r.length : Int) := by omega
        go_wp2_with fail
        go_ret
        exact ⟨ret_int HD.out, HB.out⟩
set_option maxRecDepth 100000 in
set_option maxHeartbeats 4000000 in
theorem Order_any (x y : Atm) (A : Option Addr) (n c : Nat) (B : Option Addr) (m d : Nat) (w : World) (S T : Nat → Prop) (hl : Sl w S A n c x.args) (hr : Sl w T B m d y.args) :
    Calls Tryz.prog 64 #[.agg #[.string ⟨x.name.toArray⟩, .slice A n c], .agg #[.string ⟨y.name.toArray⟩, .slice B m d]] w fun e w' => e = .returned (.int .i64 (ordS x y)) ∧ Below w.heap.size w w' := by
  obtain ⟨v, hv⟩ : ∃ v, v = ordS x y := ⟨_, rfl⟩
  rw [← hv]
  unfold ordS at hv
  have hcf := fun w hl hr => compareFunc_any A n c x.args B m d y.args w S T hl hr
  obtain ⟨xn, xa⟩ := x
  obtain ⟨yn, ya⟩ := y
  simp only at hl hr hv hcf ⊢
  have hn := hl.len; have hm := hr.len
  subst hn hm
  have hle := hl.le; have hle2 := hr.le
  generalize cmpArgs xa ya = ca at *
  have HV := Lib.hid hv; have HCF := Lib.hid hcf; have HL := Lib.hid hl; have HR := Lib.hid hr
  clear hv hcf hl hr
  go_enter Tryz.func64, Tryz.ntmps64
  go_wp2_with fail
  have hB0 : ((w.alloc (.cells #[.string ⟨xn.toArray⟩, .slice A xa.length c] 31)).alloc (.cells #[.string ⟨yn.toArray⟩, .slice B ya.length d] 31)).heap[w.heap.size]? = some (.cells #[.string ⟨xn.toArray⟩, .slice A xa.length c] 31 (0, 0)) := blkOld (blkAt w _ rfl) _
  have hB1 : ((w.alloc (.cells #[.string ⟨xn.toArray⟩, .slice A xa.length c] 31)).alloc (.cells #[.string ⟨yn.toArray⟩, .slice B ya.length d] 31)).heap[w.heap.size + 1]? = some (.cells #[.string ⟨yn.toArray⟩, .slice B ya.length d] 31 (0, 0)) := blkAt2 (by simp) rfl
  have hbl : Below w.heap.size w ((w.alloc (.cells #[.string ⟨xn.toArray⟩, .slice A xa.length c] 31)).alloc (.cells #[.string ⟨yn.toArray⟩, .slice B ya.length d] 31)) := boxed.alloc (by simp) _
  generalize (w.alloc (.cells #[.string ⟨xn.toArray⟩, .slice A xa.length c] 31)).alloc (.cells #[.string ⟨yn.toArray⟩, .slice B ya.length d] 31) = W at *
  refine wpH_region (fun x => Below W.heap.size W x) (by kernel_rfl) ?_
  have hS : Below W.heap.size W W.drew := (Below.refl _ _).drew
  have HX := Lib.hid (fun (x : World) (hx : Below W.heap.size W x) => And.intro ((cell_blk (keptBlk hx hB0) 0).trans rfl) (And.intro ((cell_blk (keptBlk hx hB0) 1).trans rfl) (And.intro ((cell_blk (keptBlk hx hB1) 0).trans rfl) ((cell_blk (keptBlk hx hB1) 1).trans rfl))))
  have HBL := Lib.hid hbl
  clear hB0 hB1 hbl
  (refine tkW 0 (v := ?_) hS ?_ ?_; rotate_left; (focus (intro x hx; have fx := HX.out x hx; go_simp; (try with_reducible rfl); done)); (try simp only [Act.put, lsa, lsz, lss]))
  (refine tkW 1 (v := ?_) hS ?_ ?_; rotate_left; (focus (intro x hx; have fx := HX.out x hx; go_simp; (try with_reducible rfl); done)); (try simp only [Act.put, lsa, lsz, lss]))
  (refine tkW 2 (v := ?_) hS ?_ ?_; rotate_left; (focus (intro x hx; have fx := HX.out x hx; go_simp; (try with_reducible rfl); done)); (try simp only [Act.put, lsa, lsz, lss]))
  (refine tkW 3 (v := ?_) hS ?_ ?_; rotate_left; (focus (intro x hx; have fx := HX.out x hx; go_simp; (try with_reducible rfl); done)); (try simp only [Act.put, lsa, lsz, lss]))
  (refine tkW 5 (v := ?_) hS ?_ ?_; rotate_left; (focus (intro x hx; have fx := HX.out x hx; go_simp; (try with_reducible rfl); done)); (try simp only [Act.put, lsa, lsz, lss]))
  (refine tkW 6 (v := ?_) hS ?_ ?_; rotate_left; (focus (intro x hx; have fx := HX.out x hx; go_simp; (try with_reducible rfl); done)); (try simp only [Act.put, lsa, lsz, lss]))
  (refine tkW 7 (v := ?_) hS ?_ ?_; rotate_left; (focus (intro x hx; have fx := HX.out x hx; go_simp; (try with_reducible rfl); done)); (try simp only [Act.put, lsa, lsz, lss]))
  (refine tkW 8 (v := ?_) hS ?_ ?_; rotate_left; (focus (intro x hx; have fx := HX.out x hx; go_simp; (try with_reducible rfl); done)); (try simp only [Act.put, lsa, lsz, lss]))
  (refine tkW 9 (v := ?_) hS ?_ ?_; rotate_left; (focus (intro x hx; have fx := HX.out x hx; go_simp; (try with_reducible rfl); done)); (try simp only [Act.put, lsa, lsz, lss]))
  (refine tkW 10 (v := ?_) hS ?_ ?_; rotate_left; (focus (intro x hx; have fx := HX.out x hx; go_simp; (try with_reducible rfl); done)); (try simp only [Act.put, lsa, lsz, lss]))
  (refine tkW 12 (v := ?_) hS ?_ ?_; rotate_left; (focus (intro x hx; have fx := HX.out x hx; go_simp; (try with_reducible rfl); done)); (try simp only [Act.put, lsa, lsz, lss]))
  (refine tkW 13 (v := ?_) hS ?_ ?_; rotate_left; (focus (intro x hx; have fx := HX.out x hx; go_simp; (try with_reducible rfl); done)); (try simp only [Act.put, lsa, lsz, lss]))
  (refine tkW 14 (v := ?_) hS ?_ ?_; rotate_left; (focus (intro x hx; have fx := HX.out x hx; go_simp; (try with_reducible rfl); done)); (try simp only [Act.put, lsa, lsz, lss]))
  (refine tkW 15 (v := ?_) hS ?_ ?_; rotate_left; (focus (intro x hx; have fx := HX.out x hx; go_simp; (try with_reducible rfl); done)); (try simp only [Act.put, lsa, lsz, lss]))
  (refine wpAnyH_one 4 (by kernel_rfl) rfl ?_; intro K' hK'; go_simp; refine (cmpS_any xn yn _).mono ?_; rintro e w1 ⟨rfl, rfl⟩; refine hK'.out _ _ hS ?_; clear hK' K')
  (refine wpAnyH_one 11 (by kernel_rfl) rfl ?_; intro K' hK'; go_simp; refine (cmpI_any _ _ _).mono ?_; rintro e w1 ⟨rfl, rfl⟩; refine hK'.out _ _ hS ?_; clear hK' K')
  (refine wpAnyH_one 16 (by kernel_rfl) rfl ?_; intro K' hK'; go_simp; refine (HCF.out _ (HL.out.below (HBL.out.trans (hS.mono HBL.out.size))) (HR.out.below (HBL.out.trans (hS.mono HBL.out.size)))).mono ?_; rintro e w5 ⟨rfl, hb5⟩; have hS := hS.trans (hb5.mono hS.size); refine hK'.out _ _ hS ?_; clear hK' K')
  (refine wpAnyH_one 17 (by kernel_rfl) rfl ?_; intro K' hK'; go_simp; refine hK'.out _ _ (hS.alloc hS.size _) ?_; clear hK' K')
  have hS := hS.alloc hS.size (.cells #[.int .i64 (cmpB xn yn), .int .i64 (cmpI xa.length ya.length), .int .i64 ca] 3)
  (refine wpAnyH_one 18 (by kernel_rfl) rfl ?_; intro K' hK'; go_simp; (first | refine (or_any _ _ _ _ _ _ _ (blkAt _ _ rfl)).mono ?_ | refine (or_any _ _ _ _ _ _ _ (blkDrw (blkAt _ _ rfl))).mono ?_); rintro e w1 ⟨rfl, rfl⟩; refine hK'.out _ _ hS ?_; clear hK' K')
  (refine tkW 19 (v := ?_) hS ?_ ?_; rotate_left; (focus (intro x hx; have fx := HX.out x hx; go_simp; (try with_reducible rfl); done)); (try simp only [Act.put, lsa, lsz, lss]))
  refine wpAnyH_done (by kernel_rfl) ?_ _
  go_wp2_with fail
  go_ret
  exact ⟨ret_int HV.out, HBL.out.trans (hS.mono HBL.out.size)⟩
end Go.Proofs.YtkjoaodoioicpaaGreatDoor
namespace Go.Proofs.YtkjoaodoioicpaaGreatDoor
open Go.RowKit
abbrev MG (g : Nat) : Nat → Prop := fun k => k = g
end Go.Proofs.YtkjoaodoioicpaaGreatDoor
namespace Go.Proofs.YtkjoaodoioicpaaGreatDoor
open Go.RowKit
theorem itoa_any (n : Int) (h0 : -9223372036854775808 ≤ n) (h1 : n ≤ 9223372036854775807) (w : World) (hL : LD w) :
    Calls Tryz.prog 166 #[.int .i64 n] w fun e w' => e = .returned (.string ⟨(itoaS n).toArray⟩) ∧ Below w.heap.size w w' := by
  refine (Tryz.strconv_Itoa n h0 h1 w hL.pow).mono ?_
  rintro e w' ⟨rfl, k, os, rfl⟩
  exact ⟨by rw [itoa_lib n h0 h1], Lib.below_grow _ _ (Nat.le_refl _) k os⟩
end Go.Proofs.YtkjoaodoioicpaaGreatDoor
namespace Go.Proofs.YtkjoaodoioicpaaGreatDoor
open Go.RowKit
def argC (a : Arg) : Array Value := #[.int .i64 a.kind, .string ⟨a.text.toArray⟩, .int .i64 a.num]
end Go.Proofs.YtkjoaodoioicpaaGreatDoor
namespace Go.Proofs.YtkjoaodoioicpaaGreatDoor
open Go.RowKit
set_option maxHeartbeats 1000000 in
theorem printArg_any (a : Arg) (w : World) (ha : OkA a) (hL : LD w) (hf : formedS a = true) :
    Calls Tryz.prog 142 #[vArg a] w fun e w' => e = .returned (.string ⟨(prArg a).toArray⟩) ∧ Below w.heap.size w w' := by
  obtain ⟨v, hv⟩ : ∃ v, v = prArg a := ⟨_, rfl⟩
  rw [← hv]
  obtain ⟨k, t, n⟩ := a
  unfold prArg at hv
  unfold vArg
  simp only at hv
  have htx : k = 2 → t.length ≤ 128 := by
    intro h
    unfold formedS at hf
    simp only at hf
    rw [if_neg (by omega), if_pos h] at hf
    unfold conS at hf
    simp only [Bool.and_eq_true, decide_eq_true_eq] at hf
    exact hf.2.1
  clear hf
  have hit := fun w (hL : LD w) => itoa_any n ha.2.1 ha.2.2 w hL
  have HIT := Lib.hid hit; have HL := Lib.hid hL; clear hit hL ha
  by_cases h3 : k = 3
  · rw [if_pos h3] at hv
    subst h3
    rw [← hv] at HIT
    clear hv htx
    go_enter Tryz.func142, Tryz.ntmps142
    go_wp2_with fail
    refine (HIT.out _ (HL.out.alloc _)).mono ?_
    rintro e w1 ⟨rfl, hb1⟩
    go_wp2_with fail
    go_ret
    exact ⟨rfl, next boxed hb1 (Nat.le_refl _)⟩
  · rw [if_neg h3] at hv
    have h3b : (k == 3) = false := by simpa using h3
    by_cases h2 : k = 2
    · rw [if_pos h2] at hv
      subst h2
      have HV := Lib.hid hv; clear hv h3
      have htl := htx rfl
      clear htx
      go_enter Tryz.func142, Tryz.ntmps142
      go_wp2_with fail
      go_ret
      exact ⟨ret_str (by rw [HV.out]; simp), boxed⟩
    · rw [if_neg h2] at hv
      have h2b : (k == 2) = false := by simpa using h2
      subst hv
      clear h2 h3 htx
      go_enter Tryz.func142, Tryz.ntmps142
      go_wp2_with fail
      go_ret
      exact ⟨rfl, boxed⟩
theorem join_any (A : Option Addr) (n c : Nat) (xs : List Bs) (w : World) (S : Nat → Prop) (hs : Sl w S A n c xs) (hN : xs.length ≤ 1000000) (hlen : (joinS xs).length ≤ 1000000000) :
    Calls Tryz.prog 143 #[.slice A n c, .string ⟨#[44, 32]⟩] w fun e w' => e = .returned (.string ⟨(joinS xs).toArray⟩) ∧ Below w.heap.size w w' := by
  have hn := hs.len
  subst hn
  cases xs with
  | nil =>
    refine (Tryz.strings_Join_none A c ⟨#[44, 32]⟩ w).mono ?_
    rintro e w' ⟨rfl, rfl⟩
    exact ⟨rfl, Below.refl _ _⟩
  | cons x r =>
    obtain ⟨b, o, rfl, -, hb, -⟩ := hs.str (k := 0) (by simp)
    have hm : ((x :: r).map fun t : Bs => (ByteArray.mk t.toArray)).map (·.data.toList) = x :: r := by simp [Function.comp_def]
    have hlj : Lib.join (((x :: r).map fun t : Bs => (ByteArray.mk t.toArray)).map (·.data.toList)) (ByteArray.mk #[44, 32]).data.toList = joinS (x :: r) := by rw [hm]; exact join_lib (x :: r)
    have h := Tryz.strings_Join b o c ((x :: r).map fun t : Bs => (ByteArray.mk t.toArray)) ⟨#[44, 32]⟩ w (fun j y hy => by
      rw [List.getElem?_map] at hy
      cases hj : (x :: r)[j]? with
      | none => rw [hj] at hy; cases hy
      | some z =>
        rw [hj] at hy
        injection hy with hy
        obtain ⟨hlt, hz⟩ := List.getElem?_eq_some_iff.1 hj
        obtain ⟨b', o', hA, -, -, hc⟩ := hs.str hlt
        injection hA with hA
        injection hA with h1 h2
        subst h1 h2
        rw [hc, ← hy, hz]) hb (by rw [List.length_map]; omega) (by rw [List.length_map]; exact hs.2.1) (by rw [hlj]; omega)
    rw [hlj] at h
    rw [List.length_map] at h
    exact h
set_option maxRecDepth 100000 in
set_option maxHeartbeats 4000000 in
theorem printAtom_any (x : Atm) (A : Option Addr) (n c : Nat) (w : World) (S : Nat → Prop) (hs : Sl w S A n c x.args) (ho : OkT x) (hL : LD w) (hf : atomS x = true) :
    Calls Tryz.prog 113 #[.agg #[.string ⟨x.name.toArray⟩, .slice A n c]] w fun e w' => e = .returned (.string ⟨(prAtom x).toArray⟩) ∧ Below w.heap.size w w' := by
  obtain ⟨v, hv⟩ : ∃ v, v = prAtom x := ⟨_, rfl⟩
  rw [← hv]
  have hp := atomS_parts hf
  obtain ⟨nm, args⟩ := x
  unfold prAtom at hv
  simp only at hs ho hp hv
  have hn := hs.len
  subst hn
  by_cases h0 : args.length = 0
  · rw [if_pos h0] at hv
    subst hv
    have h0b : ((args.length : Int) == 0) = true := by rw [beq_iff_eq]; omega
    clear hs ho hL hp hf h0
    go_enter Tryz.func113, Tryz.ntmps113
    go_wp2_with fail
    go_ret
    exact ⟨rfl, boxed⟩
  · rw [if_neg h0] at hv
    have h0b : ((args.length : Int) == 0) = false := by rw [beq_eq_false_iff_ne]; omega
    have hjl := join_len args hp.2.2
    have hal := hp.2.1
    have HV := Lib.hid hv; have HS := Lib.hid (hs.wide (S' := fun b => b < w.heap.size) (fun k hk _ => hk) (by decide)); have HO := Lib.hid ho.2; have HL := Lib.hid hL; have HJ := Lib.hid hjl; have HF := Lib.hid hp.2.2; have hnl := hp.1
    have hle := hs.le
    clear hv hs ho hL hp hf h0 hjl
    have hown0 : Own (w.alloc (.cells #[.string ⟨nm.toArray⟩, .slice A args.length c] 31)) (fun _ => False) (w.heap.size + 1) 9 none 0 ([] : List Bs) := Own.nil _ _ _ _
    have hmap0 : Hid (args.map prArg = [] ++ (args.drop 0).map prArg) := rfl
    go_enter Tryz.func113, Tryz.ntmps113
    go_wp2_with fail
    go_loopw [3, 15] (fun o i wx => ∃ k : Nat, k ≤ args.length ∧ i = .int .i64 k ∧ ∃ (out : List Bs) (B : Option Addr) (d : Nat), o = .slice B out.length d ∧ Own wx (fun _ => False) (w.heap.size + 1) 9 B d out ∧ Below (w.heap.size + 1) (w.alloc (.cells #[.string ⟨nm.toArray⟩, .slice A args.length c] 31)) wx ∧ out.length = k ∧ Hid (args.map prArg = out ++ (args.drop k).map prArg)) (fun _ i _ => args.length - (intOf i).toNat)
    case atStart => exact ⟨0, by omega, rfl, [], none, 0, rfl, hown0, Below.refl _ _, rfl, hmap0⟩
    case round =>
      obtain ⟨k, hk, rfl, out, B, d, rfl, hown, hb, hol, hm⟩ := hrel
      have hsz := hb.size
      simp at hsz
      by_cases hlt : k < args.length
      · obtain ⟨b, o, rfl, -, hbs, h1, h2, h3⟩ := ((HS.out.alloc (.cells #[.string ⟨nm.toArray⟩, .slice A args.length c] 31)).keep (w' := wr) (fun z hz hs => hb.block z (by omega))).arg hlt
        have hd := hm.out
        rw [drop_get hlt, List.map_cons] at hd
        have hpa := fun w hL => printArg_any args[k] w (HO.out _ (List.getElem_mem hlt)) hL (HF.out _ (List.getElem_mem hlt))
        generalize args[k] = a at *
        unfold vArg at hpa
        have hLr := ((HL.out.alloc (.cells #[.string ⟨nm.toArray⟩, .slice (some ⟨b, o, none⟩) args.length c] 31)).below (hb.mono (by simp)))
        have HD := Lib.hid hd; have HP := Lib.hid hpa; have HOW := Lib.hid hown; have HB := Lib.hid hb; have HLR := Lib.hid hLr; have HOL := Lib.hid hol
        clear hd hpa hown hb hLr hm hol
        go_wp2_with fail
        refine (HP.out _ (HLR.out.alloc _)).mono ?_
        rintro e w2 ⟨rfl, hb2⟩
        have hsz2 := hb2.size
        simp at hsz2
        have HO2 := Lib.hid ((HOW.out.alloc (.cells (argC a) 46)).below hb2)
        have HB2 := Lib.hid ((HB.out.alloc (by omega) (.cells (argC a) 46)).trans (hb2.mono (by simp; omega)))
        clear hb2
        have hout : out.length ≤ 1000000 := by have := HOL.out; omega
        go_wp2_with (first | (at_builtin; go_loud (refine wpList_app1 rfl _ _ eltStr rfl (by decide) rfl rfl rfl (HO2.out.alloc _) rfl [.string ⟨(prArg a).toArray⟩] (prArg a) (blkAt _ _ rfl) rfl rfl (by omega) (by omega) (by simp; omega) ?_); intro A' c' w3 hown' hg hat))
        have hsz3 := hg.size
        simp at hsz3
        refine ⟨⟨k + 1, by omega, by go_num, out ++ [prArg a], A', c', by simp, hown', (HB2.out.alloc (by omega) _).grown hg (by simp; omega) (fun z hz => (HO2.out.lt z hz).1), by simp [HOL.out], ?_⟩, by simp [intOf]; omega⟩
        show _ = _
        rw [HD.out, List.append_assoc]
        rfl
      · have hd := hm.out
        rw [drop_end hlt, List.map_nil, List.append_nil] at hd
        have hv := HV.out
        rw [hd] at hv
        have hj := HJ.out
        rw [hd] at hj
        have hja := fun w S (h : Sl w S B out.length d out) => join_any B out.length d out w S h (by omega) (by omega)
        have hjl : (joinS out).length ≤ 1000 := by omega
        have hc1 : ¬ 9223372036854775807 < nm.length + 1 := by omega
        have hc2 : ¬ 9223372036854775807 < nm.length + 1 + (joinS out).length := by omega
        have hc3 : ¬ 9223372036854775807 < nm.length + 1 + (joinS out).length + 1 := by omega
        have hc4 : ¬ 9223372036854775807 < nm.length + ((joinS out).length + 1) := by omega
        have hc5 : ¬ 9223372036854775807 < nm.length + ((joinS out).length + 1) + 1 := by omega
        have hc6 : ¬ 9223372036854775807 < nm.length + ((joinS out).length + 1 + 1) := by omega
        have hbk := (hb.block w.heap.size (by omega)).trans (blkAt w (.cells #[.string ⟨nm.toArray⟩, .slice A args.length c] 31) rfl)
        have HV2 := Lib.hid hv; have HJA := Lib.hid hja; have HOW := Lib.hid hown; have HB := Lib.hid hb; have HBK := Lib.hid hbk
        clear hv hj hja hown hb hbk hd hm hol
        go_wp2_with fail
        refine wpH_region (fun x => Below wr.heap.size wr x) (by kernel_rfl) ?_
        have hS : Below wr.heap.size wr wr.drew := (Below.refl _ _).drew
        have HX := Lib.hid (fun (x : World) (hx : Below wr.heap.size wr x) => (cell_blk (keptBlk hx HBK.out) 0).trans rfl)
        (refine tkW 0 (v := ?_) hS ?_ ?_; rotate_left; (focus (intro x hx; have fx := HX.out x hx; go_simp; (try with_reducible rfl); done)); (try simp only [Act.put, lsa, lsz, lss]))
        (refine tkW 1 (v := ?_) hS ?_ ?_; rotate_left; (focus (intro x hx; have fx := HX.out x hx; go_simp; (try with_reducible rfl); done)); (try simp only [Act.put, lsa, lsz, lss]))
        (refine tkW 2 (v := ?_) hS ?_ ?_; rotate_left; (focus (intro x hx; have fx := HX.out x hx; go_simp; (try with_reducible rfl); done)); (try simp only [Act.put, lsa, lsz, lss]))
        (refine tkW 3 (v := ?_) hS ?_ ?_; rotate_left; (focus (intro x hx; have fx := HX.out x hx; go_simp; (try with_reducible rfl); done)); (try simp only [Act.put, lsa, lsz, lss]))
        (refine wpAnyH_one 4 (by kernel_rfl) rfl ?_; intro K' hK'; go_simp; refine (HJA.out _ _ ((HOW.out.below hS).sl (by decide))).mono ?_; rintro e w5 ⟨rfl, hb5⟩; have hS := hS.trans (hb5.mono hS.size); refine hK'.out _ _ hS ?_; clear hK' K')
        (refine tkW 5 (v := ?_) hS ?_ ?_; rotate_left; (focus (intro x hx; have fx := HX.out x hx; go_simp; (try with_reducible rfl); done)); (try simp only [Act.put, lsa, lsz, lss]))
        (refine tkW 6 (v := ?_) hS ?_ ?_; rotate_left; (focus (intro x hx; have fx := HX.out x hx; go_simp; (try with_reducible rfl); done)); (try simp only [Act.put, lsa, lsz, lss]))
        (refine tkW 7 (v := ?_) hS ?_ ?_; rotate_left; (focus (intro x hx; have fx := HX.out x hx; go_simp; (try with_reducible rfl); done)); (try simp only [Act.put, lsa, lsz, lss]))
        refine wpAnyH_done (by kernel_rfl) ?_ _
        go_wp2_with fail
        go_ret
        exact ⟨ret_str (by rw [HV2.out]; simp), boxed.trans ((HB.out.mono (by omega)).trans (hS.mono (by omega)))⟩
set_option maxHeartbeats 1000000 in
theorem PrintAtom_any (x : Atm) (A : Option Addr) (n c : Nat) (w : World) (S : Nat → Prop) (hs : Sl w S A n c x.args) (ho : OkT x) (hL : LD w) :
    Calls Tryz.prog 83 #[.agg #[.string ⟨x.name.toArray⟩, .slice A n c]] w fun e w' => e = .returned (.tuple #[.string ⟨(printAtomS x).1.toArray⟩, .int .i64 (printAtomS x).2]) ∧ Below w.heap.size w w' := by
  obtain ⟨v, hv⟩ : ∃ v, v = printAtomS x := ⟨_, rfl⟩
  rw [← hv]
  unfold printAtomS at hv
  have hfa := fun w S (h : Sl w S A n c x.args) => formedAtom_any x A n c w S h ho
  have hpa := fun w S (h : Sl w S A n c x.args) hL hq => printAtom_any x A n c w S h ho hL hq
  obtain ⟨nm, args⟩ := x
  simp only at hs hfa hpa ⊢
  cases hq : atomS ⟨nm, args⟩
  · rw [hq] at hfa hv
    have HFA := Lib.hid hfa; have HS := Lib.hid (hs.wide (S' := fun b => b < w.heap.size) (fun k hk _ => hk) (by decide)); have HV := Lib.hid hv
    clear hfa hpa hs hv hq ho hL
    go_enter Tryz.func83, Tryz.ntmps83
    go_wp2_with fail
    refine (HFA.out _ _ (HS.out.alloc _)).mono ?_
    rintro e w1 ⟨rfl, hb1⟩
    go_wp2_with fail
    go_ret2
    exact ⟨by rw [HV.out]; rfl, next boxed hb1 (Nat.le_refl _)⟩
  · rw [hq] at hfa hv
    have hpa2 := fun w S h hL => hpa w S h hL hq
    have HFA := Lib.hid hfa; have HPA := Lib.hid hpa2; have HL := Lib.hid hL; have HS := Lib.hid (hs.wide (S' := fun b => b < w.heap.size) (fun k hk _ => hk) (by decide)); have HV := Lib.hid hv
    clear hfa hpa hpa2 hs hv hq ho hL
    go_enter Tryz.func83, Tryz.ntmps83
    go_wp2_with fail
    refine (HFA.out _ _ (HS.out.alloc _)).mono ?_
    rintro e w1 ⟨rfl, hb1⟩
    have hB := keptBlk hb1 (blkAt w (.cells #[.string ⟨nm.toArray⟩, .slice A n c] 31) rfl)
    have k0 := (cell_blk hB 0).trans rfl; have k1 := (cell_blk hB 1).trans rfl
    have HB1 := Lib.hid (next boxed hb1 (Nat.le_refl _)); clear hb1 hB
    go_wp2_with fail
    refine (HPA.out _ _ (HS.out.below HB1.out) (HL.out.below HB1.out)).mono ?_
    rintro e w2 ⟨rfl, hb2⟩
    go_wp2_with fail
    go_ret2
    exact ⟨by rw [HV.out]; rfl, next HB1.out hb2 (Nat.le_refl _)⟩
end Go.Proofs.YtkjoaodoioicpaaGreatDoor
namespace Go.Proofs.YtkjoaodoioicpaaGreatDoor
open Go.RowKit
def groundS (a : Atm) : Bool := atomS a && !a.args.any fun x => x.kind == 1
theorem gr1_any (a : Arg) (w : World) :
    Calls Tryz.prog 110 #[vArg a] w fun e w' => e = .returned (.bool (a.kind == 1)) ∧ Below w.heap.size w w' := by
  obtain ⟨k, t, n⟩ := a
  unfold vArg
  simp only
  obtain ⟨v, hv⟩ : ∃ v, v = (k == 1) := ⟨_, rfl⟩
  rw [← hv]
  have HV := Lib.hid hv; clear hv
  go_enter Tryz.func110, Tryz.ntmps110
  go_wp2_with fail
  go_ret
  exact ⟨ret_bool HV.out, boxed⟩
set_option maxHeartbeats 1000000 in
theorem Ground_any (x : Atm) (A : Option Addr) (n c : Nat) (w : World) (S : Nat → Prop) (hs : Sl w S A n c x.args) (ho : OkT x) :
    Calls Tryz.prog 75 #[.agg #[.string ⟨x.name.toArray⟩, .slice A n c]] w fun e w' => e = .returned (.bool (groundS x)) ∧ Below w.heap.size w w' := by
  obtain ⟨v, hv⟩ : ∃ v, v = groundS x := ⟨_, rfl⟩
  rw [← hv]
  unfold groundS at hv
  have hfa := fun w S (h : Sl w S A n c x.args) => formedAtom_any x A n c w S h ho
  have hca := fun w S (h : Sl w S A n c x.args) => conA_any A n c w S x.args h 110 #[] (fun _ _ => by kernel_rfl) (fun a => a.kind == 1) (fun a _ w1 _ => by
    have := gr1_any a w1
    simpa using this)
  obtain ⟨nm, args⟩ := x
  simp only at hs hfa hca hv ⊢
  generalize args.any (fun a => a.kind == 1) = an at *
  generalize atomS ⟨nm, args⟩ = af at *
  have HFA := Lib.hid hfa; have HCA := Lib.hid hca; have HS := Lib.hid (hs.wide (S' := fun b => b < w.heap.size) (fun k hk _ => hk) (by decide)); have HV := Lib.hid hv
  clear hfa hca hs hv ho
  go_enter Tryz.func75, Tryz.ntmps75
  go_wp2_with fail
  refine (HFA.out _ _ (HS.out.alloc _)).mono ?_
  rintro e w1 ⟨rfl, hb1⟩
  have hB := keptBlk hb1 (blkAt w (.cells #[.string ⟨nm.toArray⟩, .slice A n c] 31) rfl)
  have k0 := (cell_blk hB 0).trans rfl; have k1 := (cell_blk hB 1).trans rfl
  have HB1 := Lib.hid (next boxed hb1 (Nat.le_refl _)); clear hb1 hB
  cases af
  · go_wp2_with fail
    go_ret
    exact ⟨ret_bool (by rw [HV.out]; rfl), HB1.out⟩
  · go_wp2_with fail
    refine (HCA.out _ _ (HS.out.below HB1.out)).mono ?_
    rintro e w2 ⟨rfl, hb2⟩
    go_wp2_with fail
    go_ret
    exact ⟨ret_bool (by rw [HV.out]; rfl), next HB1.out hb2 (Nat.le_refl _)⟩
end Go.Proofs.YtkjoaodoioicpaaGreatDoor
