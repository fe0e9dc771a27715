/- Rules: Order, Ground. -/
import Derived.Test.YtjopmgoacncmgaaGreatDoorK6
import Derived.Test.YtjopmgoacncmgaaGreatDoorAwkS
import Derived.Test.YtjopmgoacncmgaaGreatDoorRegH
set_option linter.unusedVariables false
set_option linter.unusedSimpArgs false
namespace Go.Proofs.YtjopmgoacncmgaaGreatDoor
open Go.RowKit

theorem rank_any (k : Int) (w : World) : Calls Tryz.prog 125 #[.int .i64 k] w fun e w' => e = .returned (.int .i64 (rankS k)) ∧ w' = w := by
  unfold rankS
  by_cases h3 : k = 3
  · subst h3
    go_enter Tryz.func125, Tryz.ntmps125
    go_wp2
    go_ret
    exact ⟨rfl, rfl⟩
  · have h3b : (k == 3) = false := by simpa using h3
    by_cases h2 : k = 2
    · subst h2
      go_enter Tryz.func125, Tryz.ntmps125
      go_wp2
      go_ret
      exact ⟨rfl, rfl⟩
    · have h2b : (k == 2) = false := by simpa using h2
      rw [if_neg h3, if_neg h2]
      clear h3 h2
      go_enter Tryz.func125, Tryz.ntmps125
      go_wp2
      go_ret
      exact ⟨rfl, rfl⟩
theorem nanS_any (s : Bs) (w : World) : Calls Tryz.prog 115 #[.string ⟨s.toArray⟩] w fun e w' => e = .returned (.bool false) ∧ w' = w := by
  go_enter Tryz.func115, Tryz.ntmps115
  go_wp2
  go_ret
  exact ⟨rfl, rfl⟩
theorem less_ltB (a : Bs) : ∀ b : Bs, Op.bytesLess a b = ltB a b := by
  induction a with
  | nil => intro b; cases b <;> rfl
  | cons x r ih =>
    intro b
    cases b with
    | nil => rfl
    | cons y t =>
      show (decide (x < y) || (x == y && Op.bytesLess r t)) = if x = y then ltB r t else decide (x.toNat < y.toNat)
      rw [ih t]
      have hd : decide (x < y) = decide (x.toNat < y.toNat) := by rw [Bool.eq_iff_iff]; simp [UInt8.lt_iff_toNat_lt]
      rw [hd]
      by_cases h : x = y
      · subst h
        rw [if_pos rfl]
        simp
      · rw [if_neg h]
        simp [h]
theorem cmpS_any (a b : Bs) (w : World) : Calls Tryz.prog 77 #[.string ⟨a.toArray⟩, .string ⟨b.toArray⟩] w fun e w' => e = .returned (.int .i64 (cmpB a b)) ∧ w' = w := by
  obtain ⟨v, hv⟩ : ∃ v, v = cmpB a b := ⟨_, rfl⟩
  rw [← hv]
  have HV := Lib.hid hv; clear hv
  go_enter Tryz.func77, Tryz.ntmps77
  go_wp2_with fail
  refine (nanS_any a _).mono ?_
  rintro e w' ⟨rfl, rfl⟩
  go_wp2_with fail
  refine (nanS_any b _).mono ?_
  rintro e w' ⟨rfl, rfl⟩
  go_wp2_with fail
  · rename_i h1
    go_ret
    exact ⟨ret_int (by rw [HV.out]; unfold cmpB; rw [← less_ltB, h1]; rfl), rfl⟩
  · have h1 : Op.bytesLess a b = false := by assumption
    go_ret
    refine ⟨ret_int ?_, rfl⟩
    rw [HV.out]
    unfold cmpB
    rw [less_ltB] at h1
    rw [h1]
    rcases ltB_tot a b with h | h | h
    · rw [h] at h1; cases h1
    · subst h; simp_all
    · rw [h]; rfl
  · rename_i h2
    go_ret
    refine ⟨ret_int ?_, rfl⟩
    have h3 : a = b := by simpa using h2
    rw [HV.out]
    subst h3
    unfold cmpB
    rw [ltB_irr]
    rfl
theorem cmpI_any (a b : Int) (w : World) : Calls Tryz.prog 78 #[.int .i64 a, .int .i64 b] w fun e w' => e = .returned (.int .i64 (cmpI a b)) ∧ w' = w := by
  have h := Tryz.cmp_Compare_int a b w
  have e : Lib.compareInt a b = cmpI a b := by
    unfold Lib.compareInt cmpI
    split <;> (try rfl) <;> (split <;> (try rfl)) <;> (split <;> (try rfl)) <;> omega
  rw [e] at h
  exact h
theorem or_any (b c0 : Nat) (x y z : Int) (t : TypeId) (w : World) (hb : w.heap[b]? = some (.cells #[.int .i64 x, .int .i64 y, .int .i64 z] t (0, 0))) :
    Calls Tryz.prog 76 #[.slice (some ⟨b, 0, none⟩) 3 c0] w fun e w' => e = .returned (.int .i64 (orI [x, y, z])) ∧ w' = w := by
  have c0 := (cell_blk hb 0).trans rfl; have c1 := (cell_blk hb 1).trans rfl; have c2 := (cell_blk hb 2).trans rfl
  clear hb
  obtain ⟨v, hv⟩ : ∃ v, v = orI [x, y, z] := ⟨_, rfl⟩
  rw [← hv]
  have Hf : Hid (v = orI (([x, y, z] : List Int).drop 0)) := hv
  clear hv
  go_enter Tryz.func76, Tryz.ntmps76
  go_wp2_with fail
  go_loop [8] (fun i => ∃ k : Nat, k ≤ 3 ∧ i = .int .i64 k ∧ Hid (v = orI (([x, y, z] : List Int).drop k))) (fun i => 3 - (intOf i).toNat)
  case atStart => exact ⟨0, by omega, rfl, Hf⟩
  case round =>
    obtain ⟨k, hk, rfl, hf⟩ := hrel
    rcases (show k = 0 ∨ k = 1 ∨ k = 2 ∨ k = 3 by omega) with rfl | rfl | rfl | rfl
    · by_cases hz : x = 0
      · have hzb : (x == 0) = true := by simpa using hz
        have HZ := Lib.hid hz; clear hz
        go_wp2_with fail
        have hz := HZ.out
        go_round
        case rel => exact ⟨1, by omega, rfl, by show v = _; rw [hf.out]; show orI (x :: _) = _; rw [orI, if_neg (by simp [hz])]; rfl⟩
        case measure => simp [intOf]
      · have hzb : (x == 0) = false := by simpa using hz
        have HZ := Lib.hid hz; clear hz
        go_wp2_with fail
        go_ret
        have hz := HZ.out
        exact ⟨ret_int (by rw [hf.out]; show orI (x :: _) = _; rw [orI, if_pos hz]), rfl⟩
    · by_cases hz : y = 0
      · have hzb : (y == 0) = true := by simpa using hz
        have HZ := Lib.hid hz; clear hz
        go_wp2_with fail
        have hz := HZ.out
        go_round
        case rel => exact ⟨2, by omega, rfl, by show v = _; rw [hf.out]; show orI (y :: _) = _; rw [orI, if_neg (by simp [hz])]; rfl⟩
        case measure => simp [intOf]
      · have hzb : (y == 0) = false := by simpa using hz
        have HZ := Lib.hid hz; clear hz
        go_wp2_with fail
        go_ret
        have hz := HZ.out
        exact ⟨ret_int (by rw [hf.out]; show orI (y :: _) = _; rw [orI, if_pos hz]), rfl⟩
    · by_cases hz : z = 0
      · have hzb : (z == 0) = true := by simpa using hz
        have HZ := Lib.hid hz; clear hz
        go_wp2_with fail
        have hz := HZ.out
        go_round
        case rel => exact ⟨3, by omega, rfl, by show v = _; rw [hf.out]; show orI (z :: _) = _; rw [orI, if_neg (by simp [hz])]; rfl⟩
        case measure => simp [intOf]
      · have hzb : (z == 0) = false := by simpa using hz
        have HZ := Lib.hid hz; clear hz
        go_wp2_with fail
        go_ret
        have hz := HZ.out
        exact ⟨ret_int (by rw [hf.out]; show orI (z :: _) = _; rw [orI, if_pos hz]), rfl⟩
    · go_wp2_with fail
      go_ret
      exact ⟨ret_int (by rw [hf.out]; rfl), rfl⟩

set_option maxRecDepth 100000 in
set_option maxHeartbeats 4000000 in
theorem compareArgs_any (a b : Arg) (w : World) :
    Calls Tryz.prog 80 #[vArg a, vArg b] w fun e w' => e = .returned (.int .i64 (cmpArg a b)) ∧ Below w.heap.size w w' := by
  obtain ⟨v, hv⟩ : ∃ v, v = cmpArg a b := ⟨_, rfl⟩
  rw [← hv]
  unfold cmpArg at hv
  obtain ⟨ak, at_, an⟩ := a
  obtain ⟨bk, bt, bn⟩ := b
  simp only at hv
  unfold vArg
  simp only
  have HV := Lib.hid hv; clear hv
  go_enter Tryz.func80, Tryz.ntmps80
  go_wp2_with fail
  have hB0 : ((w.alloc (.cells #[.int .i64 ak, .string ⟨at_.toArray⟩, .int .i64 an] 95)).alloc (.cells #[.int .i64 bk, .string ⟨bt.toArray⟩, .int .i64 bn] 95)).heap[w.heap.size]? = some (.cells #[.int .i64 ak, .string ⟨at_.toArray⟩, .int .i64 an] 95 (0, 0)) := blkOld (blkAt w _ rfl) _
  have hB1 : ((w.alloc (.cells #[.int .i64 ak, .string ⟨at_.toArray⟩, .int .i64 an] 95)).alloc (.cells #[.int .i64 bk, .string ⟨bt.toArray⟩, .int .i64 bn] 95)).heap[w.heap.size + 1]? = some (.cells #[.int .i64 bk, .string ⟨bt.toArray⟩, .int .i64 bn] 95 (0, 0)) := blkAt2 (by simp) rfl
  have hbl : Below w.heap.size w ((w.alloc (.cells #[.int .i64 ak, .string ⟨at_.toArray⟩, .int .i64 an] 95)).alloc (.cells #[.int .i64 bk, .string ⟨bt.toArray⟩, .int .i64 bn] 95)) := boxed.alloc (by simp) _
  generalize (w.alloc (.cells #[.int .i64 ak, .string ⟨at_.toArray⟩, .int .i64 an] 95)).alloc (.cells #[.int .i64 bk, .string ⟨bt.toArray⟩, .int .i64 bn] 95) = W at *
  refine wpH_region (fun x => Below W.heap.size W x) (by kernel_rfl) ?_
  have hS : Below W.heap.size W W.drew := (Below.refl _ _).drew
  have HX := Lib.hid (fun (x : World) (hx : Below W.heap.size W x) => And.intro ((cell_blk (keptBlk hx hB0) 0).trans rfl) (And.intro ((cell_blk (keptBlk hx hB0) 1).trans rfl) (And.intro ((cell_blk (keptBlk hx hB0) 2).trans rfl) (And.intro ((cell_blk (keptBlk hx hB1) 0).trans rfl) (And.intro ((cell_blk (keptBlk hx hB1) 1).trans rfl) ((cell_blk (keptBlk hx hB1) 2).trans rfl))))))
  have HBL := Lib.hid hbl
  clear hB0 hB1 hbl
  (refine wpAnyH_takeW 0 rfl rfl (by kernel_rfl) (by kernel_rfl) (by kernel_rfl) (fun _ _ _ h => h) (v := ?_) (by kernel_rfl) hS ?_ ?_; rotate_left; (focus (intro x hx; have fx := HX.out x hx; go_simp; (try with_reducible rfl); done)); (try simp only [Act.put, List.setIfInBounds_toArray, List.set_cons_zero, List.set_cons_succ]))
  (refine wpAnyH_takeW 1 rfl rfl (by kernel_rfl) (by kernel_rfl) (by kernel_rfl) (fun _ _ _ h => h) (v := ?_) (by kernel_rfl) hS ?_ ?_; rotate_left; (focus (intro x hx; have fx := HX.out x hx; go_simp; (try with_reducible rfl); done)); (try simp only [Act.put, List.setIfInBounds_toArray, List.set_cons_zero, List.set_cons_succ]))
  (refine wpAnyH_takeW 3 rfl rfl (by kernel_rfl) (by kernel_rfl) (by kernel_rfl) (fun _ _ _ h => h) (v := ?_) (by kernel_rfl) hS ?_ ?_; rotate_left; (focus (intro x hx; have fx := HX.out x hx; go_simp; (try with_reducible rfl); done)); (try simp only [Act.put, List.setIfInBounds_toArray, List.set_cons_zero, List.set_cons_succ]))
  (refine wpAnyH_takeW 4 rfl rfl (by kernel_rfl) (by kernel_rfl) (by kernel_rfl) (fun _ _ _ h => h) (v := ?_) (by kernel_rfl) hS ?_ ?_; rotate_left; (focus (intro x hx; have fx := HX.out x hx; go_simp; (try with_reducible rfl); done)); (try simp only [Act.put, List.setIfInBounds_toArray, List.set_cons_zero, List.set_cons_succ]))
  (refine wpAnyH_takeW 7 rfl rfl (by kernel_rfl) (by kernel_rfl) (by kernel_rfl) (fun _ _ _ h => h) (v := ?_) (by kernel_rfl) hS ?_ ?_; rotate_left; (focus (intro x hx; have fx := HX.out x hx; go_simp; (try with_reducible rfl); done)); (try simp only [Act.put, List.setIfInBounds_toArray, List.set_cons_zero, List.set_cons_succ]))
  (refine wpAnyH_takeW 8 rfl rfl (by kernel_rfl) (by kernel_rfl) (by kernel_rfl) (fun _ _ _ h => h) (v := ?_) (by kernel_rfl) hS ?_ ?_; rotate_left; (focus (intro x hx; have fx := HX.out x hx; go_simp; (try with_reducible rfl); done)); (try simp only [Act.put, List.setIfInBounds_toArray, List.set_cons_zero, List.set_cons_succ]))
  (refine wpAnyH_takeW 9 rfl rfl (by kernel_rfl) (by kernel_rfl) (by kernel_rfl) (fun _ _ _ h => h) (v := ?_) (by kernel_rfl) hS ?_ ?_; rotate_left; (focus (intro x hx; have fx := HX.out x hx; go_simp; (try with_reducible rfl); done)); (try simp only [Act.put, List.setIfInBounds_toArray, List.set_cons_zero, List.set_cons_succ]))
  (refine wpAnyH_takeW 10 rfl rfl (by kernel_rfl) (by kernel_rfl) (by kernel_rfl) (fun _ _ _ h => h) (v := ?_) (by kernel_rfl) hS ?_ ?_; rotate_left; (focus (intro x hx; have fx := HX.out x hx; go_simp; (try with_reducible rfl); done)); (try simp only [Act.put, List.setIfInBounds_toArray, List.set_cons_zero, List.set_cons_succ]))
  (refine wpAnyH_takeW 12 rfl rfl (by kernel_rfl) (by kernel_rfl) (by kernel_rfl) (fun _ _ _ h => h) (v := ?_) (by kernel_rfl) hS ?_ ?_; rotate_left; (focus (intro x hx; have fx := HX.out x hx; go_simp; (try with_reducible rfl); done)); (try simp only [Act.put, List.setIfInBounds_toArray, List.set_cons_zero, List.set_cons_succ]))
  (refine wpAnyH_takeW 13 rfl rfl (by kernel_rfl) (by kernel_rfl) (by kernel_rfl) (fun _ _ _ h => h) (v := ?_) (by kernel_rfl) hS ?_ ?_; rotate_left; (focus (intro x hx; have fx := HX.out x hx; go_simp; (try with_reducible rfl); done)); (try simp only [Act.put, List.setIfInBounds_toArray, List.set_cons_zero, List.set_cons_succ]))
  (refine wpAnyH_takeW 14 rfl rfl (by kernel_rfl) (by kernel_rfl) (by kernel_rfl) (fun _ _ _ h => h) (v := ?_) (by kernel_rfl) hS ?_ ?_; rotate_left; (focus (intro x hx; have fx := HX.out x hx; go_simp; (try with_reducible rfl); done)); (try simp only [Act.put, List.setIfInBounds_toArray, List.set_cons_zero, List.set_cons_succ]))
  (refine wpAnyH_takeW 15 rfl rfl (by kernel_rfl) (by kernel_rfl) (by kernel_rfl) (fun _ _ _ h => h) (v := ?_) (by kernel_rfl) hS ?_ ?_; rotate_left; (focus (intro x hx; have fx := HX.out x hx; go_simp; (try with_reducible rfl); done)); (try simp only [Act.put, List.setIfInBounds_toArray, List.set_cons_zero, List.set_cons_succ]))
  (refine wpAnyH_one 2 (by kernel_rfl) rfl ?_; intro K' hK'; go_simp; refine (rank_any ak _).mono ?_; rintro e w1 ⟨rfl, rfl⟩; refine hK'.out _ _ hS ?_; clear hK' K')
  (refine wpAnyH_one 5 (by kernel_rfl) rfl ?_; intro K' hK'; go_simp; refine (rank_any bk _).mono ?_; rintro e w1 ⟨rfl, rfl⟩; refine hK'.out _ _ hS ?_; clear hK' K')
  (refine wpAnyH_one 6 (by kernel_rfl) rfl ?_; intro K' hK'; go_simp; refine (cmpI_any _ _ _).mono ?_; rintro e w1 ⟨rfl, rfl⟩; refine hK'.out _ _ hS ?_; clear hK' K')
  (refine wpAnyH_one 11 (by kernel_rfl) rfl ?_; intro K' hK'; go_simp; refine (cmpI_any _ _ _).mono ?_; rintro e w1 ⟨rfl, rfl⟩; refine hK'.out _ _ hS ?_; clear hK' K')
  (refine wpAnyH_one 16 (by kernel_rfl) rfl ?_; intro K' hK'; go_simp; refine (cmpS_any at_ bt _).mono ?_; rintro e w1 ⟨rfl, rfl⟩; refine hK'.out _ _ hS ?_; clear hK' K')
  (refine wpAnyH_one 17 (by kernel_rfl) rfl ?_; intro K' hK'; go_simp; refine hK'.out _ _ (hS.alloc (by simp) _) ?_; clear hK' K')
  have hS := hS.alloc (w := W.drew) (by simp) (.cells #[.int .i64 (cmpI (rankS ak) (rankS bk)), .int .i64 (cmpI an bn), .int .i64 (cmpB at_ bt)] 3)
  (refine wpAnyH_one 18 (by kernel_rfl) rfl ?_; intro K' hK'; go_simp; (first | refine (or_any _ _ _ _ _ _ _ (blkAt _ _ rfl)).mono ?_ | refine (or_any _ _ _ _ _ _ _ (blkDrw (blkAt _ _ rfl))).mono ?_); rintro e w1 ⟨rfl, rfl⟩; refine hK'.out _ _ hS ?_; clear hK' K')
  (refine wpAnyH_takeW 19 rfl rfl (by kernel_rfl) (by kernel_rfl) (by kernel_rfl) (fun _ _ _ h => h) (v := ?_) (by kernel_rfl) hS ?_ ?_; rotate_left; (focus (intro x hx; have fx := HX.out x hx; go_simp; (try with_reducible rfl); done)); (try simp only [Act.put, List.setIfInBounds_toArray, List.set_cons_zero, List.set_cons_succ]))
  refine wpAnyH_done (by kernel_rfl) ?_ _
  go_wp2_with fail
  go_ret
  exact ⟨ret_int HV.out, HBL.out.trans (hS.mono HBL.out.size)⟩

set_option maxRecDepth 100000 in
set_option maxHeartbeats 4000000 in
theorem compareFunc_any (A : Option Addr) (n c : Nat) (l : List Arg) (B : Option Addr) (m d : Nat) (r : List Arg) (w : World) (S T : Nat → Prop) (hl : Sl w S A n c l) (hr : Sl w T B m d r) :
    Calls Tryz.prog 79 #[.slice A n c, .slice B m d, .func (.func 80) #[] #[]] w fun e w' => e = .returned (.int .i64 (cmpArgs l r)) ∧ Below w.heap.size w w' := by
  obtain ⟨v, hv⟩ : ∃ v, v = cmpArgs l r := ⟨_, rfl⟩
  rw [← hv]
  have hn := hl.len; have hm := hr.len
  subst hn hm
  have hle := hl.le; have hle2 := hr.le
  have Hf : Hid (v = cmpArgs (l.drop 0) (r.drop 0)) := hv
  have HL := Lib.hid hl; have HR := Lib.hid hr
  clear hv hl hr
  go_enter Tryz.func79, Tryz.ntmps79
  go_wp2_with fail
  go_loopw [13] (fun i wr => ∃ k : Nat, k ≤ l.length ∧ i = .int .i64 k ∧ k ≤ r.length ∧ Below w.heap.size w wr ∧ Hid (v = cmpArgs (l.drop k) (r.drop k))) (fun i _ => l.length - (intOf i).toNat)
  case atStart => exact ⟨0, by omega, rfl, by omega, Below.refl _ _, Hf⟩
  case round =>
    obtain ⟨k, hk, rfl, hkr, hb, hf⟩ := hrel
    have hwr := hb.size
    by_cases hlt : k < l.length
    · obtain ⟨b1, o1, hA, -, hbs1, h1, h2, h3⟩ := (HL.out.below hb).arg hlt
      by_cases hlt2 : k < r.length
      · obtain ⟨b2, o2, hB, -, hbs2, g1, g2, g3⟩ := (HR.out.below hb).arg hlt2
        have hd := hf.out
        rw [drop_get hlt, drop_get hlt2, cmpArgs] at hd
        subst hA hB
        have hca := fun w => compareArgs_any l[k] r[k] w
        have hlt2I : ¬ (r.length : Int) ≤ (k : Int) := by omega
        generalize l[k] = x at *
        generalize r[k] = y at *
        unfold vArg at hca
        generalize cmpArg x y = cv at *
        have HD := Lib.hid hd; have HCA := Lib.hid hca; have HB := Lib.hid hb
        clear hd hca hb hf
        by_cases hc0 : cv = 0
        · have hcb : (cv == 0) = true := by simpa using hc0
          have HC0 := Lib.hid hc0; clear hc0
          go_wp2_with fail
          refine (HCA.out _).mono ?_
          rintro e w2 ⟨rfl, hb2⟩
          have hsz2 := hb2.size
          simp at hsz2
          go_wp2_with fail
          go_roundw
          case rel =>
            have hd := HD.out
            rw [if_neg (by simp [HC0.out])] at hd
            exact ⟨k + 1, by omega, by go_num, by omega, ((HB.out.alloc hwr _).alloc (by simp; omega) _).trans (hb2.mono (by simp; omega)), hd⟩
          case measure => simp [intOf]; omega
        · have hcb : (cv == 0) = false := by simpa using hc0
          have HC0 := Lib.hid hc0; clear hc0
          go_wp2_with fail
          refine (HCA.out _).mono ?_
          rintro e w2 ⟨rfl, hb2⟩
          have hsz2 := hb2.size
          simp at hsz2
          go_wp2_with fail
          go_ret
          have hd := HD.out
          rw [if_pos HC0.out] at hd
          exact ⟨ret_int hd, ((HB.out.alloc hwr _).alloc (by simp; omega) _).trans (hb2.mono (by simp; omega))⟩
      · have hd := hf.out
        rw [drop_get hlt, drop_end hlt2, cmpArgs] at hd
        subst hA
        have hlt2I : (r.length : Int) ≤ (k : Int) := by omega
        have HD := Lib.hid hd; have HB := Lib.hid hb; clear hd hb hf
        go_wp2_with fail
        go_ret
        exact ⟨ret_int HD.out, HB.out.alloc hwr _⟩
    · have hd := hf.out
      rw [drop_end hlt] at hd
      by_cases hlt2 : k < r.length
      · rw [drop_get hlt2, cmpArgs] at hd
        have HD := Lib.hid hd; have HB := Lib.hid hb; clear hd hb hf
        have hlI : (l.length : Int) < (r.length : Int) := by omega
        go_wp2_with fail
        go_ret
        exact ⟨ret_int HD.out, HB.out⟩
      · rw [drop_end hlt2, cmpArgs] at hd
        have HD := Lib.hid hd; have HB := Lib.hid hb; clear hd hb hf
        have hlI : ¬ (l.length : Int) < (r.length : Int) := by omega
        go_wp2_with fail
        go_ret
        exact ⟨ret_int HD.out, HB.out⟩

set_option maxRecDepth 100000 in
set_option maxHeartbeats 4000000 in
theorem Order_any (x y : Atm) (A : Option Addr) (n c : Nat) (B : Option Addr) (m d : Nat) (w : World) (S T : Nat → Prop) (hl : Sl w S A n c x.args) (hr : Sl w T B m d y.args) :
    Calls Tryz.prog 38 #[.agg #[.string ⟨x.name.toArray⟩, .slice A n c], .agg #[.string ⟨y.name.toArray⟩, .slice B m d]] w fun e w' => e = .returned (.int .i64 (ordS x y)) ∧ Below w.heap.size w w' := by
  obtain ⟨v, hv⟩ : ∃ v, v = ordS x y := ⟨_, rfl⟩
  rw [← hv]
  unfold ordS at hv
  have hcf := fun w hl hr => compareFunc_any A n c x.args B m d y.args w S T hl hr
  obtain ⟨xn, xa⟩ := x
  obtain ⟨yn, ya⟩ := y
  simp only at hl hr hv hcf ⊢
  have hn := hl.len; have hm := hr.len
  subst hn hm
  have hle := hl.le; have hle2 := hr.le
  generalize cmpArgs xa ya = ca at *
  have HV := Lib.hid hv; have HCF := Lib.hid hcf; have HL := Lib.hid hl; have HR := Lib.hid hr
  clear hv hcf hl hr
  go_enter Tryz.func38, Tryz.ntmps38
  go_wp2_with fail
  have hB0 : ((w.alloc (.cells #[.string ⟨xn.toArray⟩, .slice A xa.length c] 45)).alloc (.cells #[.string ⟨yn.toArray⟩, .slice B ya.length d] 45)).heap[w.heap.size]? = some (.cells #[.string ⟨xn.toArray⟩, .slice A xa.length c] 45 (0, 0)) := blkOld (blkAt w _ rfl) _
  have hB1 : ((w.alloc (.cells #[.string ⟨xn.toArray⟩, .slice A xa.length c] 45)).alloc (.cells #[.string ⟨yn.toArray⟩, .slice B ya.length d] 45)).heap[w.heap.size + 1]? = some (.cells #[.string ⟨yn.toArray⟩, .slice B ya.length d] 45 (0, 0)) := blkAt2 (by simp) rfl
  have hbl : Below w.heap.size w ((w.alloc (.cells #[.string ⟨xn.toArray⟩, .slice A xa.length c] 45)).alloc (.cells #[.string ⟨yn.toArray⟩, .slice B ya.length d] 45)) := boxed.alloc (by simp) _
  generalize (w.alloc (.cells #[.string ⟨xn.toArray⟩, .slice A xa.length c] 45)).alloc (.cells #[.string ⟨yn.toArray⟩, .slice B ya.length d] 45) = W at *
  refine wpH_region (fun x => Below W.heap.size W x) (by kernel_rfl) ?_
  have hS : Below W.heap.size W W.drew := (Below.refl _ _).drew
  have HX := Lib.hid (fun (x : World) (hx : Below W.heap.size W x) => And.intro ((cell_blk (keptBlk hx hB0) 0).trans rfl) (And.intro ((cell_blk (keptBlk hx hB0) 1).trans rfl) (And.intro ((cell_blk (keptBlk hx hB1) 0).trans rfl) ((cell_blk (keptBlk hx hB1) 1).trans rfl))))
  have HBL := Lib.hid hbl
  clear hB0 hB1 hbl
  (refine wpAnyH_takeW 0 rfl rfl (by kernel_rfl) (by kernel_rfl) (by kernel_rfl) (fun _ _ _ h => h) (v := ?_) (by kernel_rfl) hS ?_ ?_; rotate_left; (focus (intro x hx; have fx := HX.out x hx; go_simp; (try with_reducible rfl); done)); (try simp only [Act.put, List.setIfInBounds_toArray, List.set_cons_zero, List.set_cons_succ]))
  (refine wpAnyH_takeW 1 rfl rfl (by kernel_rfl) (by kernel_rfl) (by kernel_rfl) (fun _ _ _ h => h) (v := ?_) (by kernel_rfl) hS ?_ ?_; rotate_left; (focus (intro x hx; have fx := HX.out x hx; go_simp; (try with_reducible rfl); done)); (try simp only [Act.put, List.setIfInBounds_toArray, List.set_cons_zero, List.set_cons_succ]))
  (refine wpAnyH_takeW 2 rfl rfl (by kernel_rfl) (by kernel_rfl) (by kernel_rfl) (fun _ _ _ h => h) (v := ?_) (by kernel_rfl) hS ?_ ?_; rotate_left; (focus (intro x hx; have fx := HX.out x hx; go_simp; (try with_reducible rfl); done)); (try simp only [Act.put, List.setIfInBounds_toArray, List.set_cons_zero, List.set_cons_succ]))
  (refine wpAnyH_takeW 3 rfl rfl (by kernel_rfl) (by kernel_rfl) (by kernel_rfl) (fun _ _ _ h => h) (v := ?_) (by kernel_rfl) hS ?_ ?_; rotate_left; (focus (intro x hx; have fx := HX.out x hx; go_simp; (try with_reducible rfl); done)); (try simp only [Act.put, List.setIfInBounds_toArray, List.set_cons_zero, List.set_cons_succ]))
  (refine wpAnyH_takeW 5 rfl rfl (by kernel_rfl) (by kernel_rfl) (by kernel_rfl) (fun _ _ _ h => h) (v := ?_) (by kernel_rfl) hS ?_ ?_; rotate_left; (focus (intro x hx; have fx := HX.out x hx; go_simp; (try with_reducible rfl); done)); (try simp only [Act.put, List.setIfInBounds_toArray, List.set_cons_zero, List.set_cons_succ]))
  (refine wpAnyH_takeW 6 rfl rfl (by kernel_rfl) (by kernel_rfl) (by kernel_rfl) (fun _ _ _ h => h) (v := ?_) (by kernel_rfl) hS ?_ ?_; rotate_left; (focus (intro x hx; have fx := HX.out x hx; go_simp; (try with_reducible rfl); done)); (try simp only [Act.put, List.setIfInBounds_toArray, List.set_cons_zero, List.set_cons_succ]))
  (refine wpAnyH_takeW 7 rfl rfl (by kernel_rfl) (by kernel_rfl) (by kernel_rfl) (fun _ _ _ h => h) (v := ?_) (by kernel_rfl) hS ?_ ?_; rotate_left; (focus (intro x hx; have fx := HX.out x hx; go_simp; (try with_reducible rfl); done)); (try simp only [Act.put, List.setIfInBounds_toArray, List.set_cons_zero, List.set_cons_succ]))
  (refine wpAnyH_takeW 8 rfl rfl (by kernel_rfl) (by kernel_rfl) (by kernel_rfl) (fun _ _ _ h => h) (v := ?_) (by kernel_rfl) hS ?_ ?_; rotate_left; (focus (intro x hx; have fx := HX.out x hx; go_simp; (try with_reducible rfl); done)); (try simp only [Act.put, List.setIfInBounds_toArray, List.set_cons_zero, List.set_cons_succ]))
  (refine wpAnyH_takeW 9 rfl rfl (by kernel_rfl) (by kernel_rfl) (by kernel_rfl) (fun _ _ _ h => h) (v := ?_) (by kernel_rfl) hS ?_ ?_; rotate_left; (focus (intro x hx; have fx := HX.out x hx; go_simp; (try with_reducible rfl); done)); (try simp only [Act.put, List.setIfInBounds_toArray, List.set_cons_zero, List.set_cons_succ]))
  (refine wpAnyH_takeW 10 rfl rfl (by kernel_rfl) (by kernel_rfl) (by kernel_rfl) (fun _ _ _ h => h) (v := ?_) (by kernel_rfl) hS ?_ ?_; rotate_left; (focus (intro x hx; have fx := HX.out x hx; go_simp; (try with_reducible rfl); done)); (try simp only [Act.put, List.setIfInBounds_toArray, List.set_cons_zero, List.set_cons_succ]))
  (refine wpAnyH_takeW 12 rfl rfl (by kernel_rfl) (by kernel_rfl) (by kernel_rfl) (fun _ _ _ h => h) (v := ?_) (by kernel_rfl) hS ?_ ?_; rotate_left; (focus (intro x hx; have fx := HX.out x hx; go_simp; (try with_reducible rfl); done)); (try simp only [Act.put, List.setIfInBounds_toArray, List.set_cons_zero, List.set_cons_succ]))
  (refine wpAnyH_takeW 13 rfl rfl (by kernel_rfl) (by kernel_rfl) (by kernel_rfl) (fun _ _ _ h => h) (v := ?_) (by kernel_rfl) hS ?_ ?_; rotate_left; (focus (intro x hx; have fx := HX.out x hx; go_simp; (try with_reducible rfl); done)); (try simp only [Act.put, List.setIfInBounds_toArray, List.set_cons_zero, List.set_cons_succ]))
  (refine wpAnyH_takeW 14 rfl rfl (by kernel_rfl) (by kernel_rfl) (by kernel_rfl) (fun _ _ _ h => h) (v := ?_) (by kernel_rfl) hS ?_ ?_; rotate_left; (focus (intro x hx; have fx := HX.out x hx; go_simp; (try with_reducible rfl); done)); (try simp only [Act.put, List.setIfInBounds_toArray, List.set_cons_zero, List.set_cons_succ]))
  (refine wpAnyH_takeW 15 rfl rfl (by kernel_rfl) (by kernel_rfl) (by kernel_rfl) (fun _ _ _ h => h) (v := ?_) (by kernel_rfl) hS ?_ ?_; rotate_left; (focus (intro x hx; have fx := HX.out x hx; go_simp; (try with_reducible rfl); done)); (try simp only [Act.put, List.setIfInBounds_toArray, List.set_cons_zero, List.set_cons_succ]))
  (refine wpAnyH_one 4 (by kernel_rfl) rfl ?_; intro K' hK'; go_simp; refine (cmpS_any xn yn _).mono ?_; rintro e w1 ⟨rfl, rfl⟩; refine hK'.out _ _ hS ?_; clear hK' K')
  (refine wpAnyH_one 11 (by kernel_rfl) rfl ?_; intro K' hK'; go_simp; refine (cmpI_any _ _ _).mono ?_; rintro e w1 ⟨rfl, rfl⟩; refine hK'.out _ _ hS ?_; clear hK' K')
  (refine wpAnyH_one 16 (by kernel_rfl) rfl ?_; intro K' hK'; go_simp; refine (HCF.out _ (HL.out.below (HBL.out.trans (hS.mono HBL.out.size))) (HR.out.below (HBL.out.trans (hS.mono HBL.out.size)))).mono ?_; rintro e w5 ⟨rfl, hb5⟩; have hS := hS.trans (hb5.mono hS.size); refine hK'.out _ _ hS ?_; clear hK' K')
  (refine wpAnyH_one 17 (by kernel_rfl) rfl ?_; intro K' hK'; go_simp; refine hK'.out _ _ (hS.alloc hS.size _) ?_; clear hK' K')
  have hS := hS.alloc hS.size (.cells #[.int .i64 (cmpB xn yn), .int .i64 (cmpI xa.length ya.length), .int .i64 ca] 3)
  (refine wpAnyH_one 18 (by kernel_rfl) rfl ?_; intro K' hK'; go_simp; (first | refine (or_any _ _ _ _ _ _ _ (blkAt _ _ rfl)).mono ?_ | refine (or_any _ _ _ _ _ _ _ (blkDrw (blkAt _ _ rfl))).mono ?_); rintro e w1 ⟨rfl, rfl⟩; refine hK'.out _ _ hS ?_; clear hK' K')
  (refine wpAnyH_takeW 19 rfl rfl (by kernel_rfl) (by kernel_rfl) (by kernel_rfl) (fun _ _ _ h => h) (v := ?_) (by kernel_rfl) hS ?_ ?_; rotate_left; (focus (intro x hx; have fx := HX.out x hx; go_simp; (try with_reducible rfl); done)); (try simp only [Act.put, List.setIfInBounds_toArray, List.set_cons_zero, List.set_cons_succ]))
  refine wpAnyH_done (by kernel_rfl) ?_ _
  go_wp2_with fail
  go_ret
  exact ⟨ret_int HV.out, HBL.out.trans (hS.mono HBL.out.size)⟩
end Go.Proofs.YtjopmgoacncmgaaGreatDoor
