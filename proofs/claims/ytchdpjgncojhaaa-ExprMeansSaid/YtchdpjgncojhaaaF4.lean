/- Expressions: the walk of expr.Fold. -/
import Derived.Test.YtchdpjgncojhaaaF3b
import Derived.Test.YtchdpjgncojhaaaRegX
set_option linter.unusedVariables false
set_option linter.unusedSimpArgs false
namespace Go.Proofs.Ytchdpjgncojhaaa
open Go.RowKit

/-- What holds at the head of Fold's loop. -/
def FoldRel (w : World) (b : Nat) (f : List Opn) (v : List Opn) (k : Nat) (wr : World) : Prop :=
  ∃ (A : Option Addr) (c : Nat) (out : List Opn), OutAt wr (b + 1) b A c out ∧ Below w.heap.size w wr ∧ w.heap.size ≤ b ∧ out.length ≤ k ∧ OkN out ∧ v = foldGo (f.drop k) out

set_option maxRecDepth 100000 in
set_option maxHeartbeats 16000000 in
theorem fold_any (A : Option Addr) (n c : Nat) (w : World) (S : Nat → Prop) (f : List Opn) (hl : Sl w S A n c f) (hf : OkF f) :
    Calls Try.prog 21 #[.slice A n c] w fun e w' => ∃ A' n' c', e = .returned (.tuple #[.slice A' n' c', .int .i64 (foldS f).2]) ∧ Sl w' (fun b => w.heap.size ≤ b) A' n' c' (foldS f).1 ∧ Below w.heap.size w w' := by
  have hn := hl.le
  have hlen := hl.len
  subst hlen
  have hck := check_any A f.length c w S f hl hf
  have HL := Lib.hid hl; clear hl
  have HF := Lib.hid hf; clear hf
  obtain ⟨v, hv⟩ : ∃ v, v = foldS f := ⟨_, rfl⟩
  rw [← hv]
  unfold foldS at hv
  by_cases hc : checkS f = 0
  · rw [if_neg (fun h => h hc)] at hv
    rw [hc] at hck
    have hlen : f.length ≤ 256 := by
      unfold checkS at hc
      split at hc
      · cases hc
      · omega
    have Hck := Lib.hid hck; clear hck
    obtain ⟨v1, v2⟩ := v
    injection hv with hv1 hv2
    subst hv2
    have Hv := Lib.hid hv1; clear hv1 hc
    go_enter Try.func21, Try.ntmps21
    go_wp2_with fail
    refine Hck.out.mono ?_
    rintro e w1 ⟨rfl, hb1⟩
    go_wp2_with fail
    go_loopw [18] (fun i wr => ∃ k : Nat, k ≤ f.length ∧ i = .int .i64 k ∧ Hid (FoldRel w w1.heap.size f v1 k wr)) (fun i _ => f.length - (intOf i).toNat)
    case atStart => exact ⟨0, by omega, rfl, none, 0, [], ⟨heap_alloc_new w1 _, Own.nil _ _ _ _⟩, hb1.alloc hb1.size _, hb1.size, by simp, (fun o h => by simp at h), Hv.out⟩
    case round =>
      obtain ⟨k, hk, rfl, hrel⟩ := hrel
      obtain ⟨Ao, co, out, hout, hb, hwb, hol, hon, hfd⟩ := hrel.out
      clear hrel
      have d0 := cell_blk hout.1 0
      have z0 := frz_blk hout.1 0
      simp only [List.getElem?_toArray, List.getElem?_cons_zero] at d0
      have hbl : w1.heap.size < wr.heap.size := (Array.getElem?_eq_some_iff.1 hout.1).1
      have HO := Lib.hid hout; clear hout
      have HN := Lib.hid hon; clear hon
      by_cases hlt : k < f.length
      · obtain ⟨bb, oo, rfl, -, hbs, h1, h2, h3⟩ := (HL.out.below hb).opn hlt
        rw [drop_get hlt] at hfd
        obtain ⟨ho1, ho2, ho3⟩ := HF.out f[k] (List.getElem_mem hlt)
        generalize f[k] = op at *
        obtain ⟨ok, ot, onn⟩ := op
        simp only at h1 h2 h3 ho1 ho2 ho3
        have Hfd := Lib.hid hfd; clear hfd
        by_cases h6 : ok = 6 ∧ isNum out 1 = true
        · obtain ⟨h6k, h61⟩ := h6
          have hd := Hfd.out
          rw [foldGo_6 h6k h61] at hd
          have hd1 : 1 ≤ out.length := by
            unfold isNum at h61
            simp only [Bool.and_eq_true, decide_eq_true_eq] at h61
            exact h61.1
          have hk1 : out.length - 1 < out.length := by omega
          have hgd : out.getD (out.length - 1) default = out[out.length - 1] := by simp [hk1]
          rw [hgd] at hd
          obtain ⟨g, rfl, hg1, hg2, hfz, k0, k1, k2⟩ := HO.out.2.opn hk1
          have hon1 := HN.out _ (List.getElem_mem hk1)
          have Hd := Lib.hid hd; clear hd Hfd hgd
          have hq6 : (ok == 6) = true := by simp [h6k]
          clear h6k
          have hidx : ((out.length : Int) - 1).toNat = out.length - 1 := by omega
          have hgz := hfz ((out.length - 1) * 3 + 2)
          have hcap := HO.out.2.cap
          obtain ⟨hcap1, hcap2⟩ := hcap
          obtain ⟨hon1, hon2⟩ := hon1
          generalize hX : out[out.length - 1] = X at *
          have k2' := k2
          have hgz' := hgz
          rw [← hidx] at k2' hgz'
          clear hidx hfz k0 k1
          go_wp2_with (first | (go_at_call 55; refine (fold1_int (w1.heap.size + 1) w1.heap.size _ co out _ (by omega) (by omega) _ (HO.out.alloc _)).mono ?_; rintro e w' ⟨rfl, rfl⟩))
          have hw1 : IntKind.i64.wrap ((out.length : Int) - 1) = (out.length : Int) - 1 := IntWalk.i64_in _ (by omega)
          have hw2 : 0 ≤ (out.length : Int) - 1 := by omega
          have hw3 : (out.length : Int) - 1 < (out.length : Int) := by omega
          have hw4 : ((out.length : Int) - 1).toNat = out.length - 1 := by omega
          have hw5 : (1 : Int) ≤ (out.length : Int) := by omega
          have hw6 : ¬ ((out.length : Int) - 1 < 0) := by omega
          have hw7 : 0 < out.length := by omega
          have hw8 : out.length - 1 < out.length := by omega
          have hOW : OutAt (wr.alloc (.cells #[.int .i64 ok, .string ⟨ot.toArray⟩, .int .u32 onn] 50)).drew (w1.heap.size + 1) w1.heap.size (some ⟨g, 0, none⟩) co out := (HO.out.alloc _).below (Below.refl _ _).drew
          have hBW : Below w.heap.size w (wr.alloc (.cells #[.int .i64 ok, .string ⟨ot.toArray⟩, .int .u32 onn] 50)).drew := (hb.alloc (by omega) _).drew
          have x0 : (wr.alloc (.cells #[.int .i64 ok, .string ⟨ot.toArray⟩, .int .u32 onn] 50)).drew.cell? ⟨w1.heap.size, 0, none⟩ = some (.slice (some ⟨g, 0, none⟩) out.length co) := (cell_blk hOW.1 0).trans rfl
          have x1 : (wr.alloc (.cells #[.int .i64 ok, .string ⟨ot.toArray⟩, .int .u32 onn] 50)).drew.cell? ⟨wr.heap.size, 1, none⟩ = some (.string ⟨ot.toArray⟩) := (cell_blk (w := World.drew _) (blkAt wr _ rfl) 1).trans rfl
          have x2 : (wr.alloc (.cells #[.int .i64 ok, .string ⟨ot.toArray⟩, .int .u32 onn] 50)).drew.cell? ⟨g, (out.length - 1) * 3 + 2, none⟩ = some (.int .u32 X.n) := cell_new k2
          have x3 : (wr.alloc (.cells #[.int .i64 ok, .string ⟨ot.toArray⟩, .int .u32 onn] 50)).drew.frozen? ⟨g, (out.length - 1) * 3 + 2, none⟩ = false := by
            obtain ⟨g', hgg, -, -, hfz, -⟩ := hOW.2.opn hk1
            injection hgg with hgg; injection hgg with hgg; subst hgg
            exact hfz _
          refine wpX_region 17 (by kernel_rfl) ?_
          have HOW := Lib.hid hOW; have HBW := Lib.hid hBW; clear hOW hBW k2 k2' hgz hgz'
          generalize (wr.alloc (.cells #[.int .i64 ok, .string ⟨ot.toArray⟩, .int .u32 onn] 50)).drew = w2 at *
          refine wpAnyX_takeR 0 rfl (by kernel_rfl) (by kernel_rfl) (by kernel_rfl) (by kernel_rfl) (fun _ _ _ h => h) (v := ?_) (by rfl) ?_ ?_; rotate_left; (go_simp; (try with_reducible rfl)); (try simp only [Act.put, List.setIfInBounds_toArray, List.set_cons_zero, List.set_cons_succ])
          refine wpAnyX_takeR 1 rfl (by kernel_rfl) (by kernel_rfl) (by kernel_rfl) (by kernel_rfl) (fun _ _ _ h => h) (v := ?_) (by rfl) ?_ ?_; rotate_left; (go_simp; (try with_reducible rfl)); (try simp only [Act.put, List.setIfInBounds_toArray, List.set_cons_zero, List.set_cons_succ])
          refine wpAnyX_takeR 2 rfl (by kernel_rfl) (by kernel_rfl) (by kernel_rfl) (by kernel_rfl) (fun _ _ _ h => h) (v := ?_) (by rfl) ?_ ?_; rotate_left; (go_simp; (try with_reducible rfl)); (try simp only [Act.put, List.setIfInBounds_toArray, List.set_cons_zero, List.set_cons_succ])
          refine wpAnyX_takeR 3 rfl (by kernel_rfl) (by kernel_rfl) (by kernel_rfl) (by kernel_rfl) (fun _ _ _ h => h) (v := ?_) (by rfl) ?_ ?_; rotate_left; (go_simp; (try with_reducible rfl)); (try simp only [Act.put, List.setIfInBounds_toArray, List.set_cons_zero, List.set_cons_succ])
          refine wpAnyX_takeR 4 rfl (by kernel_rfl) (by kernel_rfl) (by kernel_rfl) (by kernel_rfl) (fun _ _ _ h => h) (v := ?_) (by rfl) ?_ ?_; rotate_left; (go_simp; (try with_reducible rfl)); (try simp only [Act.put, List.setIfInBounds_toArray, List.set_cons_zero, List.set_cons_succ])
          refine wpAnyX_takeR 5 rfl (by kernel_rfl) (by kernel_rfl) (by kernel_rfl) (by kernel_rfl) (fun _ _ _ h => h) (v := ?_) (by rfl) ?_ ?_; rotate_left; (go_simp; (try with_reducible rfl)); (try simp only [Act.put, List.setIfInBounds_toArray, List.set_cons_zero, List.set_cons_succ])
          refine wpAnyX_takeR 6 rfl (by kernel_rfl) (by kernel_rfl) (by kernel_rfl) (by kernel_rfl) (fun _ _ _ h => h) (v := ?_) (by rfl) ?_ ?_; rotate_left; (go_simp; (try with_reducible rfl)); (try simp only [Act.put, List.setIfInBounds_toArray, List.set_cons_zero, List.set_cons_succ])
          refine wpAnyX_takeR 7 rfl (by kernel_rfl) (by kernel_rfl) (by kernel_rfl) (by kernel_rfl) (fun _ _ _ h => h) (v := ?_) (by rfl) ?_ ?_; rotate_left; (go_simp; (try with_reducible rfl)); (try simp only [Act.put, List.setIfInBounds_toArray, List.set_cons_zero, List.set_cons_succ])
          refine wpAnyX_takeR 8 rfl (by kernel_rfl) (by kernel_rfl) (by kernel_rfl) (by kernel_rfl) (fun _ _ _ h => h) (v := ?_) (by rfl) ?_ ?_; rotate_left; (go_simp; (try with_reducible rfl)); (try simp only [Act.put, List.setIfInBounds_toArray, List.set_cons_zero, List.set_cons_succ])
          refine wpAnyX_takeR 9 rfl (by kernel_rfl) (by kernel_rfl) (by kernel_rfl) (by kernel_rfl) (fun _ _ _ h => h) (v := ?_) (by rfl) ?_ ?_; rotate_left; (go_simp; (try with_reducible rfl)); (try simp only [Act.put, List.setIfInBounds_toArray, List.set_cons_zero, List.set_cons_succ])
          refine wpAnyX_takeR 10 rfl (by kernel_rfl) (by kernel_rfl) (by kernel_rfl) (by kernel_rfl) (fun _ _ _ h => h) (v := ?_) (by rfl) ?_ ?_; rotate_left; (go_simp; (try with_reducible rfl)); (try simp only [Act.put, List.setIfInBounds_toArray, List.set_cons_zero, List.set_cons_succ])
          refine wpAnyX_one 11 (by kernel_rfl) rfl ?_; intro K' hK'; go_simp; (refine (unary_any ot X.n _ hon1 hon2).mono ?_); rintro e w' ⟨rfl, rfl⟩; refine hK'.out _ _ (fun _ => rfl) ?_; clear hK' K'
          (try simp only [Act.put, List.setIfInBounds_toArray, List.set_cons_zero, List.set_cons_succ])
          refine wpAnyX_takeR 12 rfl (by kernel_rfl) (by kernel_rfl) (by kernel_rfl) (by kernel_rfl) (fun _ _ _ h => h) (v := ?_) (by rfl) ?_ ?_; rotate_left; (go_simp; (try with_reducible rfl)); (try simp only [Act.put, List.setIfInBounds_toArray, List.set_cons_zero, List.set_cons_succ])
          refine wpAnyX_takeR 13 rfl (by kernel_rfl) (by kernel_rfl) (by kernel_rfl) (by kernel_rfl) (fun _ _ _ h => h) (v := ?_) (by rfl) ?_ ?_; rotate_left; (go_simp; (try with_reducible rfl)); (try simp only [Act.put, List.setIfInBounds_toArray, List.set_cons_zero, List.set_cons_succ])
          refine wpAnyX_takeP 14 rfl (by kernel_rfl) (by kernel_rfl) (by kernel_rfl) (fun _ _ _ h => h) (v := ?_) (by rfl) ?_ ?_; rotate_left; (intro x; go_simp; (try with_reducible rfl)); (try simp only [Act.put, List.setIfInBounds_toArray, List.set_cons_zero, List.set_cons_succ])
          refine wpAnyX_takeP 15 rfl (by kernel_rfl) (by kernel_rfl) (by kernel_rfl) (fun _ _ _ h => h) (v := ?_) (by rfl) ?_ ?_; rotate_left; (intro x; go_simp; (try with_reducible rfl)); (try simp only [Act.put, List.setIfInBounds_toArray, List.set_cons_zero, List.set_cons_succ])
          refine wpAnyX_takeP 16 rfl (by kernel_rfl) (by kernel_rfl) (by kernel_rfl) (fun _ _ _ h => h) (v := ?_) (by rfl) ?_ ?_; rotate_left; (intro x; go_simp; (try with_reducible rfl)); (try simp only [Act.put, List.setIfInBounds_toArray, List.set_cons_zero, List.set_cons_succ])
          refine wpAnyX_one 17 (by kernel_rfl) rfl ?_; intro K' hK'; go_simp; refine hK'.out _ _ (fun h => absurd rfl h) ?_; clear hK' K'
          refine wpAnyX_done (by kernel_rfl) ?_ _
          have hO2 := HOW.out.set hk1 (unS ot X.n).1
          rw [hX] at hO2
          have hr := unS_rng ot X.n
          go_wp2_with fail
          go_roundw
          case rel => exact ⟨k + 1, by omega, by go_num, some ⟨g, 0, none⟩, co, _, hO2, blw_set HBW.out (by omega), hwb, by simp; omega, HN.out.set _ _ hr.1 hr.2, Hd.out⟩
          case measure => simp [intOf]; omega
        · by_cases h7 : ok = 7 ∧ isNum out 1 = true ∧ isNum out 2 = true
          · obtain ⟨h7k, h71, h72⟩ := h7
            have hd := Hfd.out
            rw [foldGo_7 h7k h71 h72] at hd
            have hd2 : 2 ≤ out.length := by
              unfold isNum at h72
              simp only [Bool.and_eq_true, decide_eq_true_eq] at h72
              exact h72.1
            have hk1 : out.length - 1 < out.length := by omega
            have hk2 : out.length - 2 < out.length := by omega
            have hgd : out.getD (out.length - 1) default = out[out.length - 1] := by simp [hk1]
            have hgd2 : out.getD (out.length - 2) default = out[out.length - 2] := by simp [hk2]
            rw [hgd, hgd2] at hd
            obtain ⟨g, rfl, hg1, hg2, hfz, k0, k1, k2⟩ := HO.out.2.opn hk1
            obtain ⟨g', hgg, -, -, -, j0, j1, j2⟩ := HO.out.2.opn hk2
            injection hgg with hgg
            injection hgg with hgg
            subst hgg
            have hon1 := HN.out _ (List.getElem_mem hk1)
            have hon2 := HN.out _ (List.getElem_mem hk2)
            have Hd := Lib.hid hd; clear hd Hfd hgd hgd2
            have hq6 : (ok == 6) = false := by simp [h7k]
            have hq7 : (ok == 7) = true := by simp [h7k]
            clear h7k h6
            have hidx : ((out.length : Int) - 1).toNat = out.length - 1 := by omega
            have hidx2 : ((out.length : Int) - 2).toNat = out.length - 2 := by omega
            have hgz := hfz ((out.length - 2) * 3 + 2)
            have hcap := HO.out.2.cap
            obtain ⟨hcap1, hcap2⟩ := hcap
            obtain ⟨hon1, hon1'⟩ := hon1
            obtain ⟨hon2, hon2'⟩ := hon2
            generalize hX : out[out.length - 1] = X at *
            generalize hY : out[out.length - 2] = Y at *
            have k2' := k2
            have j2' := j2
            have hgz' := hgz
            rw [← hidx] at k2'
            rw [← hidx2] at j2' hgz'
            clear hidx hidx2 hfz k0 k1 j0 j1
            go_wp2_with (first | (go_at_call 55; refine (fold1_int (w1.heap.size + 1) w1.heap.size _ co out _ (by omega) (by omega) _ (HO.out.alloc _)).mono ?_; rintro e w' ⟨rfl, rfl⟩))
            have hw1 : IntKind.i64.wrap ((out.length : Int) - 1) = (out.length : Int) - 1 := IntWalk.i64_in _ (by omega)
            have hw2 : 0 ≤ (out.length : Int) - 1 := by omega
            have hw3 : (out.length : Int) - 1 < (out.length : Int) := by omega
            have hw4 : ((out.length : Int) - 1).toNat = out.length - 1 := by omega
            have hw5 : (1 : Int) ≤ (out.length : Int) := by omega
            have hw6 : ¬ ((out.length : Int) - 1 < 0) := by omega
            have hw7 : 0 < out.length := by omega
            have hw8 : out.length - 1 < out.length := by omega
            have hv1 : IntKind.i64.wrap ((out.length : Int) - 2) = (out.length : Int) - 2 := IntWalk.i64_in _ (by omega)
            have hv2 : 0 ≤ (out.length : Int) - 2 := by omega
            have hv3 : (out.length : Int) - 2 < (out.length : Int) := by omega
            have hv4 : ((out.length : Int) - 2).toNat = out.length - 2 := by omega
            have hv5 : (2 : Int) ≤ (out.length : Int) := by omega
            have hv6 : ¬ ((out.length : Int) - 2 < 0) := by omega
            have hv8 : out.length - 2 < out.length := by omega
            have hOW : OutAt (wr.alloc (.cells #[.int .i64 ok, .string ⟨ot.toArray⟩, .int .u32 onn] 50)).drew (w1.heap.size + 1) w1.heap.size (some ⟨g, 0, none⟩) co out := (HO.out.alloc _).below (Below.refl _ _).drew
            have hBW : Below w.heap.size w (wr.alloc (.cells #[.int .i64 ok, .string ⟨ot.toArray⟩, .int .u32 onn] 50)).drew := (hb.alloc (by omega) _).drew
            have x0 : (wr.alloc (.cells #[.int .i64 ok, .string ⟨ot.toArray⟩, .int .u32 onn] 50)).drew.cell? ⟨w1.heap.size, 0, none⟩ = some (.slice (some ⟨g, 0, none⟩) out.length co) := (cell_blk hOW.1 0).trans rfl
            have x1 : (wr.alloc (.cells #[.int .i64 ok, .string ⟨ot.toArray⟩, .int .u32 onn] 50)).drew.cell? ⟨wr.heap.size, 1, none⟩ = some (.string ⟨ot.toArray⟩) := (cell_blk (w := World.drew _) (blkAt wr _ rfl) 1).trans rfl
            have x2 : (wr.alloc (.cells #[.int .i64 ok, .string ⟨ot.toArray⟩, .int .u32 onn] 50)).drew.cell? ⟨g, (out.length - 1) * 3 + 2, none⟩ = some (.int .u32 X.n) := cell_new k2
            have x4 : (wr.alloc (.cells #[.int .i64 ok, .string ⟨ot.toArray⟩, .int .u32 onn] 50)).drew.cell? ⟨g, (out.length - 2) * 3 + 2, none⟩ = some (.int .u32 Y.n) := cell_new j2
            have x3 : (wr.alloc (.cells #[.int .i64 ok, .string ⟨ot.toArray⟩, .int .u32 onn] 50)).drew.frozen? ⟨g, (out.length - 2) * 3 + 2, none⟩ = false := by
              obtain ⟨g', hgg, -, -, hfz, -⟩ := hOW.2.opn hk1
              injection hgg with hgg; injection hgg with hgg; subst hgg
              exact hfz _
            refine wpX_region 23 (by kernel_rfl) ?_
            have HOW := Lib.hid hOW; have HBW := Lib.hid hBW; clear hOW hBW k2 k2' j2 j2' hgz hgz'
            generalize (wr.alloc (.cells #[.int .i64 ok, .string ⟨ot.toArray⟩, .int .u32 onn] 50)).drew = w2 at *
            refine wpAnyX_takeR 0 rfl (by kernel_rfl) (by kernel_rfl) (by kernel_rfl) (by kernel_rfl) (fun _ _ _ h => h) (v := ?_) (by rfl) ?_ ?_; rotate_left; (go_simp; (try with_reducible rfl)); (try simp only [Act.put, List.setIfInBounds_toArray, List.set_cons_zero, List.set_cons_succ])
            refine wpAnyX_takeR 1 rfl (by kernel_rfl) (by kernel_rfl) (by kernel_rfl) (by kernel_rfl) (fun _ _ _ h => h) (v := ?_) (by rfl) ?_ ?_; rotate_left; (go_simp; (try with_reducible rfl)); (try simp only [Act.put, List.setIfInBounds_toArray, List.set_cons_zero, List.set_cons_succ])
            refine wpAnyX_takeR 2 rfl (by kernel_rfl) (by kernel_rfl) (by kernel_rfl) (by kernel_rfl) (fun _ _ _ h => h) (v := ?_) (by rfl) ?_ ?_; rotate_left; (go_simp; (try with_reducible rfl)); (try simp only [Act.put, List.setIfInBounds_toArray, List.set_cons_zero, List.set_cons_succ])
            refine wpAnyX_takeR 3 rfl (by kernel_rfl) (by kernel_rfl) (by kernel_rfl) (by kernel_rfl) (fun _ _ _ h => h) (v := ?_) (by rfl) ?_ ?_; rotate_left; (go_simp; (try with_reducible rfl)); (try simp only [Act.put, List.setIfInBounds_toArray, List.set_cons_zero, List.set_cons_succ])
            refine wpAnyX_takeR 4 rfl (by kernel_rfl) (by kernel_rfl) (by kernel_rfl) (by kernel_rfl) (fun _ _ _ h => h) (v := ?_) (by rfl) ?_ ?_; rotate_left; (go_simp; (try with_reducible rfl)); (try simp only [Act.put, List.setIfInBounds_toArray, List.set_cons_zero, List.set_cons_succ])
            refine wpAnyX_takeR 5 rfl (by kernel_rfl) (by kernel_rfl) (by kernel_rfl) (by kernel_rfl) (fun _ _ _ h => h) (v := ?_) (by rfl) ?_ ?_; rotate_left; (go_simp; (try with_reducible rfl)); (try simp only [Act.put, List.setIfInBounds_toArray, List.set_cons_zero, List.set_cons_succ])
            refine wpAnyX_takeR 6 rfl (by kernel_rfl) (by kernel_rfl) (by kernel_rfl) (by kernel_rfl) (fun _ _ _ h => h) (v := ?_) (by rfl) ?_ ?_; rotate_left; (go_simp; (try with_reducible rfl)); (try simp only [Act.put, List.setIfInBounds_toArray, List.set_cons_zero, List.set_cons_succ])
            refine wpAnyX_takeR 7 rfl (by kernel_rfl) (by kernel_rfl) (by kernel_rfl) (by kernel_rfl) (fun _ _ _ h => h) (v := ?_) (by rfl) ?_ ?_; rotate_left; (go_simp; (try with_reducible rfl)); (try simp only [Act.put, List.setIfInBounds_toArray, List.set_cons_zero, List.set_cons_succ])
            refine wpAnyX_takeR 8 rfl (by kernel_rfl) (by kernel_rfl) (by kernel_rfl) (by kernel_rfl) (fun _ _ _ h => h) (v := ?_) (by rfl) ?_ ?_; rotate_left; (go_simp; (try with_reducible rfl)); (try simp only [Act.put, List.setIfInBounds_toArray, List.set_cons_zero, List.set_cons_succ])
            refine wpAnyX_takeR 9 rfl (by kernel_rfl) (by kernel_rfl) (by kernel_rfl) (by kernel_rfl) (fun _ _ _ h => h) (v := ?_) (by rfl) ?_ ?_; rotate_left; (go_simp; (try with_reducible rfl)); (try simp only [Act.put, List.setIfInBounds_toArray, List.set_cons_zero, List.set_cons_succ])
            refine wpAnyX_takeR 10 rfl (by kernel_rfl) (by kernel_rfl) (by kernel_rfl) (by kernel_rfl) (fun _ _ _ h => h) (v := ?_) (by rfl) ?_ ?_; rotate_left; (go_simp; (try with_reducible rfl)); (try simp only [Act.put, List.setIfInBounds_toArray, List.set_cons_zero, List.set_cons_succ])
            refine wpAnyX_takeR 11 rfl (by kernel_rfl) (by kernel_rfl) (by kernel_rfl) (by kernel_rfl) (fun _ _ _ h => h) (v := ?_) (by rfl) ?_ ?_; rotate_left; (go_simp; (try with_reducible rfl)); (try simp only [Act.put, List.setIfInBounds_toArray, List.set_cons_zero, List.set_cons_succ])
            refine wpAnyX_takeR 12 rfl (by kernel_rfl) (by kernel_rfl) (by kernel_rfl) (by kernel_rfl) (fun _ _ _ h => h) (v := ?_) (by rfl) ?_ ?_; rotate_left; (go_simp; (try with_reducible rfl)); (try simp only [Act.put, List.setIfInBounds_toArray, List.set_cons_zero, List.set_cons_succ])
            refine wpAnyX_takeR 13 rfl (by kernel_rfl) (by kernel_rfl) (by kernel_rfl) (by kernel_rfl) (fun _ _ _ h => h) (v := ?_) (by rfl) ?_ ?_; rotate_left; (go_simp; (try with_reducible rfl)); (try simp only [Act.put, List.setIfInBounds_toArray, List.set_cons_zero, List.set_cons_succ])
            refine wpAnyX_takeR 14 rfl (by kernel_rfl) (by kernel_rfl) (by kernel_rfl) (by kernel_rfl) (fun _ _ _ h => h) (v := ?_) (by rfl) ?_ ?_; rotate_left; (go_simp; (try with_reducible rfl)); (try simp only [Act.put, List.setIfInBounds_toArray, List.set_cons_zero, List.set_cons_succ])
            refine wpAnyX_takeR 15 rfl (by kernel_rfl) (by kernel_rfl) (by kernel_rfl) (by kernel_rfl) (fun _ _ _ h => h) (v := ?_) (by rfl) ?_ ?_; rotate_left; (go_simp; (try with_reducible rfl)); (try simp only [Act.put, List.setIfInBounds_toArray, List.set_cons_zero, List.set_cons_succ])
            refine wpAnyX_takeR 16 rfl (by kernel_rfl) (by kernel_rfl) (by kernel_rfl) (by kernel_rfl) (fun _ _ _ h => h) (v := ?_) (by rfl) ?_ ?_; rotate_left; (go_simp; (try with_reducible rfl)); (try simp only [Act.put, List.setIfInBounds_toArray, List.set_cons_zero, List.set_cons_succ])
            refine wpAnyX_one 17 (by kernel_rfl) rfl ?_; intro K' hK'; go_simp; (refine (binary_any ot Y.n X.n _ hon2 hon2' hon1 hon1').mono ?_); rintro e w' ⟨rfl, rfl⟩; refine hK'.out _ _ (fun _ => rfl) ?_; clear hK' K'
            (try simp only [Act.put, List.setIfInBounds_toArray, List.set_cons_zero, List.set_cons_succ])
            refine wpAnyX_takeR 18 rfl (by kernel_rfl) (by kernel_rfl) (by kernel_rfl) (by kernel_rfl) (fun _ _ _ h => h) (v := ?_) (by rfl) ?_ ?_; rotate_left; (go_simp; (try with_reducible rfl)); (try simp only [Act.put, List.setIfInBounds_toArray, List.set_cons_zero, List.set_cons_succ])
            refine wpAnyX_takeR 19 rfl (by kernel_rfl) (by kernel_rfl) (by kernel_rfl) (by kernel_rfl) (fun _ _ _ h => h) (v := ?_) (by rfl) ?_ ?_; rotate_left; (go_simp; (try with_reducible rfl)); (try simp only [Act.put, List.setIfInBounds_toArray, List.set_cons_zero, List.set_cons_succ])
            refine wpAnyX_takeP 20 rfl (by kernel_rfl) (by kernel_rfl) (by kernel_rfl) (fun _ _ _ h => h) (v := ?_) (by rfl) ?_ ?_; rotate_left; (intro x; go_simp; (try with_reducible rfl)); (try simp only [Act.put, List.setIfInBounds_toArray, List.set_cons_zero, List.set_cons_succ])
            refine wpAnyX_takeP 21 rfl (by kernel_rfl) (by kernel_rfl) (by kernel_rfl) (fun _ _ _ h => h) (v := ?_) (by rfl) ?_ ?_; rotate_left; (intro x; go_simp; (try with_reducible rfl)); (try simp only [Act.put, List.setIfInBounds_toArray, List.set_cons_zero, List.set_cons_succ])
            refine wpAnyX_takeP 22 rfl (by kernel_rfl) (by kernel_rfl) (by kernel_rfl) (fun _ _ _ h => h) (v := ?_) (by rfl) ?_ ?_; rotate_left; (intro x; go_simp; (try with_reducible rfl)); (try simp only [Act.put, List.setIfInBounds_toArray, List.set_cons_zero, List.set_cons_succ])
            refine wpAnyX_one 23 (by kernel_rfl) rfl ?_; intro K' hK'; go_simp; refine hK'.out _ _ (fun h => absurd rfl h) ?_; clear hK' K'
            refine wpAnyX_done (by kernel_rfl) ?_ _
            have hO3 := HOW.out.set hk2 (binS ot Y.n X.n).1
            rw [hY] at hO3
            have hr := binS_rng ot Y.n X.n hon2 hon2'
            have y0 := cell_blk hO3.1 0
            have yz := frz_blk hO3.1 0
            rw [List.length_set] at y0
            simp only [List.getElem?_toArray, List.getElem?_cons_zero] at y0
            have hb3 : Below w.heap.size w (w2.setCell ⟨g, (out.length - 2) * 3 + 2, none⟩ (.int .u32 (binS ot Y.n X.n).1)) := blw_set HBW.out (by omega)
            have HO3 := Lib.hid hO3; clear hO3
            have HB3 := Lib.hid hb3; clear hb3 x0 x1 x2 x3 x4 HOW HBW
            generalize (w2.setCell ⟨g, (out.length - 2) * 3 + 2, none⟩ (.int .u32 (binS ot Y.n X.n).1)) = w3 at *
            go_wp2_with fail
            go_roundw
            case rel => exact ⟨k + 1, by omega, by go_num, some ⟨g, 0, none⟩, co, _, HO3.out.cut (Nat.lt_succ_self _) (by simp), blw_set HB3.out hwb, hwb, by simp; omega, (HN.out.set _ _ hr.1 hr.2).take _, Hd.out⟩
            case measure => simp [intOf]; omega
          · have hd := Hfd.out
            rw [foldGo_else h6 h7] at hd
            have Hd := Lib.hid hd; clear hd Hfd
            have e6 : ok = 6 → isNum out 1 = false := fun h => by rw [← Bool.not_eq_true]; exact fun h' => h6 ⟨h, h'⟩
            have e7 : ok = 7 → isNum out 1 = true → isNum out 2 = false := fun h h' => by rw [← Bool.not_eq_true]; exact fun h'' => h7 ⟨h, h', h''⟩
            clear h6 h7
            have hcase : ((ok == 6) = true ∧ isNum out 1 = false ∧ (ok == 7) = false) ∨ ((ok == 6) = false ∧ (ok == 7) = true ∧ isNum out 1 = false) ∨ ((ok == 6) = false ∧ (ok == 7) = true ∧ isNum out 1 = true ∧ isNum out 2 = false) ∨ ((ok == 6) = false ∧ (ok == 7) = false) := by
              by_cases a6 : ok = 6
              · exact .inl ⟨by simp [a6], e6 a6, by simp [a6]⟩
              · by_cases a7 : ok = 7
                · cases a1 : isNum out 1
                  · exact .inr (.inl ⟨by simp [a6], by simp [a7], rfl⟩)
                  · exact .inr (.inr (.inl ⟨by simp [a6], by simp [a7], rfl, e7 a7 a1⟩))
                · exact .inr (.inr (.inr ⟨by simp [a6], by simp [a7]⟩))
            clear e6 e7
            rcases hcase with ⟨q1, q2, q3⟩ | ⟨q1, q2, q3⟩ | ⟨q1, q2, q3, q4⟩ | ⟨q1, q2⟩
            all_goals
              go_wp2_with (first | (go_at_call 55; refine (fold1_int (w1.heap.size + 1) w1.heap.size Ao co out _ (by omega) (by omega) _ (HO.out.alloc _)).mono ?_; rintro e w' ⟨rfl, rfl⟩) | (at_builtin; refine wpList_app1 rfl (.tmp 24) (.tmp 26) eltOpn rfl (by decide) rfl rfl rfl ((HO.out.2.alloc _).alloc _) rfl [.int .i64 ok, .string ⟨ot.toArray⟩, .int .u32 onn] ⟨ok, ot, onn⟩ (blkAt _ _ (by simp)) rfl ⟨rfl, rfl, rfl⟩ (by omega) (by omega) (by simp; omega) ?_; intro A' c' w2 hown' hg hat; have hb2 := grownBlk hg (blkOld (blkOld HO.out.1 _) _) (HO.out.2.ne_lt (Nat.lt_succ_self _)); have y0 := cell_blk hb2 0; have yz := frz_blk hb2 0; simp only [List.getElem?_toArray, List.getElem?_cons_zero] at y0))
              have hpu := fold_push HO.out hb hwb hown' hg
              go_roundw
              case rel => exact ⟨k + 1, by omega, by go_num, A', c', out ++ [⟨ok, ot, onn⟩], hpu.1, hpu.2, hwb, by simp; omega, HN.out.push ho2 ho3, Hd.out⟩
              case measure => simp [intOf]; omega
      · have hd2 : v1 = out := by rw [hfd, drop_end hlt]; rfl
        have Hd := Lib.hid hd2; clear hd2 hfd
        go_wp2
        go_ret2
        rw [Hd.out]
        exact ⟨Ao, _, co, rfl, (HO.out.2.sl (by decide)).wide (fun k _ hk => by rcases hk with hk | hk; exact hk.elim; have := (HO.out.2.lt k hk).1; omega) (by decide), hb⟩
  · rw [if_pos hc] at hv
    have Hck := Lib.hid hck; clear hck
    have hc' : (checkS f != 0) = true := by rw [bne_iff_ne]; exact hc
    have Hv := Lib.hid hv; clear hv hc
    go_enter Try.func21, Try.ntmps21
    go_wp2_with fail
    refine Hck.out.mono ?_
    rintro e w1 ⟨rfl, hb1⟩
    go_wp2
    go_ret2
    rw [Hv.out]
    exact ⟨none, 0, 0, rfl, Sl.nil _ _ _ _ (by decide), hb1⟩
end Go.Proofs.Ytchdpjgncojhaaa
