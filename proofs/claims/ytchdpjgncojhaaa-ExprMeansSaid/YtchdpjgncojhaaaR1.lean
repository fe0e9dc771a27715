/- licitref08: the walks of Unary, divide, Level, Binary. -/
import Derived.Test.YtchdpjgncojhaaaE1
import Derived.Laws.BitsAllLaws
set_option linter.unusedVariables false
set_option linter.unusedSimpArgs false
namespace Go.Proofs.Ytchdpjgncojhaaa
open Go.RowKit

theorem nat_xor_max (n : Nat) (h : n < 4294967296) : 4294967295 ^^^ n = 4294967295 - n := by
  have h1 : (BitVec.allOnes 32 ^^^ BitVec.ofNat 32 n).toNat = (~~~ (BitVec.ofNat 32 n)).toNat := by rw [BitVec.allOnes_xor]
  rw [BitVec.toNat_xor, BitVec.toNat_not, BitVec.toNat_ofNat, Nat.mod_eq_of_lt (by omega)] at h1
  simpa using h1
theorem xor_max (x : Int) (h : 0 ≤ x) (h' : x ≤ 4294967295) : bits .xor .u32 IntKind.u32.max x = 4294967295 - x := by
  have e : IntKind.u32.max = 4294967295 := by decide
  rw [e, u32_xor _ _ (by omega) (by omega) h (by omega)]
  have := nat_xor_max x.toNat (by omega)
  have e2 : (4294967295 : Int).toNat = 4294967295 := rfl
  rw [e2, this]
  omega
def divS (x y : Int) : Int := if y = 0 then 0 else (wrap32 x).tdiv (wrap32 y) % 4294967296

set_option maxHeartbeats 1000000 in
theorem unary8_any (op : Bs) (x : Int) (w : World) (h : 0 ≤ x) (h' : x ≤ 4294967295) :
    Calls Try.prog 26 #[.string ⟨op.toArray⟩, .int .u32 x] w fun e w' => e = .returned (.tuple #[.int .u32 (unS op x).1, .bool (unS op x).2]) ∧ w = w' := by
  obtain ⟨v, hv⟩ : ∃ v, v = unS op x := ⟨_, rfl⟩
  rw [← hv]
  by_cases hu : isUn op = true
  · rw [isUn_iff] at hu
    have HX := Lib.hid (xor_max x h h')
    rcases hu with rfl | rfl | rfl
    all_goals
      have Hv := Lib.hid hv; clear hv
      go_enter Try.func26, Try.ntmps26
      go_wp2
      all_goals
        go_ret2
        exact ⟨ret_ub (by rw [Hv.out]; simp only [unS, yes]; have := HX.out; first | (simp [*]; done) | (simp; rw [this]; omega)), rfl⟩
  · have hn : v = (0, false) := by
      rw [hv]
      rw [isUn_iff] at hu
      simp only [not_or] at hu
      simp [unS, hu]
    have Hv := Lib.hid hn; clear hn hv
    have e1 : (op == [45]) = false := by rw [beq_eq_false_iff_ne]; exact fun e => hu (by rw [isUn_iff]; exact .inl e)
    have e2 : (op == [126]) = false := by rw [beq_eq_false_iff_ne]; exact fun e => hu (by rw [isUn_iff]; exact .inr (.inl e))
    have e3 : (op == [33]) = false := by rw [beq_eq_false_iff_ne]; exact fun e => hu (by rw [isUn_iff]; exact .inr (.inr e))
    clear hu
    go_enter Try.func26, Try.ntmps26
    go_wp2
    go_ret2
    exact ⟨ret_ub Hv.out, rfl⟩

theorem wrap64_tdiv (a b : Int) (h : -2147483648 ≤ a) (h' : a ≤ 2147483647) : wrap64 (a.tdiv b) = a.tdiv b := by
  have h1 : (a.tdiv b).natAbs ≤ a.natAbs := by rw [Int.natAbs_tdiv]; exact Nat.div_le_self _ _
  unfold wrap64
  omega
theorem divide8_any (x y : Int) (w : World) (h : 0 ≤ x) (h' : x ≤ 4294967295) (h2 : 0 ≤ y) (h2' : y ≤ 4294967295) :
    Calls Try.prog 58 #[.int .u32 x, .int .u32 y] w fun e w' => e = .returned (.int .u32 (divS x y)) ∧ w = w' := by
  obtain ⟨v, hv⟩ : ∃ v, v = divS x y := ⟨_, rfl⟩
  rw [← hv]
  have Hv := Lib.hid hv; clear hv
  by_cases hy : y = 0
  · subst hy
    go_enter Try.func58, Try.ntmps58
    go_wp2
    go_ret
    exact ⟨ret_int (by rw [Hv.out]; rfl), rfl⟩
  · have hwy : ¬ wrap32 y = 0 := by unfold wrap32; omega
    have hy' : (y == 0) = false := by simpa using hy
    have e1 : wrap64 (wrap32 x) = wrap32 x := by unfold wrap64 wrap32; omega
    have e2 : wrap64 (wrap32 y) = wrap32 y := by unfold wrap64 wrap32; omega
    have e3 : wrap64 ((wrap32 x).tdiv (wrap32 y)) = (wrap32 x).tdiv (wrap32 y) := wrap64_tdiv _ _ (by unfold wrap32; omega) (by unfold wrap32; omega)
    go_enter Try.func58, Try.ntmps58
    go_wp2
    go_ret
    exact ⟨ret_int (by rw [Hv.out, divS, if_neg hy]), rfl⟩
theorem rem_eq (x y : Int) (hx : 0 ≤ x) (hx' : x ≤ 4294967295) (hy : 0 ≤ y) (hy' : y ≤ 4294967295) : (x - divS x y * y) % 4294967296 = if y = 0 then x else (wrap32 x).tmod (wrap32 y) % 4294967296 := by
  unfold divS
  by_cases h : y = 0
  · subst h; simp; omega
  · rw [if_neg h, if_neg h]
    have e1 : wrap32 x = x ∨ wrap32 x = x - 4294967296 := by unfold wrap32; omega
    have e2 : wrap32 y = y ∨ wrap32 y = y - 4294967296 := by unfold wrap32; omega
    rw [Int.tmod_def]
    generalize (wrap32 x).tdiv (wrap32 y) = q
    have h1 : (x - q % 4294967296 * y) % 4294967296 = (x - q * y) % 4294967296 := by
      rw [Int.sub_emod, Int.mul_emod, Int.emod_emod_of_dvd _ (Int.dvd_refl _), ← Int.mul_emod, ← Int.sub_emod]
    have h2 : (wrap32 x - wrap32 y * q) % 4294967296 = (x - q * y) % 4294967296 := by
      rcases e1 with e1 | e1 <;> rcases e2 with e2 | e2 <;> rw [e1, e2]
      · rw [Int.mul_comm]
      · rw [show x - (y - 4294967296) * q = (x - q * y) + 4294967296 * q by rw [Int.sub_mul, Int.mul_comm y q]; omega, Int.add_mul_emod_self_left]
      · rw [show x - 4294967296 - y * q = (x - q * y) + 4294967296 * (-1) by rw [Int.mul_comm y q]; omega, Int.add_mul_emod_self_left]
      · rw [show x - 4294967296 - (y - 4294967296) * q = (x - q * y) + 4294967296 * (q - 1) by rw [Int.sub_mul, Int.mul_comm y q, Int.mul_sub]; omega, Int.add_mul_emod_self_left]
    rw [h1, h2]
theorem wrap32_mod (z : Int) : wrap32 z % 4294967296 = z % 4294967296 := by unfold wrap32; omega
theorem div_eq (x y : Int) : divS x y = if y = 0 then 0 else wrap32 ((wrap32 x).tdiv (wrap32 y)) % 4294967296 := by
  unfold divS
  rw [wrap32_mod]

set_option maxRecDepth 100000 in
set_option maxHeartbeats 4000000 in
theorem binary8_any (op : Bs) (x y : Int) (w : World) (h : 0 ≤ x) (h' : x ≤ 4294967295) (h2 : 0 ≤ y) (h2' : y ≤ 4294967295) :
    Calls Try.prog 28 #[.string ⟨op.toArray⟩, .int .u32 x, .int .u32 y] w fun e w' => e = .returned (.tuple #[.int .u32 (binS op x y).1, .bool (binS op x y).2]) ∧ w = w' := by
  obtain ⟨v, hv⟩ : ∃ v, v = binS op x y := ⟨_, rfl⟩
  rw [← hv]
  have HR := Lib.hid (rem_eq x y h h' h2 h2')
  have HD := Lib.hid (div_eq x y)
  have hdv := fun w => divide8_any x y w h h' h2 h2'
  generalize hdd : divS x y = d at *
  clear hdd
  have Hdv := Lib.hid hdv; clear hdv
  by_cases hu : op ∈ binOps
  · simp only [binOps, List.mem_cons, List.not_mem_nil, or_false] at hu
    rcases hu with rfl | rfl | rfl | rfl | rfl | rfl | rfl | rfl | rfl | rfl | rfl | rfl | rfl | rfl | rfl | rfl | rfl | rfl
    all_goals
      have Hv := Lib.hid hv; clear hv
      go_enter Try.func28, Try.ntmps28
      go_wp2_with (first | (go_at_call 58; refine (Hdv.out _).mono ?_; rintro e w' ⟨rfl, rfl⟩) | go_in)
      all_goals
        go_ret2
        refine ⟨ret_ub ?_, rfl⟩
        rw [Hv.out]
        have h1 := HR.out
        have h3 := HD.out
        clear HR HD Hv Hdv
        first
          | (simp only [binS]; simp; rw [h1]; done)
          | (simp only [binS]; simp; exact h3.symm)
          | simp_all [binS, yes]
  · have hn : v = (0, false) := by rw [hv, binS_none op x y hu]
    have Hv := Lib.hid hn; clear hn hv
    have h3 : ∀ z ∈ binOps, (op == z) = false := by
      intro z hz
      rw [beq_eq_false_iff_ne]
      rintro rfl
      exact hu hz
    clear hu
    simp only [binOps, List.mem_cons, List.not_mem_nil, or_false, forall_eq_or_imp, forall_eq] at h3
    obtain ⟨q1, q2, q3, q4, q5, q6, q7, q8, q9, q10, q11, q12, q13, q14, q15, q16, q17, q18⟩ := h3
    go_enter Try.func28, Try.ntmps28
    go_wp2
    go_ret2
    exact ⟨ret_ub Hv.out, rfl⟩
end Go.Proofs.Ytchdpjgncojhaaa
