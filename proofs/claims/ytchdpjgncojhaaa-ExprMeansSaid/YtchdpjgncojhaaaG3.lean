/- symbol, decimal. -/
import Derived.Test.YtchdpjgncojhaaaG2
set_option linter.unusedVariables false
set_option linter.unusedSimpArgs false
namespace Go.Proofs.Ytchdpjgncojhaaa
open Go.RowKit

set_option maxRecDepth 100000 in
set_option maxHeartbeats 1000000 in
theorem symT_any (s : Bs) (w : World) :
    Calls Try.prog 45 #[.string ⟨s.toArray⟩] w fun e w' => e = .returned (.agg #[.int .i64 3, .string ⟨s.toArray⟩]) ∧ Below w.heap.size w w' := by
  go_enter Try.func45, Try.ntmps45
  go_wp2
  refine bodyPost_ret (v := .agg #[.int .i64 3, .string ⟨s.toArray⟩]) ?_ rfl ⟨rfl, ?_⟩
  · simp [results, Try.results45, go_sem]
  · exact boxed

def decF : Nat → Nat → Bs
  | 0, _ => []
  | k + 1, n => if n < 10 then [(48 + n).toUInt8] else decF k (n / 10) ++ [(48 + n % 10).toUInt8]
theorem decF_len (k n : Nat) : (decF k n).length ≤ k := by
  induction k generalizing n with
  | zero => simp [decF]
  | succ k ih =>
    unfold decF
    split
    · simp
    · have := ih (n / 10)
      simp
      omega
theorem decF_small {k n : Nat} (h : n < 10) : decF (k + 1) n = [(48 + n).toUInt8] := by simp [decF, h]

set_option maxRecDepth 100000 in
set_option maxHeartbeats 1000000 in
theorem decimal_one (n : Nat) (h : n < 10) (w : World) :
    Calls Try.prog 43 #[.int .u32 n] w fun e w' => e = .returned (.string ⟨[(48 + n).toUInt8].toArray⟩) ∧ Below w.heap.size w w' := by
  have hn : n = 0 ∨ n = 1 ∨ n = 2 ∨ n = 3 ∨ n = 4 ∨ n = 5 ∨ n = 6 ∨ n = 7 ∨ n = 8 ∨ n = 9 := by omega
  rcases hn with rfl | rfl | rfl | rfl | rfl | rfl | rfl | rfl | rfl | rfl
  all_goals
    go_enter Try.func43, Try.ntmps43
    go_wp2
    go_ret
    exact ⟨rfl, Below.refl _ _⟩

set_option maxRecDepth 100000 in
set_option maxHeartbeats 1000000 in
theorem decimal_any (k n : Nat) (li : Int) (hli : li = n) (h : n < 10 ^ (k + 1)) (w : World) (h32 : n ≤ 4294967295) (hk9 : k ≤ 9) :
    Calls Try.prog 43 #[.int .u32 li] w fun e w' => e = .returned (.string ⟨(decF (k + 1) n).toArray⟩) ∧ Below w.heap.size w w' := by
  subst hli
  induction k generalizing n w with
  | zero => 
    have h' : n < 10 := h
    rw [decF_small h']
    exact decimal_one n h' w
  | succ k ih =>
    by_cases hs : n < 10
    · rw [decF_small hs]
      exact decimal_one n hs w
    · have h1 := fun w => ih (n / 10) (by rw [Nat.pow_succ] at h; omega) w (by omega) (by omega)
      have h2 := fun w => decimal_one (n % 10) (by omega) w
      have hd : decF (k + 1 + 1) n = decF (k + 1) (n / 10) ++ [(48 + n % 10).toUInt8] := by rw [decF, if_neg hs]
      rw [hd]
      have H1 := Lib.hid h1; clear h1
      have H2 := Lib.hid h2; clear h2
      have hs' : ¬ ((n : Int) < 10) := by omega
      have hdi : ((n / 10 : Nat) : Int) = (n : Int) / 10 := by omega
      have hmo : ((n % 10 : Nat) : Int) = (n : Int) % 10 := by omega
      rw [hdi] at H1
      rw [hmo] at H2
      have ha := decF_len (k + 1) (n / 10)
      have hb : [(48 + n % 10).toUInt8].length = 1 := rfl
      generalize decF (k + 1) (n / 10) = a at *
      generalize [(48 + n % 10).toUInt8] = b at *
      have hab : a.length + b.length ≤ 100 := by omega
      clear ih h hd hdi hmo
      go_enter Try.func43, Try.ntmps43
      go_wp2_with (first | (go_at_call 43; with_reducible refine (H1.out _).mono ?_; rintro e w1 ⟨rfl, hb1⟩) | (go_at_call 43; with_reducible refine (H2.out _).mono ?_; rintro e w2 ⟨rfl, hb2⟩))
      go_ret
      exact ⟨rfl, hb1.trans (hb2.mono hb1.size)⟩
end Go.Proofs.Ytchdpjgncojhaaa
