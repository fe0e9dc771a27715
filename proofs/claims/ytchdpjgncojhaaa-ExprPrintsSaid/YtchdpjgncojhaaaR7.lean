/- licitref08: decimal. -/
import Derived.Test.YtchdpjgncojhaaaR6
import Derived.Laws.IdiomStrings
set_option linter.unusedVariables false
set_option linter.unusedSimpArgs false
namespace Go.Proofs.Ytchdpjgncojhaaa
open Go.RowKit
attribute [local go_sem ↓] Go.wp_at_zero Go.wp_at_succ

theorem conv1 (w : World) (b c : Nat) (m : Int) (x : UInt8) (hx : (x.toNat : Int) = m) (h : w.cell? ⟨b, 0, none⟩ = some (.int .u8 m)) : (convert 98 9 (.slice (some ⟨b, 0, none⟩) 1 c)).run Try.prog w = .ok (.string ⟨[x].toArray⟩) w :=
  run_convert_bytes_back w _ _ _ ⟨b, 0, none⟩ c [x] Try.underlying98 Try.underlying5 Try.underlying9 (fun j hj => by
    obtain rfl : j = 0 := by simpa using hj
    rw [add_plain]
    simpa [hx] using h)
theorem usebk {W w1 : World} {b : Nat} {v : Value} {t : TypeId} {G : Prop} (hb : Below W.heap.size W w1) (h : W.heap[b]? = some (.cells #[v] t (0, 0))) (k : w1.cell? ⟨b, 0, none⟩ = some v → G) : G := k ((keptCell hb h 0).trans rfl)
theorem digit_u8 (n : Nat) (h : n < 10) : ((48 + n).toUInt8.toNat : Int) = 48 + n := by
  have : n = 0 ∨ n = 1 ∨ n = 2 ∨ n = 3 ∨ n = 4 ∨ n = 5 ∨ n = 6 ∨ n = 7 ∨ n = 8 ∨ n = 9 := by omega
  rcases this with rfl | rfl | rfl | rfl | rfl | rfl | rfl | rfl | rfl | rfl <;> rfl

set_option maxRecDepth 100000 in
set_option maxHeartbeats 1000000 in
theorem decimal8_one (n : Nat) (h : n < 10) (w : World) :
    Calls Try.prog 50 #[.int .u32 n] w fun e w' => e = .returned (.string ⟨[(48 + n).toUInt8].toArray⟩) ∧ Below w.heap.size w w' := by
  have hd := digit_u8 n h
  obtain ⟨m, hm⟩ : ∃ m : Int, m = 48 + (n : Int) := ⟨_, rfl⟩
  have hcv := conv1 (w.alloc (.cells #[.int .u8 (48 + (n : Int))] 5)) w.heap.size 1 _ _ hd ((cell_blk (blkAt w _ rfl) 0).trans rfl)
  generalize [(48 + n).toUInt8] = D at *
  have hn1 : (n : Int) < 10 := by omega
  have hn0 : (0 : Int) ≤ (n : Int) := by omega
  clear hm hd h
  go_enter Try.func50, Try.ntmps50
  go_wp2
  go_ret
  exact ⟨rfl, boxed⟩

set_option maxRecDepth 100000 in
set_option maxHeartbeats 1000000 in
theorem decimal8_any (k n : Nat) (li : Int) (hli : li = n) (h : n < 10 ^ (k + 1)) (w : World) (h32 : n ≤ 4294967295) (hk9 : k ≤ 9) :
    Calls Try.prog 50 #[.int .u32 li] w fun e w' => e = .returned (.string ⟨(decF (k + 1) n).toArray⟩) ∧ Below w.heap.size w w' := by
  subst hli
  induction k generalizing n w with
  | zero => 
    have h' : n < 10 := h
    rw [decF_small h']
    exact decimal8_one n h' w
  | succ k ih =>
    by_cases hs : n < 10
    · rw [decF_small hs]
      exact decimal8_one n hs w
    · have h1 := fun w => ih (n / 10) (by rw [Nat.pow_succ] at h; omega) w (by omega) (by omega)
      have hd : decF (k + 1 + 1) n = decF (k + 1) (n / 10) ++ [(48 + n % 10).toUInt8] := by rw [decF, if_neg hs]
      rw [hd]
      have H1 := Lib.hid h1; clear h1
      have hs' : ¬ ((n : Int) < 10) := by omega
      have hdi : ((n / 10 : Nat) : Int) = (n : Int) / 10 := by omega
      have hmo : ((n % 10 : Nat) : Int) = (n : Int) % 10 := by omega
      have hdg := digit_u8 (n % 10) (by omega)
      rw [hdi] at H1
      rw [hmo] at hdg
      have hcv := fun (W : World) (b : Nat) (hW : W.cell? ⟨b, 0, none⟩ = some (.int .u8 (48 + (n : Int) % 10))) => conv1 W b 1 _ _ hdg hW
      have ha := decF_len (k + 1) (n / 10)
      have hb : [(48 + n % 10).toUInt8].length = 1 := rfl
      generalize decF (k + 1) (n / 10) = a at *
      generalize [(48 + n % 10).toUInt8] = b at *
      have hab : a.length + b.length ≤ 100 := by omega
      have hm0 : 0 ≤ (n : Int) % 10 := by omega
      have hm1 : (n : Int) % 10 ≤ 9 := by omega
      have hn0 : 0 ≤ (n : Int) := by omega
      have hn32 : (n : Int) ≤ 4294967295 := by omega
      have hq1 : IntKind.u32.wrap ((n : Int) / 10) = (n : Int) / 10 := by simp [IntKind.wrap, IntKind.signed, IntKind.bits]; omega
      have hq2 : (n : Int).tmod 10 = (n : Int) % 10 := Int.tmod_eq_emod_of_nonneg hn0
      have hq3 : IntKind.u32.wrap (48 + (n : Int) % 10) = 48 + (n : Int) % 10 := by simp [IntKind.wrap, IntKind.signed, IntKind.bits]; omega
      have hq4 : IntKind.u8.wrap (48 + (n : Int) % 10) = 48 + (n : Int) % 10 := by simp [IntKind.wrap, IntKind.signed, IntKind.bits]; omega
      clear ih h hd hdi hmo hdg
      go_enter Try.func50, Try.ntmps50
      go_wp2_with fail
      go_region_with (first | (go_at_call 50; with_reducible refine (H1.out _).mono ?_; rintro e w1 ⟨rfl, hb1⟩; (try (refine usebk (b := w.heap.size) (v := .int .u8 (48 + (n : Int) % 10)) (t := 5) hb1 ?_ ?_; (focus ((repeat (first | (with_reducible assumption) | ((with_reducible refine blkAt2 ?_ ?_); (focus (simp; done)); rfl) | (with_reducible refine blkOld ?_ _) | (with_reducible refine keptBlk (by assumption) ?_) | (with_reducible refine grownBlk (by assumption) ?_ (by simp; omega)) | (with_reducible refine blkDrw ?_))); done)); intro h1c))))
      all_goals
        go_wp2
        go_ret
        exact ⟨rfl, by ((repeat (first | (with_reducible exact Below.refl _ _) | (with_reducible refine belowA ?_ _) | (with_reducible refine belowD ?_) | (with_reducible refine belowS ?_ (Nat.le_refl _) _ _) | (with_reducible refine next ?_ (by assumption) (Nat.le_refl _)))); done)⟩
end Go.Proofs.Ytchdpjgncojhaaa
