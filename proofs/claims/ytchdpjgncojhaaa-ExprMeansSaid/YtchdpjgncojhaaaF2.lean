/- Expressions: the walk of expr.Check. -/
import Derived.Test.YtchdpjgncojhaaaF1
set_option linter.unusedVariables false
set_option linter.unusedSimpArgs false
namespace Go.Proofs.Ytchdpjgncojhaaa
open Go.RowKit

set_option maxRecDepth 100000 in
set_option maxHeartbeats 2000000 in
theorem check_any (A : Option Addr) (n c : Nat) (w : World) (S : Nat → Prop) (f : List Opn) (hl : Sl w S A n c f) (hf : OkF f) :
    Calls Try.prog 19 #[.slice A n c] w fun e w' => e = .returned (.int .i64 (checkS f)) ∧ Below w.heap.size w w' := by
  have hn := hl.le
  have hlen := hl.len
  subst hlen
  have HL := Lib.hid hl; clear hl
  have HF := Lib.hid hf; clear hf
  obtain ⟨v, hv⟩ : ∃ v, v = checkS f := ⟨_, rfl⟩
  rw [← hv]
  unfold checkS at hv
  by_cases hbig : 256 < f.length
  · rw [if_pos hbig] at hv
    have Hv := Lib.hid hv; clear hv
    go_enter Try.func19, Try.ntmps19
    go_wp2
    go_ret
    exact ⟨ret_int Hv.out, Below.refl _ _⟩
  · rw [if_neg hbig] at hv
    have Hv : Hid (v = checkGo (f.drop 0) 0) := hv
    clear hv
    go_enter Try.func19, Try.ntmps19
    go_wp2
    go_loopw [3, 12] (fun x i wr => ∃ (k : Nat) (m : Int), k ≤ f.length ∧ i = .int .i64 k ∧ x = .int .i64 m ∧ 0 ≤ m ∧ m ≤ 2 * k ∧ Below w.heap.size w wr ∧ Hid (v = checkGo (f.drop k) m)) (fun _ i _ => f.length - (intOf i).toNat)
    case atStart => exact ⟨0, 0, by omega, rfl, rfl, by omega, by omega, Below.refl _ _, Hv⟩
    case round =>
      obtain ⟨k, m, hk, rfl, rfl, hm0, hm1, hb, hd⟩ := hrel
      by_cases hlt : k < f.length
      · obtain ⟨b, o, rfl, -, hbs, h1, h2, h3⟩ := (HL.out.below hb).opn hlt
        have hd2 := hd.out
        rw [drop_get hlt, checkGo] at hd2
        obtain ⟨ho1, ho2, ho3⟩ := HF.out f[k] (List.getElem_mem hlt)
        generalize f[k] = op at *
        have hle := needsS_le op
        have hge := needsS_ge op ho2
        have hnd := fun w => needs_any op w ho1 ho2 ho3
        generalize needsS op = nd at *
        have Hnd := Lib.hid hnd; clear hnd hd
        by_cases hbad : nd < 0 ∨ m < nd
        · rw [if_pos hbad] at hd2
          have Hd := Lib.hid hd2; clear hd2
          by_cases hnn : nd < 0
          · clear hbad
            go_wp2_with (go_at_call 41; refine (Hnd.out _).mono ?_; rintro e w1 ⟨rfl, hb1⟩)
            go_ret
            exact ⟨ret_int Hd.out, next (hb.alloc hb.size _) hb1 (Nat.le_refl _)⟩
          · have hmm : m < nd := by omega
            clear hbad
            go_wp2_with (go_at_call 41; refine (Hnd.out _).mono ?_; rintro e w1 ⟨rfl, hb1⟩)
            go_ret
            exact ⟨ret_int Hd.out, next (hb.alloc hb.size _) hb1 (Nat.le_refl _)⟩
        · rw [if_neg hbad] at hd2
          have Hd := Lib.hid hd2; clear hd2
          have hn1 : 0 ≤ nd := by omega
          have hn2 : nd ≤ m := by omega
          clear hbad
          go_wp2_with (go_at_call 41; refine (Hnd.out _).mono ?_; rintro e w1 ⟨rfl, hb1⟩)
          go_roundw
          case rel => exact ⟨k + 1, m + (1 - nd), by omega, by go_num, by go_num, by omega, by omega, next (hb.alloc hb.size _) hb1 (Nat.le_refl _), Hd⟩
          case measure => simp [intOf]; omega
      · have hd2 : v = if m = 1 then 0 else 1 := by rw [hd.out, drop_end hlt]; rfl
        have Hd := Lib.hid hd2; clear hd2 hd
        by_cases h1 : m = 1
        · have h1' : (m != 1) = false := by rw [h1]; rfl
          have h2 : v = 0 := by rw [Hd.out, if_pos h1]
          have H2 := Lib.hid h2; clear h2 h1
          go_wp2
          go_ret
          exact ⟨ret_int H2.out, hb⟩
        · have h1' : (m != 1) = true := by rw [bne_iff_ne]; exact h1
          have h2 : v = 1 := by rw [Hd.out, if_neg h1]
          have H2 := Lib.hid h2; clear h2 h1
          go_wp2
          go_ret
          exact ⟨ret_int H2.out, hb⟩
end Go.Proofs.Ytchdpjgncojhaaa
