/- Tokens: the walks of token.Number and token.symbol. -/
import Derived.Test.YtchdpjgncojhaaaTokP1
set_option linter.unusedVariables false
set_option linter.unusedSimpArgs false
namespace Go.Proofs.Ytchdpjgncojhaaa
open Go.RowKit

theorem tw_all {p : UInt8 → Bool} {l : Bs} : ((l.takeWhile p).length = l.length) ↔ l.all p = true := by
  induction l with
  | nil => simp
  | cons c r ih =>
    rw [List.takeWhile_cons, List.all_cons]
    by_cases h : p c = true
    · simp [h, ih]
    · simp [h]

set_option maxRecDepth 100000 in
set_option maxHeartbeats 1000000 in
theorem number_any (l : Bs) (w : World) (hl : l.length ≤ 9223372036854775807) :
    Calls Try.prog 93 #[.string ⟨l.toArray⟩] w fun e w' => e = .returned (.tuple #[.int .u32 (number l).1, .int .i64 (number l).2]) ∧ Below w.heap.size w w' := by
  obtain ⟨v, hv⟩ : ∃ v, v = number l := ⟨_, rfl⟩
  rw [← hv]
  by_cases h1 : 1 ≤ l.length
  · have hq : l.isEmpty = false := by cases l with | nil => simp at h1 | cons a r => rfl
    have hrun := run_any l false w
    have hQ : runQ false = digB := rfl
    rw [hQ] at hrun
    have hle : (l.takeWhile digB).length ≤ l.length := (List.takeWhile_sublist _).length_le
    by_cases hall : l.all digB = true
    · rw [tw_all.2 hall] at hrun
      have Hrun := Lib.hid hrun; clear hrun hQ hle
      have hdig : Hid (∀ (k : Nat) (h : k < l.length), digt l[k].toNat = true) := fun k h => by
        have := List.all_eq_true.1 hall l[k] (List.getElem_mem h)
        simpa [digB] using this
      by_cases h2 : 1 < l.length ∧ l[0].toNat = 48
      · have h0 : Hid (v = (0, 4)) := by
          show v = _
          have e0 : l[0] = 48 := UInt8.toNat_inj.1 h2.2
          rw [hv, number, bad0, headD_get h1, e0]
          simp [h2.1]
        clear hv hall
        obtain ⟨h3, h4⟩ := h2
        have h4 : (((l[0].toNat : Nat) : Int) == 48) = true := by rw [h4]; rfl
        go_enter Try.func93, Try.ntmps93
        go_wp2_with (go_at_call 91; refine Hrun.out.mono ?_; rintro e w1 ⟨rfl, hb1⟩)
        go_ret2
        exact ⟨ret_tup (by rw [h0.out]; rfl) (by rw [h0.out]), hb1⟩
      · have h0 : Hid (v = tnum (l.drop 0) 0) := by
          show v = _
          have e2 : bad0 l = false := by
            unfold bad0
            rw [headD_get h1, hq, Bool.false_or, Bool.and_eq_false_iff, decide_eq_false_iff_not, beq_eq_false_iff_ne]
            by_cases h : 1 < l.length
            · exact .inr fun e => h2 ⟨h, by rw [e]; rfl⟩
            · exact .inl h
          rw [hv, number, e2, hall]; rfl
        clear hv hall
        have h4 : 1 < l.length → (((l[0].toNat : Nat) : Int) == 48) = false := fun h3 => by rw [beq_eq_false_iff_ne]; exact fun e => h2 ⟨h3, by omega⟩
        clear h2
        by_cases h3 : 1 < l.length
        all_goals
          go_enter Try.func93, Try.ntmps93
          go_wp2_with (go_at_call 91; refine Hrun.out.mono ?_; rintro e w1 ⟨rfl, hb1⟩)
          go_loopw [4] (fun x wr => ∃ (k n : Nat), k ≤ l.length ∧ n ≤ 4294967295 ∧ x = .int .u64 n ∧ wr = w1.iter ⟨l.toArray⟩ k ∧ Hid (v = tnum (l.drop k) n)) (fun _ wr => l.length - wr.iterPos w1.heap.size)
          case atStart => exact ⟨0, 0, by omega, by omega, rfl, rfl, h0⟩
          case round =>
            obtain ⟨k, n, hk, hn, rfl, rfl, hf⟩ := hrel
            have hsz : (ByteArray.mk l.toArray).size = l.length := by simp [ByteArray.size]
            have hfin : Below w.heap.size w (w1.iter ⟨l.toArray⟩ (k + 1)) := hb1.alloc hb1.size _
            have Hfin := Lib.hid hfin; clear hfin
            by_cases hlt : k < l.length
            · have hdg := hdig.out k hlt
              have hb : 48 ≤ (l[k].toNat : Int) ∧ (l[k].toNat : Int) ≤ 57 := by simpa [digt] using hdg
              obtain ⟨hb2, hb3⟩ := hb
              have hnx : ∀ ty, (Instr.next (.pointer (some ⟨w1.heap.size, 0, none⟩)) true ty).run Try.prog (w1.iter ⟨l.toArray⟩ k) = .ok (.tuple #[.bool true, .int .i64 k, .int .i32 l[k].toNat]) (w1.iter ⟨l.toArray⟩ (k + 1)) :=
                fun ty => run_next_ascii w1 ⟨l.toArray⟩ k ty (by rw [hsz]; exact hlt) (by show l[k].toNat < 128; omega)
              clear hdg hsz
              by_cases hbig : (4294967295 : Int) < 10 * n + (l[k].toNat - 48)
              · have hd : Hid (v = (0, 3)) := by
                  show v = _
                  rw [hf.out, drop_get hlt, tnum, if_pos (by omega)]
                clear hf
                go_wp2
                go_ret2
                exact ⟨ret_tup (by rw [hd.out]; rfl) (by rw [hd.out]), Hfin.out⟩
              · have hd : Hid (v = tnum (l.drop (k + 1)) (10 * n + (l[k].toNat - 48))) := by
                  show v = _
                  rw [hf.out, drop_get hlt, tnum, if_neg (by omega)]
                clear hf
                go_wp2
                go_roundw
                case rel => exact ⟨k + 1, 10 * n + (l[k].toNat - 48), by omega, by omega, by go_num, rfl, hd⟩
                case measure => simp; omega
            · have hnx : ∀ ty, (Instr.next (.pointer (some ⟨w1.heap.size, 0, none⟩)) true ty).run Try.prog (w1.iter ⟨l.toArray⟩ k) = .ok (.tuple #[.bool false]) (w1.iter ⟨l.toArray⟩ k) :=
                fun ty => run_next_end w1 ⟨l.toArray⟩ k ty (by rw [hsz]; exact hlt)
              have hd : Hid (v = (n, 0)) := by
                show v = _
                rw [hf.out, drop_end hlt, tnum]
              clear hf hsz
              have hfin2 : Below w.heap.size w (w1.iter ⟨l.toArray⟩ k) := hb1.alloc hb1.size _
              have Hfin2 := Lib.hid hfin2; clear hfin2
              go_wp2
              go_ret2
              exact ⟨ret_tup (by rw [hd.out]) (by rw [hd.out]), Hfin2.out⟩
    · have h0 : Hid (v = (0, 4)) := by
        show v = _
        have : l.all digB = false := by simpa using hall
        rw [hv, number, this]; simp
      have hne : (l.takeWhile digB).length < l.length := by
        rcases Nat.lt_or_ge (l.takeWhile digB).length l.length with h | h
        · exact h
        · exact absurd (tw_all.1 (by omega)) hall
      clear hv hall
      generalize (l.takeWhile digB).length = m at *
      have Hrun := Lib.hid hrun; clear hrun hQ hle
      have hneq : ((m : Int) != l.length) = true := by rw [bne_iff_ne]; omega
      go_enter Try.func93, Try.ntmps93
      go_wp2_with (go_at_call 91; refine Hrun.out.mono ?_; rintro e w1 ⟨rfl, hb1⟩)
      go_ret2
      exact ⟨ret_tup (by rw [h0.out]; rfl) (by rw [h0.out]), hb1⟩
  · have h0 : Hid (v = (0, 4)) := by
      show v = _
      rw [hv]; unfold number bad0
      cases l with
      | nil => rfl
      | cons a r => simp at h1
    have hq : l.isEmpty = true := by cases l with | nil => rfl | cons a r => simp at h1
    clear hv
    go_enter Try.func93, Try.ntmps93
    go_wp2
    go_ret2
    exact ⟨ret_tup (by rw [h0.out]; rfl) (by rw [h0.out]), Below.refl _ _⟩
end Go.Proofs.Ytchdpjgncojhaaa
