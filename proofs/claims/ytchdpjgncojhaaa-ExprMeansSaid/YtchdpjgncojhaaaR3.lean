/- licitref08: the walks of Check, Same, Few. -/
import Derived.Test.YtchdpjgncojhaaaR2
set_option linter.unusedVariables false
set_option linter.unusedSimpArgs false
namespace Go.Proofs.Ytchdpjgncojhaaa
open Go.RowKit

set_option maxRecDepth 100000 in
set_option maxHeartbeats 2000000 in
theorem check8_any (A : Option Addr) (n c : Nat) (w : World) (S : Nat → Prop) (f : List Opn) (hl : Sl w S A n c f) (hf : OkF f) :
    Calls Try.prog 20 #[.slice A n c] w fun e w' => e = .returned (.int .i64 (checkS f)) ∧ Below w.heap.size w w' := by
  have hn := hl.le
  have hlen := hl.len
  subst hlen
  have HL := Lib.hid hl; clear hl
  have HF := Lib.hid hf; clear hf
  obtain ⟨v, hv⟩ : ∃ v, v = checkS f := ⟨_, rfl⟩
  rw [← hv]
  unfold checkS at hv
  by_cases hbig : 256 < f.length
  · rw [if_pos hbig] at hv
    have Hv := Lib.hid hv; clear hv
    go_enter Try.func20, Try.ntmps20
    go_wp2
    go_ret
    exact ⟨ret_int Hv.out, Below.refl _ _⟩
  · rw [if_neg hbig] at hv
    have Hv : Hid (v = checkGo (f.drop 0) 0) := hv
    clear hv
    go_enter Try.func20, Try.ntmps20
    go_wp2
    go_loopw [3, 12] (fun x i wr => ∃ (k : Nat) (m : Int), k ≤ f.length ∧ i = .int .i64 k ∧ x = .int .i64 m ∧ 0 ≤ m ∧ m ≤ 2 * k ∧ Below w.heap.size w wr ∧ Hid (v = checkGo (f.drop k) m)) (fun _ i _ => f.length - (intOf i).toNat)
    case atStart => exact ⟨0, 0, by omega, rfl, rfl, by omega, by omega, Below.refl _ _, Hv⟩
    case round =>
      obtain ⟨k, m, hk, rfl, rfl, hm0, hm1, hb, hd⟩ := hrel
      by_cases hlt : k < f.length
      · obtain ⟨b, o, rfl, -, hbs, h1, h2, h3⟩ := (HL.out.below hb).opn hlt
        have hd2 := hd.out
        rw [drop_get hlt, checkGo] at hd2
        obtain ⟨ho1, ho2, ho3⟩ := HF.out f[k] (List.getElem_mem hlt)
        generalize f[k] = op at *
        have hle := needsS_le op
        have hge := needsS_ge op ho2
        have hnd := fun w => needs8_any op w ho1 ho2 ho3
        generalize needsS op = nd at *
        have Hnd := Lib.hid hnd; clear hnd hd
        by_cases hbad : nd < 0 ∨ m < nd
        · rw [if_pos hbad] at hd2
          have Hd := Lib.hid hd2; clear hd2
          by_cases hnn : nd < 0
          · clear hbad
            go_wp2_with (go_at_call 49; refine (Hnd.out _).mono ?_; rintro e w1 ⟨rfl, hb1⟩)
            go_ret
            exact ⟨ret_int Hd.out, next (hb.alloc hb.size _) hb1 (Nat.le_refl _)⟩
          · have hmm : m < nd := by omega
            clear hbad
            go_wp2_with (go_at_call 49; refine (Hnd.out _).mono ?_; rintro e w1 ⟨rfl, hb1⟩)
            go_ret
            exact ⟨ret_int Hd.out, next (hb.alloc hb.size _) hb1 (Nat.le_refl _)⟩
        · rw [if_neg hbad] at hd2
          have Hd := Lib.hid hd2; clear hd2
          have hn1 : 0 ≤ nd := by omega
          have hn2 : nd ≤ m := by omega
          clear hbad
          go_wp2_with (go_at_call 49; refine (Hnd.out _).mono ?_; rintro e w1 ⟨rfl, hb1⟩)
          go_roundw
          case rel => exact ⟨k + 1, m - nd + 1, by omega, by go_num, by go_num, by omega, by omega, next (hb.alloc hb.size _) hb1 (Nat.le_refl _), by rw [show m - nd + 1 = m + (1 - nd) by omega]; exact Hd⟩
          case measure => simp [intOf]; omega
      · have hd2 : v = if m = 1 then 0 else 1 := by rw [hd.out, drop_end hlt]; rfl
        have Hd := Lib.hid hd2; clear hd2 hd
        by_cases h1 : m = 1
        · have h1' : (m != 1) = false := by rw [h1]; rfl
          have h2 : v = 0 := by rw [Hd.out, if_pos h1]
          have H2 := Lib.hid h2; clear h2 h1
          go_wp2
          go_ret
          exact ⟨ret_int H2.out, hb⟩
        · have h1' : (m != 1) = true := by rw [bne_iff_ne]; exact h1
          have h2 : v = 1 := by rw [Hd.out, if_neg h1]
          have H2 := Lib.hid h2; clear h2 h1
          go_wp2
          go_ret
          exact ⟨ret_int H2.out, hb⟩

set_option maxHeartbeats 800000 in
theorem same8_any (A A' : Option Addr) (n c n' c' : Nat) (w : World) (S S' : Nat → Prop) (l l' : List Opn) (hl : Sl w S A n c l) (hl' : Sl w S' A' n' c' l') :
    Calls Try.prog 14 #[.slice A n c, .slice A' n' c'] w fun e w' => e = .returned (.bool (sameL l l')) ∧ Below w.heap.size w w' := by
  have hn := hl.le
  have hn' := hl'.le
  have hlen := hl.len
  subst hlen
  have hlen' := hl'.len
  subst hlen'
  have HL := Lib.hid hl; clear hl
  have HL' := Lib.hid hl'; clear hl'
  obtain ⟨v, hv⟩ : ∃ v, v = sameL l l' := ⟨_, rfl⟩
  rw [← hv]
  by_cases he : l.length = l'.length
  · have Hf : Hid (v = sameL (l.drop 0) (l'.drop 0)) := hv
    clear hv
    have hq : ((l.length : Int) != l'.length) = false := by rw [he]; simp
    have HE := Lib.hid he; clear he
    go_enter Try.func14, Try.ntmps14
    go_wp2
    go_loopw [13] (fun i wr => ∃ k : Nat, k ≤ l.length ∧ i = .int .i64 k ∧ Below w.heap.size w wr ∧ Hid (v = sameL (l.drop k) (l'.drop k))) (fun i _ => l.length - (intOf i).toNat)
    case atStart => exact ⟨0, by omega, rfl, Below.refl _ _, Hf⟩
    case round =>
      obtain ⟨k, hk, rfl, hb, hf⟩ := hrel
      by_cases hlt : k < l.length
      · have hlt' : k < l'.length := by have := HE.out; omega
        obtain ⟨b, o, rfl, -, hbs, h1, h2, h3⟩ := (HL.out.below hb).opn hlt
        obtain ⟨b', o', rfl, -, hbs', h1', h2', h3'⟩ := (HL'.out.below hb).opn hlt'
        have hd : Hid (v = (decide (l[k] = l'[k]) && sameL (l.drop (k + 1)) (l'.drop (k + 1)))) := by show v = _; rw [hf.out, drop_get hlt, drop_get hlt', sameL]
        clear hf
        go_wp2
        go_quiet (fail)
        go_wp2
        · rename_i h
          go_ret
          exact ⟨ret_bool (by rw [hd.out, decide_eq_false (fun e => by rw [e] at h; simp at h)]; rfl), below_drewN hb _⟩
        · rename_i h
          go_roundw
          case rel => exact ⟨k + 1, by omega, by go_num, below_drewN hb _, by show v = _; rw [hd.out, decide_eq_true (Opn.eq_of (by simp at h; exact h.1) (by simp at h; exact h.2.1) (by simp at h; exact h.2.2)), Bool.true_and]⟩
          case measure => simp [intOf]; omega
      · go_wp2
        go_ret
        exact ⟨ret_bool (by have := HE.out; rw [hf.out, drop_end hlt, drop_end (by omega)]; rfl), hb⟩
  · have Hf : Hid (v = false) := by show v = _; rw [hv, sameL_len he]
    have hq : ((l.length : Int) != l'.length) = true := by rw [bne_iff_ne]; omega
    clear hv he
    go_enter Try.func14, Try.ntmps14
    go_wp2
    go_ret
    exact ⟨ret_bool Hf.out, Below.refl _ _⟩

set_option maxHeartbeats 400000 in
theorem few8_any (A : Option Addr) (n c : Nat) (w : World) (S : Nat → Prop) (l : List Opn) (hl : Sl w S A n c l) :
    Calls Try.prog 15 #[.slice A n c] w fun e w' => e = .returned (.bool (l.all (fun t => decide (t.text.length ≤ 50)) && decide (l.length ≤ 300))) ∧ Below w.heap.size w w' := by
  have hn := hl.le
  have hlen := hl.len
  subst hlen
  have HL := Lib.hid hl; clear hl
  obtain ⟨p, hp⟩ : ∃ p : Opn → Bool, p = (fun t => decide (t.text.length ≤ 50)) := ⟨_, rfl⟩
  obtain ⟨v, hv⟩ : ∃ v, v = (l.all (fun t => decide (t.text.length ≤ 50)) && decide (l.length ≤ 300)) := ⟨_, rfl⟩
  rw [← hv]
  have Hf : Hid (v = ((l.drop 0).all p && decide (l.length ≤ 300))) := by rw [hp]; exact hv
  have Hp := Lib.hid hp; clear hp hv
  go_enter Try.func15, Try.ntmps15
  go_wp2
  go_loopw [7] (fun i wr => ∃ k : Nat, k ≤ l.length ∧ i = .int .i64 k ∧ Below w.heap.size w wr ∧ Hid (v = ((l.drop k).all p && decide (l.length ≤ 300)))) (fun i _ => l.length - (intOf i).toNat)
  case atStart => exact ⟨0, by omega, rfl, Below.refl _ _, Hf⟩
  case round =>
    obtain ⟨k, hk, rfl, hb, hf⟩ := hrel
    by_cases hlt : k < l.length
    · obtain ⟨b, o, rfl, -, hbs, h1, h2, h3⟩ := (HL.out.below hb).opn hlt
      have hd : Hid (v = (decide (l[k].text.length ≤ 50) && (l.drop (k + 1)).all p && decide (l.length ≤ 300))) := by show v = _; rw [hf.out, drop_get hlt, List.all_cons, Hp.out]
      clear hf
      go_wp2
      all_goals first
        | (go_roundw
           case rel => exact ⟨k + 1, by omega, by go_num, hb.alloc hb.size _, by show v = _; rw [hd.out]; rw [decide_eq_true (by omega), Bool.true_and]⟩
           case measure => simp [intOf]; omega)
        | (go_ret; exact ⟨ret_bool (by rw [hd.out, decide_eq_false (by omega)]; rfl), hb.alloc hb.size _⟩)
    · go_wp2
      go_ret
      exact ⟨ret_bool (by rw [hf.out, drop_end hlt]; simp only [List.all_nil, Bool.true_and, decide_eq_decide]; omega), hb⟩
end Go.Proofs.Ytchdpjgncojhaaa
