/- Tokens: the walks of licitref05, and of token. -/
import Derived.Test.YtchdpjgncojhaaaTokWalk
set_option linter.unusedVariables false
set_option linter.unusedSimpArgs false
namespace Go.Proofs.Ytchdpjgncojhaaa
open Go.RowKit

set_option maxHeartbeats 1000000 in
theorem valid5_any (t : Tok) (w : World) (hl : t.text.length ≤ 9223372036854775807) :
    Calls Try.prog 65 #[.agg #[.int .i64 t.kind, .string ⟨t.text.toArray⟩]] w fun e w' => e = .returned (.bool (valid5 t)) ∧ Below w.heap.size w w' := by
  obtain ⟨v, hv⟩ : ∃ v, v = valid5 t := ⟨_, rfl⟩
  rw [← hv]
  have Hv := Lib.hid hv; clear hv
  by_cases h1 : t.kind = 1
  · go_enter Try.func65, Try.ntmps65
    go_wp2_with (go_at_call 78; refine (form5_any _ _ hl).mono ?_; rintro e w' ⟨rfl, rfl⟩)
    go_ret
    exact ⟨ret_bool (by rw [Hv.out, valid5, if_pos h1]), (Below.refl _ _).alloc (Nat.le_refl _) _⟩
  · have h1' : (t.kind == 1) = false := by simpa using h1
    by_cases h2 : t.kind = 2
    · go_enter Try.func65, Try.ntmps65
      go_wp2_with (go_at_call 79; refine (number5_any _ _ hl).mono ?_; rintro e w' ⟨rfl, rfl⟩)
      go_ret
      exact ⟨ret_bool (by rw [Hv.out, valid5, if_neg h1, if_pos h2, number_eq]), (Below.refl _ _).alloc (Nat.le_refl _) _⟩
    · have h2' : (t.kind == 2) = false := by simpa using h2
      by_cases h3 : t.kind = 3
      · go_enter Try.func65, Try.ntmps65
        go_wp2_with fail
        go_region_with (first
          | (go_at_call 81; (refine (symbols5_any _).mono ?_; rintro e w1 ⟨A, n, c, rfl, hs, hb⟩; have hc := keptCell hb (heap_alloc_new w _) 1; simp only [List.getElem?_toArray, List.getElem?_cons_succ, List.getElem?_cons_zero] at hc))
          | (go_at_call 80; refine (has5_any _ _ _ _ _ syms t.text (by assumption)).mono ?_; rintro e w' ⟨rfl, rfl⟩))
        all_goals
          go_wp2
          go_ret
          exact ⟨ret_bool (by rw [Hv.out, valid5, if_neg h1, if_neg h2, if_pos h3]; simp), next ((Below.refl _ _).alloc (Nat.le_refl _) _).drew hb (Nat.le_refl _)⟩
      · have h3' : (t.kind == 3) = false := by simpa using h3
        go_enter Try.func65, Try.ntmps65
        go_wp2
        go_ret
        exact ⟨ret_bool (by rw [Hv.out, valid5, if_neg h1, if_neg h2, if_neg h3]), (Below.refl _ _).alloc (Nat.le_refl _) _⟩


set_option maxHeartbeats 400000 in
theorem allValid5_any (A : Option Addr) (n c : Nat) (w : World) (S : Nat → Prop) (l : List Tok) (hl : Sl w S A n c l) (hs : ∀ t ∈ l, t.text.length ≤ 9223372036854775807) :
    Calls Try.prog 38 #[.slice A n c] w fun e w' => e = .returned (.bool (l.all valid5 && decide (l.length ≤ 256))) ∧ Below w.heap.size w w' := by
  have hn := hl.le
  have hlen := hl.len
  subst hlen
  have HL := Lib.hid hl; clear hl
  have HS := Lib.hid hs; clear hs
  obtain ⟨v, hv⟩ : ∃ v, v = (l.all valid5 && decide (l.length ≤ 256)) := ⟨_, rfl⟩
  rw [← hv]
  have Hf : Hid (v = ((l.drop 0).all valid5 && decide (l.length ≤ 256))) := hv
  clear hv
  go_enter Try.func38, Try.ntmps38
  go_wp2
  go_loopw [7] (fun i wr => ∃ k : Nat, k ≤ l.length ∧ i = .int .i64 k ∧ Below w.heap.size w wr ∧ Hid (v = ((l.drop k).all valid5 && decide (l.length ≤ 256)))) (fun i _ => l.length - (intOf i).toNat)
  case atStart => exact ⟨0, by omega, rfl, Below.refl _ _, Hf⟩
  case round =>
    obtain ⟨k, hk, rfl, hb, hf⟩ := hrel
    by_cases hlt : k < l.length
    · obtain ⟨b, o, rfl, -, hbs, h1, h2⟩ := (HL.out.below hb).tok hlt
      have hd : Hid (v = (valid5 l[k] && (l.drop (k + 1)).all valid5 && decide (l.length ≤ 256))) := by show v = _; rw [hf.out, drop_get hlt, List.all_cons]
      clear hf
      generalize hT : l[k] = t at *
      have hts : t.text.length ≤ 9223372036854775807 := by rw [← hT]; exact HS.out _ (List.getElem_mem _)
      clear hT
      cases hvt : valid5 t
      all_goals
        have Hvt := Lib.hid hvt; clear hvt
        go_wp2_with fail
        refine (valid5_any t _ hts).mono ?_
        rw [Hvt.out]
        rintro e w1 ⟨rfl, hb1⟩
        go_wp2
      · go_ret
        exact ⟨ret_bool (by rw [hd.out, Hvt.out]; rfl), next (hb.alloc hb.size _) hb1 (Nat.le_refl _)⟩
      · go_roundw
        case rel => exact ⟨k + 1, by omega, by go_num, next (hb.alloc hb.size _) hb1 (Nat.le_refl _), by show v = _; rw [hd.out, Hvt.out, Bool.true_and]⟩
        case measure => simp [intOf]; omega
    · go_wp2
      go_ret
      exact ⟨ret_bool (by rw [hf.out, drop_end hlt]; simp only [List.all_nil, Bool.true_and, decide_eq_decide]; omega), hb⟩

set_option maxHeartbeats 400000 in
theorem same5_any (A A' : Option Addr) (n c n' c' : Nat) (w : World) (S S' : Nat → Prop) (l l' : List Tok) (hl : Sl w S A n c l) (hl' : Sl w S' A' n' c' l') :
    Calls Try.prog 18 #[.slice A n c, .slice A' n' c'] w fun e w' => e = .returned (.bool (sameL l l')) ∧ Below w.heap.size w w' := by
  have hn := hl.le
  have hn' := hl'.le
  have hlen := hl.len
  subst hlen
  have hlen' := hl'.len
  subst hlen'
  have HL := Lib.hid hl; clear hl
  have HL' := Lib.hid hl'; clear hl'
  obtain ⟨v, hv⟩ : ∃ v, v = sameL l l' := ⟨_, rfl⟩
  rw [← hv]
  by_cases he : l.length = l'.length
  · have Hf : Hid (v = sameL (l.drop 0) (l'.drop 0)) := hv
    clear hv
    have hq : ((l.length : Int) != l'.length) = false := by rw [he]; simp
    have HE := Lib.hid he; clear he
    go_enter Try.func18, Try.ntmps18
    go_wp2
    go_loopw [13] (fun i wr => ∃ k : Nat, k ≤ l.length ∧ i = .int .i64 k ∧ Below w.heap.size w wr ∧ Hid (v = sameL (l.drop k) (l'.drop k))) (fun i _ => l.length - (intOf i).toNat)
    case atStart => exact ⟨0, by omega, rfl, Below.refl _ _, Hf⟩
    case round =>
      obtain ⟨k, hk, rfl, hb, hf⟩ := hrel
      by_cases hlt : k < l.length
      · have hlt' : k < l'.length := by have := HE.out; omega
        obtain ⟨b, o, rfl, -, hbs, h1, h2⟩ := (HL.out.below hb).tok hlt
        obtain ⟨b', o', rfl, -, hbs', h1', h2'⟩ := (HL'.out.below hb).tok hlt'
        have hd : Hid (v = (decide (l[k] = l'[k]) && sameL (l.drop (k + 1)) (l'.drop (k + 1)))) := by show v = _; rw [hf.out, drop_get hlt, drop_get hlt', sameL]
        clear hf
        go_wp2
        go_quiet (fail)
        go_wp2
        · have h : (!decide (l[k].kind = l'[k].kind)) = true ∨ (!decide (l[k].text = l'[k].text)) = true := by assumption
          go_ret
          exact ⟨ret_bool (by rw [hd.out, decide_eq_false (fun e => by rw [e] at h; simp at h)]; rfl), below_drewN hb _⟩
        · have h : (!decide (l[k].kind = l'[k].kind)) = false ∧ (!decide (l[k].text = l'[k].text)) = false := by assumption
          go_roundw
          case rel => exact ⟨k + 1, by omega, by go_num, below_drewN hb _, by show v = _; rw [hd.out, decide_eq_true (Tok.eq_of (by simpa using h.1) (by simpa using h.2)), Bool.true_and]⟩
          case measure => simp [intOf]; omega
      · go_wp2
        go_ret
        exact ⟨ret_bool (by have := HE.out; rw [hf.out, drop_end hlt, drop_end (by omega)]; rfl), hb⟩
  · have Hf : Hid (v = false) := by show v = _; rw [hv, sameL_len he]
    have hq : ((l.length : Int) != l'.length) = true := by rw [bne_iff_ne]; omega
    clear hv he
    go_enter Try.func18, Try.ntmps18
    go_wp2
    go_ret
    exact ⟨ret_bool Hf.out, Below.refl _ _⟩
end Go.Proofs.Ytchdpjgncojhaaa
