/- Tokens: the walks of licitref05. -/
import Derived.Test.YtchdpjgncojhaaaTokSpec
set_option linter.unusedVariables false
set_option linter.unusedSimpArgs false
namespace Go.Proofs.Ytchdpjgncojhaaa
open Go.RowKit

theorem letter5_any (c : Int) (w : World) :
    Calls Try.prog 88 #[.int .u8 c] w fun e w' => e = .returned (.bool (letr c)) ∧ w = w' := by
  go_enter Try.func88, Try.ntmps88
  go_wp2
  all_goals go_ret
  all_goals (simp_all [letr]; try omega)

theorem digit5_any (c : Int) (w : World) :
    Calls Try.prog 89 #[.int .u8 c] w fun e w' => e = .returned (.bool (digt c)) ∧ w = w' := by
  go_enter Try.func89, Try.ntmps89
  go_wp2
  all_goals go_ret
  all_goals (simp_all [digt]; try omega)

set_option maxHeartbeats 800000 in
theorem form5_any (l : Bs) (w : World) (hl : l.length ≤ 9223372036854775807) :
    Calls Try.prog 78 #[.string ⟨l.toArray⟩] w fun e w' => e = .returned (.bool (form l)) ∧ w = w' := by
  obtain ⟨v, hv⟩ : ∃ v, v = form l := ⟨_, rfl⟩
  rw [← hv]
  by_cases h1 : 1 ≤ l.length
  · by_cases h2 : l.length ≤ 32
    · have hz : 0 < l.length := h1
      by_cases h3 : letr l[0].toNat = true
      · have Hf : Hid (v = (l.drop 0).all nameB) := by show v = _; rw [hv]; unfold form; rw [headD_get hz]; simp [h1, h2, h3]
        clear hv
        go_enter Try.func78, Try.ntmps78
        go_wp2_with (first | (go_at_call 88; refine (letter5_any _ _).mono ?_; rintro e w' ⟨rfl, rfl⟩) | (go_at_call 89; refine (digit5_any _ _).mono ?_; rintro e w' ⟨rfl, rfl⟩))
        go_loop [3] (fun i => ∃ k : Nat, k ≤ l.length ∧ i = .int .i64 k ∧ Hid (v = (l.drop k).all nameB)) (fun i => l.length - (intOf i).toNat)
        case atStart => exact ⟨0, by omega, rfl, Hf⟩
        case round =>
          obtain ⟨k, hk, rfl, hf⟩ := hrel
          by_cases hlt : k < l.length
          · have hd : Hid (v = (nameB l[k] && (l.drop (k + 1)).all nameB)) := by show v = _; rw [hf.out, drop_get hlt, List.all_cons]
            clear hf
            go_wp2_with (first | (go_at_call 88; refine (letter5_any _ _).mono ?_; rintro e w' ⟨rfl, rfl⟩) | (go_at_call 89; refine (digit5_any _ _).mono ?_; rintro e w' ⟨rfl, rfl⟩))
            all_goals first
              | (go_round
                 case rel => exact ⟨k + 1, by omega, by go_num, by show v = _; rw [hd.out]; simp_all [nameB]⟩
                 case measure => simp [intOf]; omega)
              | (go_ret; exact ⟨ret_bool (by rw [hd.out]; simp_all [nameB]), rfl⟩)
          · go_wp2
            go_ret
            exact ⟨ret_bool (by rw [hf.out, drop_end hlt]; rfl), rfl⟩
      · have Hf : Hid (v = false) := by show v = _; rw [hv]; unfold form; rw [headD_get hz]; simp [h3]
        clear hv
        go_enter Try.func78, Try.ntmps78
        go_wp2_with (first | (go_at_call 88; refine (letter5_any _ _).mono ?_; rintro e w' ⟨rfl, rfl⟩) | (go_at_call 89; refine (digit5_any _ _).mono ?_; rintro e w' ⟨rfl, rfl⟩))
        go_ret
        exact ⟨ret_bool Hf.out, rfl⟩
    · have Hf : Hid (v = false) := by show v = _; rw [hv]; unfold form; simp [h2]
      clear hv
      go_enter Try.func78, Try.ntmps78
      go_wp2
      go_ret
      exact ⟨ret_bool Hf.out, rfl⟩
  · have Hf : Hid (v = false) := by show v = _; rw [hv]; unfold form; simp [h1]
    clear hv
    go_enter Try.func78, Try.ntmps78
    go_wp2
    go_ret
    exact ⟨ret_bool Hf.out, rfl⟩

set_option maxHeartbeats 400000 in
theorem has5_any (A : Option Addr) (n c : Nat) (w : World) (S : Nat → Prop) (l : List Bs) (x : Bs) (hl : Sl w S A n c l) :
    Calls Try.prog 80 #[.slice A n c, .string ⟨x.toArray⟩] w fun e w' => e = .returned (.bool (l.contains x)) ∧ w = w' := by
  have hn := hl.le
  have hlen := hl.len
  subst hlen
  have HL := Lib.hid hl; clear hl
  obtain ⟨v, hv⟩ : ∃ v, v = l.contains x := ⟨_, rfl⟩
  rw [← hv]
  have Hf : Hid (v = (l.drop 0).contains x) := hv
  clear hv
  go_enter Try.func80, Try.ntmps80
  go_wp2
  go_loop [9] (fun i => ∃ k : Nat, k ≤ l.length ∧ i = .int .i64 k ∧ Hid (v = (l.drop k).contains x)) (fun i => l.length - (intOf i).toNat)
  case atStart => exact ⟨0, by omega, rfl, Hf⟩
  case round =>
    obtain ⟨k, hk, rfl, hf⟩ := hrel
    by_cases hlt : k < l.length
    · obtain ⟨b, o, rfl, -, hbs, h1⟩ := HL.out.str hlt
      have hd : Hid (v = ((l[k] == x) || (l.drop (k + 1)).contains x)) := by show v = _; rw [hf.out, drop_get hlt, List.contains_cons, BEq.comm]
      clear hf
      go_wp2
      all_goals first
        | (go_round
           case rel => exact ⟨k + 1, by omega, by go_num, by have hx : (l[k] == x) = false := by assumption
                                                             show v = _; rw [hd.out, hx, Bool.false_or]⟩
           case measure => simp [intOf]; omega)
        | (go_ret; exact ⟨ret_bool (by have hx : (l[k] == x) = true := by assumption
                                       rw [hd.out, hx, Bool.true_or]), rfl⟩)
    · go_wp2
      go_ret
      exact ⟨ret_bool (by rw [hf.out, drop_end hlt]; rfl), rfl⟩

set_option maxHeartbeats 400000 in
theorem few5_any (A : Option Addr) (n c : Nat) (w : World) (S : Nat → Prop) (l : List Tok) (hl : Sl w S A n c l) :
    Calls Try.prog 11 #[.slice A n c] w fun e w' => e = .returned (.bool (l.all (fun t => decide (t.text.length ≤ 50)) && decide (l.length ≤ 300))) ∧ Below w.heap.size w w' := by
  have hn := hl.le
  have hlen := hl.len
  subst hlen
  have HL := Lib.hid hl; clear hl
  obtain ⟨p, hp⟩ : ∃ p : Tok → Bool, p = (fun t => decide (t.text.length ≤ 50)) := ⟨_, rfl⟩
  obtain ⟨v, hv⟩ : ∃ v, v = (l.all (fun t => decide (t.text.length ≤ 50)) && decide (l.length ≤ 300)) := ⟨_, rfl⟩
  rw [← hv]
  have Hf : Hid (v = ((l.drop 0).all p && decide (l.length ≤ 300))) := by rw [hp]; exact hv
  have Hp := Lib.hid hp; clear hp hv
  go_enter Try.func11, Try.ntmps11
  go_wp2
  go_loopw [7] (fun i wr => ∃ k : Nat, k ≤ l.length ∧ i = .int .i64 k ∧ Below w.heap.size w wr ∧ Hid (v = ((l.drop k).all p && decide (l.length ≤ 300)))) (fun i _ => l.length - (intOf i).toNat)
  case atStart => exact ⟨0, by omega, rfl, Below.refl _ _, Hf⟩
  case round =>
    obtain ⟨k, hk, rfl, hb, hf⟩ := hrel
    by_cases hlt : k < l.length
    · obtain ⟨b, o, rfl, -, hbs, h1, h2⟩ := (HL.out.below hb).tok hlt
      have hd : Hid (v = (decide (l[k].text.length ≤ 50) && (l.drop (k + 1)).all p && decide (l.length ≤ 300))) := by show v = _; rw [hf.out, drop_get hlt, List.all_cons, Hp.out]
      clear hf
      go_wp2
      all_goals first
        | (go_roundw
           case rel => exact ⟨k + 1, by omega, by go_num, hb.alloc hb.size _, by show v = _; rw [hd.out]; rw [decide_eq_true (by omega), Bool.true_and]⟩
           case measure => simp [intOf]; omega)
        | (go_ret; exact ⟨ret_bool (by rw [hd.out, decide_eq_false (by omega)]; rfl), hb.alloc hb.size _⟩)
    · go_wp2
      go_ret
      exact ⟨ret_bool (by rw [hf.out, drop_end hlt]; simp only [List.all_nil, Bool.true_and, decide_eq_decide]; omega), hb⟩

theorem Sl.lits {w : World} {b : Nat} {xs : List Bs} {cs : Array Value} {t : TypeId} {fz : Nat × Nat} (hb : w.heap[b]? = some (.cells cs t fz)) (hc : cs = (xs.map fun x => Value.string ⟨x.toArray⟩).toArray) (hm : xs.length ≤ 9223372036854775807) {S : Nat → Prop} (hS : S b) {n c : Nat} (hn : n = xs.length) (hcc : c = xs.length) :
    Sl w S (some ⟨b, 0, none⟩) n c xs := by
  subst hn hcc hc
  refine ⟨rfl, Nat.le_refl _, hm, fun i hi => ⟨_, rfl, hS, fun _ => .string ⟨xs[i].toArray⟩, fun j hj => ?_, rfl⟩⟩
  obtain rfl : j = 0 := by simp only [GoT.size] at hj; omega
  rw [add_plain]
  simp [World.cell?, hb, GoT.size]

set_option maxHeartbeats 400000 in
theorem symbols5_any (w : World) :
    Calls Try.prog 81 #[] w fun e w' => ∃ A n c, e = .returned (.slice A n c) ∧ Sl w' (fun b => w.heap.size ≤ b) A n c syms ∧ Below w.heap.size w w' := by
  go_enter Try.func81, Try.ntmps81
  go_wp2
  go_ret
  exact ⟨_, _, _, rfl, Sl.lits (heap_alloc_new w _) rfl (by decide) (Nat.le_refl _) rfl rfl, (Below.refl _ _).alloc (Nat.le_refl _) _⟩

set_option maxHeartbeats 400000 in
theorem keyword5_any (s : Bs) (w : World) :
    Calls Try.prog 87 #[.string ⟨s.toArray⟩] w fun e w' => e = .returned (.bool (kws.contains s)) ∧ Below w.heap.size w w' := by
  obtain ⟨v, hv⟩ : ∃ v, v = kws.contains s := ⟨_, rfl⟩
  rw [← hv]
  have Hv := Lib.hid hv; clear hv
  go_enter Try.func87, Try.ntmps87
  go_wp2_with fail
  refine (has5_any _ _ _ _ (fun _ => True) kws s (Sl.lits (heap_alloc_new w _) rfl (by decide) trivial rfl rfl)).mono ?_
  rw [← Hv.out]
  rintro e w' ⟨rfl, rfl⟩
  go_wp2
  go_ret
  exact ⟨rfl, (Below.refl _ _).alloc (Nat.le_refl _) _⟩

set_option maxHeartbeats 400000 in
theorem name5_any (s : Bs) (w : World) (hl : s.length ≤ 9223372036854775807) :
    Calls Try.prog 70 #[.string ⟨s.toArray⟩] w fun e w' => e = .returned (.bool (name5 s)) ∧ Below w.heap.size w w' := by
  have h5 : name5 s = (form s && !kws.contains s) := rfl
  rw [h5]
  generalize hk : kws.contains s = k at *
  have Hk := Lib.hid hk; clear hk h5
  cases hf : form s
  · go_enter Try.func70, Try.ntmps70
    go_wp2_with fail
    refine (form5_any _ _ hl).mono ?_
    rw [hf]
    rintro e w' ⟨rfl, rfl⟩
    go_wp2
    go_ret
    exact ⟨rfl, Below.refl _ _⟩
  · go_enter Try.func70, Try.ntmps70
    go_wp2_with fail
    refine (form5_any _ _ hl).mono ?_
    rw [hf]
    rintro e w' ⟨rfl, rfl⟩
    go_wp2_with fail
    refine (keyword5_any _ _).mono ?_
    rw [Hk.out]
    rintro e w' ⟨rfl, hb⟩
    go_wp2
    go_ret
    exact ⟨rfl, hb⟩


theorem isEmpty_no {s : Bs} (h : 1 ≤ s.length) : s.isEmpty = false := by cases s with | nil => simp at h | cons a r => rfl
theorem bad0_no {s : Bs} (h : 1 ≤ s.length) (h2 : ¬ (1 < s.length ∧ s[0].toNat = 48)) : bad0 s = false := by
  unfold bad0
  rw [headD_get h, isEmpty_no h, Bool.false_or, Bool.and_eq_false_iff, decide_eq_false_iff_not, beq_eq_false_iff_ne]
  by_cases h : 1 < s.length
  · exact .inr fun e => h2 ⟨h, by rw [e]; rfl⟩
  · exact .inl h

set_option maxHeartbeats 1000000 in
theorem number5_any (s : Bs) (w : World) (hl : s.length ≤ 9223372036854775807) :
    Calls Try.prog 79 #[.string ⟨s.toArray⟩] w fun e w' => e = .returned (.tuple #[.int .u32 (number5 s).1, .int .i64 (number5 s).2]) ∧ w = w' := by
  obtain ⟨v, hv⟩ : ∃ v, v = number5 s := ⟨_, rfl⟩
  rw [← hv]
  by_cases h1 : 1 ≤ s.length
  · by_cases h2 : 1 < s.length ∧ s[0].toNat = 48
    · have h0 : Hid (v = (0, 4)) := by
        show v = _
        rw [hv]; unfold number5 bad0
        have : s[0] = 48 := UInt8.toNat_inj.1 h2.2
        rw [headD_get h1, this]
        simp [h2.1]
      have hq := isEmpty_no h1
      clear hv
      obtain ⟨h3, h4⟩ := h2
      have h4 : (((s[0].toNat : Nat) : Int) == 48) = true := by rw [h4]; rfl
      go_enter Try.func79, Try.ntmps79
      go_wp2
      go_ret2
      exact ⟨ret_tup (by rw [h0.out]; rfl) (by rw [h0.out]), rfl⟩
    · have h0 : Hid (v = num5 (s.drop 0) 0 false) := by
        show v = _
        rw [hv]; unfold number5
        rw [bad0_no h1 h2]; rfl
      clear hv
      have hq := isEmpty_no h1
      have h4 : 1 < s.length → (((s[0].toNat : Nat) : Int) == 48) = false := fun h3 => by rw [beq_eq_false_iff_ne]; exact fun e => h2 ⟨h3, by omega⟩
      clear h2
      by_cases h3 : 1 < s.length
      all_goals
        go_enter Try.func79, Try.ntmps79
        go_wp2
        go_loop [4, 5, 6] (fun x y i => ∃ (k n : Nat) (g : Bool), k ≤ s.length ∧ n ≤ 4294967296 ∧ i = .int .i64 k ∧ x = .int .u64 n ∧ y = .bool g ∧ Hid (v = num5 (s.drop k) n g) ∧ Hid (n ≤ 4294967295 ∨ g = true)) (fun _ _ i => s.length - (intOf i).toNat)
        case atStart => exact ⟨0, 0, false, by omega, by omega, rfl, rfl, rfl, h0, Or.inl (by omega)⟩
        case round =>
          obtain ⟨k, n, g, hk, hn, rfl, rfl, rfl, hf, hg⟩ := hrel
          by_cases hlt : k < s.length
          · by_cases hdg : digt s[k].toNat = true
            · have hb : 48 ≤ (s[k].toNat : Int) ∧ (s[k].toNat : Int) ≤ 57 := by simpa [digt] using hdg
              obtain ⟨hb1, hb2⟩ := hb
              by_cases hbig : (4294967295 : Int) < 10 * n + (s[k].toNat - 48)
              · have hd : Hid (v = num5 (s.drop (k + 1)) 4294967296 true) := by
                  show v = _
                  rw [hf.out, drop_get hlt, num5]
                  simp only [digB, hdg, Bool.not_true, if_false, Bool.false_eq_true]
                  rw [if_pos (by omega)]
                clear hf hg
                go_wp2_with (go_at_call 89; refine (digit5_any _ _).mono ?_; rintro e w' ⟨rfl, rfl⟩)
                go_round
                case rel => exact ⟨k + 1, 4294967296, true, by omega, by omega, by go_num, by go_num, rfl, hd, Or.inr rfl⟩
                case measure => simp [intOf]; omega
              · have hd : Hid (v = num5 (s.drop (k + 1)) (10 * n + (s[k].toNat - 48)) g) := by
                  show v = _
                  rw [hf.out, drop_get hlt, num5]
                  simp only [digB, hdg, Bool.not_true, if_false, Bool.false_eq_true]
                  rw [if_neg (by omega)]
                clear hf hg
                go_wp2_with (go_at_call 89; refine (digit5_any _ _).mono ?_; rintro e w' ⟨rfl, rfl⟩)
                go_round
                case rel => exact ⟨k + 1, 10 * n + (s[k].toNat - 48), g, by omega, by omega, by go_num, by go_num, rfl, hd, Or.inl (by omega)⟩
                case measure => simp [intOf]; omega
            · have hd : Hid (v = (0, 4)) := by
                show v = _
                rw [hf.out, drop_get hlt, num5]
                simp [digB, hdg]
              clear hf hg
              go_wp2_with (go_at_call 89; refine (digit5_any _ _).mono ?_; rintro e w' ⟨rfl, rfl⟩)
              go_ret2
              exact ⟨ret_tup (by rw [hd.out]; rfl) (by rw [hd.out]), rfl⟩
          · have hd : Hid (v = if g then (0, 3) else (n, 0)) := by
              show v = _
              rw [hf.out, drop_end hlt, num5]
            clear hf
            cases g
            · have hn2 : n ≤ 4294967295 := by rcases hg.out with h | h; exact h; cases h
              go_wp2
              go_ret2
              exact ⟨ret_tup (by rw [hd.out]; rfl) (by rw [hd.out]; rfl), rfl⟩
            · go_wp2
              go_ret2
              exact ⟨ret_tup (by rw [hd.out]; rfl) (by rw [hd.out]; rfl), rfl⟩
  · have h0 : Hid (v = (0, 4)) := by
      show v = _
      rw [hv]; unfold number5 bad0
      cases s with
      | nil => rfl
      | cons a r => simp at h1
    have hq : s.isEmpty = true := by cases s with | nil => rfl | cons a r => simp at h1
    clear hv
    go_enter Try.func79, Try.ntmps79
    go_wp2
    go_ret2
    exact ⟨ret_tup (by rw [h0.out]; rfl) (by rw [h0.out]), rfl⟩

end Go.Proofs.Ytchdpjgncojhaaa
