/- Tokens: the walks of licitref05.next, Tokens, Text. -/
import Derived.Test.YtchdpjgncojhaaaTokW2
set_option linter.unusedVariables false
set_option linter.unusedSimpArgs false
namespace Go.Proofs.Ytchdpjgncojhaaa
open Go.RowKit

set_option maxRecDepth 100000 in
set_option maxHeartbeats 1000000 in
theorem next5_letr (s : Bs) (w : World) (h0 : 0 < s.length) (hl : s.length ≤ 9223372036854775807) (h1 : letr s[0].toNat = true) :
    Calls Try.prog 71 #[.string ⟨s.toArray⟩] w fun e w' => e = .returned (TokRes (nextOf sym5 s)) ∧ Below w.heap.size w w' := by
  obtain ⟨v, hv⟩ : ∃ v, v = nextOf sym5 s := ⟨_, rfl⟩
  rw [← hv]
  have Hv : Hid (v = if 32 < (s.takeWhile nameB).length then (⟨0, []⟩, 2) else (⟨1, s.take (s.takeWhile nameB).length⟩, 0)) := hv.trans (next_letr _ h0 h1)
  clear hv
  go_enter Try.func71, Try.ntmps71
  go_wp2_with (go_at_call 88; refine (letter5_any _ _).mono ?_; rintro e w' ⟨rfl, rfl⟩)
  go_loop [4] (fun i => ∃ k : Nat, k ≤ s.length ∧ i = .int .i64 k ∧ Hid ((s.takeWhile nameB).length = k + ((s.drop k).takeWhile nameB).length)) (fun i => s.length - (intOf i).toNat)
  case atStart => exact ⟨0, by omega, rfl, by show _ = _; simp⟩
  case round =>
    obtain ⟨k, hk, rfl, hf⟩ := hrel
    by_cases hgo : ∃ h : k < s.length, nameB s[k] = true
    · obtain ⟨hlt, hp⟩ := hgo
      have hd := tw_step hf.out hlt hp
      have Hd := Lib.hid hd; clear hd hf
      unfold nameB at hp
      by_cases hle : letr s[k].toNat = true
      · clear hp
        go_wp2_with (go_at_call 88; refine (letter5_any _ _).mono ?_; rintro e w' ⟨rfl, rfl⟩)
        go_round
        case rel => exact ⟨k + 1, by omega, by go_num, Hd⟩
        case measure => simp [intOf]; omega
      · have hdi : digt s[k].toNat = true := by simpa [hle] using hp
        clear hp
        go_wp2_with (first | (go_at_call 88; refine (letter5_any _ _).mono ?_; rintro e w' ⟨rfl, rfl⟩) | (go_at_call 89; refine (digit5_any _ _).mono ?_; rintro e w' ⟨rfl, rfl⟩))
        go_round
        case rel => exact ⟨k + 1, by omega, by go_num, Hd⟩
        case measure => simp [intOf]; omega
    · have hm : (s.takeWhile nameB).length = k := by
        by_cases hlt : k < s.length
        · exact tw_stop hf.out hlt (by rw [← Bool.not_eq_true]; exact fun h => hgo ⟨hlt, h⟩)
        · exact tw_end hf.out hlt
      have Hm := Lib.hid hm; clear hm hf
      by_cases hlt : k < s.length
      · have hnp : nameB s[k] = false := by rw [← Bool.not_eq_true]; exact fun h => hgo ⟨hlt, h⟩
        clear hgo
        unfold nameB at hnp
        rw [Bool.or_eq_false_iff] at hnp
        obtain ⟨hn1, hn2⟩ := hnp
        by_cases hbig : 32 < k
        · have hvv : v = (⟨0, []⟩, 2) := by rw [Hv.out, Hm.out, if_pos hbig]
          have Hvv := Lib.hid hvv; clear hvv
          go_wp2_with (first | (go_at_call 88; refine (letter5_any _ _).mono ?_; rintro e w' ⟨rfl, rfl⟩) | (go_at_call 89; refine (digit5_any _ _).mono ?_; rintro e w' ⟨rfl, rfl⟩))
          refine bodyPost_ret (v := TokRes v) ?_ rfl ⟨rfl, boxed⟩
          rw [Hvv.out]
          simp [TokRes, results, Try.results71, go_sem]
        · have hvv : v = (⟨1, s.take k⟩, 0) := by rw [Hv.out, Hm.out, if_neg hbig]
          have Hvv := Lib.hid hvv; clear hvv
          go_wp2_with (first | (go_at_call 88; refine (letter5_any _ _).mono ?_; rintro e w' ⟨rfl, rfl⟩) | (go_at_call 89; refine (digit5_any _ _).mono ?_; rintro e w' ⟨rfl, rfl⟩))
          refine bodyPost_ret (v := TokRes v) ?_ rfl ⟨rfl, boxed⟩
          rw [Hvv.out]
          simp [TokRes, results, Try.results71, go_sem]
      · clear hgo
        by_cases hbig : 32 < k
        · have hvv : v = (⟨0, []⟩, 2) := by rw [Hv.out, Hm.out, if_pos hbig]
          have Hvv := Lib.hid hvv; clear hvv
          go_wp2
          refine bodyPost_ret (v := TokRes v) ?_ rfl ⟨rfl, boxed⟩
          rw [Hvv.out]
          simp [TokRes, results, Try.results71, go_sem]
        · have hvv : v = (⟨1, s.take k⟩, 0) := by rw [Hv.out, Hm.out, if_neg hbig]
          have Hvv := Lib.hid hvv; clear hvv
          go_wp2
          refine bodyPost_ret (v := TokRes v) ?_ rfl ⟨rfl, boxed⟩
          rw [Hvv.out]
          simp [TokRes, results, Try.results71, go_sem]

set_option maxRecDepth 100000 in
set_option maxHeartbeats 2000000 in
theorem next5_digt (s : Bs) (w : World) (h0 : 0 < s.length) (hl : s.length ≤ 9223372036854775807) (h1 : letr s[0].toNat = false) (h2 : digt s[0].toNat = true) :
    Calls Try.prog 71 #[.string ⟨s.toArray⟩] w fun e w' => e = .returned (TokRes (nextOf sym5 s)) ∧ Below w.heap.size w w' := by
  obtain ⟨v, hv⟩ : ∃ v, v = nextOf sym5 s := ⟨_, rfl⟩
  rw [← hv]
  have Hv := Lib.hid (hv.trans (next_digt _ h0 h1 h2))
  clear hv
  go_enter Try.func71, Try.ntmps71
  go_wp2_with (first | (go_at_call 88; refine (letter5_any _ _).mono ?_; rintro e w' ⟨rfl, rfl⟩) | (go_at_call 89; refine (digit5_any _ _).mono ?_; rintro e w' ⟨rfl, rfl⟩))
  go_loop [5] (fun i => ∃ k : Nat, k ≤ s.length ∧ i = .int .i64 k ∧ Hid ((s.takeWhile digB).length = k + ((s.drop k).takeWhile digB).length)) (fun i => s.length - (intOf i).toNat)
  case atStart => exact ⟨0, by omega, rfl, by show _ = _; simp⟩
  case round =>
    obtain ⟨k, hk, rfl, hf⟩ := hrel
    by_cases hgo : ∃ h : k < s.length, digB s[k] = true
    · obtain ⟨hlt, hp⟩ := hgo
      have hd := tw_step hf.out hlt hp
      have Hd := Lib.hid hd; clear hd hf
      unfold digB at hp
      go_wp2_with (go_at_call 89; refine (digit5_any _ _).mono ?_; rintro e w' ⟨rfl, rfl⟩)
      go_round
      case rel => exact ⟨k + 1, by omega, by go_num, Hd⟩
      case measure => simp [intOf]; omega
    · have hm : (s.takeWhile digB).length = k := by
        by_cases hlt : k < s.length
        · exact tw_stop hf.out hlt (by rw [← Bool.not_eq_true]; exact fun h => hgo ⟨hlt, h⟩)
        · exact tw_end hf.out hlt
      have hvv := Hv.out
      simp only [hm] at hvv
      have Hvv := Lib.hid hvv; clear hvv hm hf
      have hnum := number5_any (s.take k) (w.alloc (Obj.cells #[Value.int IntKind.i64 0, Value.string { data := #[] }] 54)) (by rw [List.length_take]; omega)
      rw [number_eq] at hnum
      have Hnum := Lib.hid hnum; clear hnum
      generalize hq : number (s.take k) = q at *
      obtain ⟨q1, q2⟩ := q
      clear hq
      have hq2 : ((q2 != 0) = true) = (q2 ≠ 0) := by simp
      by_cases he : q2 = 0
      · subst he
        by_cases hlt : k < s.length
        · have hnp : digt s[k].toNat = false := by rw [← Bool.not_eq_true]; exact fun h => hgo ⟨hlt, h⟩
          clear hgo hq2
          by_cases hle : letr s[k].toNat = true
          · have hv3 : v = (⟨0, []⟩, 4) := by rw [Hvv.out]; simp [hlt, hle]
            have Hv3 := Lib.hid hv3; clear hv3 Hvv; have Hvv := Hv3; clear Hv3 Hv
            go_wp2_with (first | (go_at_call 88; refine (letter5_any _ _).mono ?_; rintro e w' ⟨rfl, rfl⟩) | (go_at_call 89; refine (digit5_any _ _).mono ?_; rintro e w' ⟨rfl, rfl⟩) | (go_at_call 79; refine Hnum.out.mono ?_; rintro e w' ⟨rfl, rfl⟩))
            refine bodyPost_ret (v := TokRes v) ?_ rfl ⟨rfl, boxed⟩
            rw [Hvv.out]
            simp [TokRes, results, Try.results71, go_sem]
          · have hv3 : v = (⟨2, s.take k⟩, 0) := by rw [Hvv.out]; simp [hlt, hle]
            have Hv3 := Lib.hid hv3; clear hv3 Hvv; have Hvv := Hv3; clear Hv3 Hv
            go_wp2_with (first | (go_at_call 88; refine (letter5_any _ _).mono ?_; rintro e w' ⟨rfl, rfl⟩) | (go_at_call 89; refine (digit5_any _ _).mono ?_; rintro e w' ⟨rfl, rfl⟩) | (go_at_call 79; refine Hnum.out.mono ?_; rintro e w' ⟨rfl, rfl⟩))
            refine bodyPost_ret (v := TokRes v) ?_ rfl ⟨rfl, boxed⟩
            rw [Hvv.out]
            simp [TokRes, results, Try.results71, go_sem]
        · clear hgo hq2
          have hv3 : v = (⟨2, s.take k⟩, 0) := by rw [Hvv.out]; simp [hlt]
          have Hv3 := Lib.hid hv3; clear hv3 Hvv; have Hvv := Hv3; clear Hv3 Hv
          go_wp2_with (first | (go_at_call 88; refine (letter5_any _ _).mono ?_; rintro e w' ⟨rfl, rfl⟩) | (go_at_call 89; refine (digit5_any _ _).mono ?_; rintro e w' ⟨rfl, rfl⟩) | (go_at_call 79; refine Hnum.out.mono ?_; rintro e w' ⟨rfl, rfl⟩))
          refine bodyPost_ret (v := TokRes v) ?_ rfl ⟨rfl, boxed⟩
          rw [Hvv.out]
          simp [TokRes, results, Try.results71, go_sem]
      · have hne : (q2 != 0) = true := by rw [hq2]; exact he
        clear hq2
        by_cases hlt : k < s.length
        · have hnp : digt s[k].toNat = false := by rw [← Bool.not_eq_true]; exact fun h => hgo ⟨hlt, h⟩
          clear hgo
          have hv3 : v = (⟨0, []⟩, q2) := by rw [Hvv.out]; simp [he]
          have Hv3 := Lib.hid hv3; clear hv3 Hvv; have Hvv := Hv3; clear Hv3 Hv
          go_wp2_with (first | (go_at_call 88; refine (letter5_any _ _).mono ?_; rintro e w' ⟨rfl, rfl⟩) | (go_at_call 89; refine (digit5_any _ _).mono ?_; rintro e w' ⟨rfl, rfl⟩) | (go_at_call 79; refine Hnum.out.mono ?_; rintro e w' ⟨rfl, rfl⟩))
          refine bodyPost_ret (v := TokRes v) ?_ rfl ⟨rfl, boxed⟩
          rw [Hvv.out]
          simp [TokRes, results, Try.results71, go_sem]
        · clear hgo
          have hv3 : v = (⟨0, []⟩, q2) := by rw [Hvv.out]; simp [he]
          have Hv3 := Lib.hid hv3; clear hv3 Hvv; have Hvv := Hv3; clear Hv3 Hv
          go_wp2_with (first | (go_at_call 88; refine (letter5_any _ _).mono ?_; rintro e w' ⟨rfl, rfl⟩) | (go_at_call 89; refine (digit5_any _ _).mono ?_; rintro e w' ⟨rfl, rfl⟩) | (go_at_call 79; refine Hnum.out.mono ?_; rintro e w' ⟨rfl, rfl⟩))
          refine bodyPost_ret (v := TokRes v) ?_ rfl ⟨rfl, boxed⟩
          rw [Hvv.out]
          simp [TokRes, results, Try.results71, go_sem]

def symRes : Option Bs → Tok × Int
  | some x => (⟨3, x⟩, 0)
  | none => (⟨0, []⟩, 4)
theorem find_mem {α : Type} {l : List α} {p : α → Bool} {x : α} (h : l.find? p = some x) : x ∈ l := List.mem_of_find?_eq_some h
theorem symRes_eq (s : Bs) : (if (sym5 s).isEmpty then ((⟨0, []⟩, 4) : Tok × Int) else (⟨3, sym5 s⟩, 0)) = symRes (syms.find? (fun x => x.isPrefixOf s)) := by
  unfold sym5
  cases h : syms.find? (fun x => x.isPrefixOf s) with
  | none => rfl
  | some x =>
    have hm := find_mem h
    have : ∀ y ∈ syms, y.isEmpty = false := by decide
    simp [this x hm, symRes]
theorem isPrefixOf_take (x s : Bs) : x.isPrefixOf s = (decide (x.length ≤ s.length) && (s.take x.length == x)) := by
  rw [Bool.eq_iff_iff]
  simp only [List.isPrefixOf_iff_prefix, Bool.and_eq_true, decide_eq_true_eq, beq_iff_eq]
  constructor
  · intro h; exact ⟨h.length_le, List.prefix_iff_eq_take.1 h |>.symm⟩
  · intro h; rw [← h.2]; exact List.take_prefix _ _

set_option maxRecDepth 100000 in
set_option maxHeartbeats 2000000 in
theorem next5_symb (s : Bs) (w : World) (h0 : 0 < s.length) (hl : s.length ≤ 9223372036854775807) (h1 : letr s[0].toNat = false) (h2 : digt s[0].toNat = false) :
    Calls Try.prog 71 #[.string ⟨s.toArray⟩] w fun e w' => e = .returned (TokRes (nextOf sym5 s)) ∧ Below w.heap.size w w' := by
  obtain ⟨v, hv⟩ : ∃ v, v = nextOf sym5 s := ⟨_, rfl⟩
  rw [← hv]
  have Hv : Hid (v = symRes ((syms.drop 0).find? (fun x => x.isPrefixOf s))) := by show v = _; rw [hv, next_symb _ h0 h1 h2, symRes_eq]; rfl
  clear hv
  go_enter Try.func71, Try.ntmps71
  go_wp2_with (first | (go_at_call 88; refine (letter5_any _ _).mono ?_; rintro e w' ⟨rfl, rfl⟩) | (go_at_call 89; refine (digit5_any _ _).mono ?_; rintro e w' ⟨rfl, rfl⟩))
  refine (symbols5_any _).mono ?_
  rintro e w1 ⟨A, n, c, rfl, hs, hb⟩
  have hc0 := keptCell hb (heap_alloc_new w _) 0
  have hc1 := keptCell hb (heap_alloc_new w _) 1
  have hz0 := keptFrozen hb (heap_alloc_new w _) 0
  have hz1 := keptFrozen hb (heap_alloc_new w _) 1
  simp only [List.getElem?_toArray, List.getElem?_cons_succ, List.getElem?_cons_zero] at hc0 hc1
  obtain rfl : n = 24 := hs.len
  have HS := Lib.hid hs; clear hs
  have hb2 : Below w.heap.size w w1 := next boxed hb (Nat.le_refl _)
  have HB := Lib.hid hb2; clear hb2 hb
  go_wp2
  go_loop [81] (fun i => ∃ k : Nat, k ≤ 24 ∧ i = .int .i64 k ∧ Hid (v = symRes ((syms.drop k).find? (fun x => x.isPrefixOf s)))) (fun i => 24 - (intOf i).toNat)
  case atStart => exact ⟨0, by omega, rfl, Hv⟩
  case round =>
    obtain ⟨k, hk, rfl, hf⟩ := hrel
    by_cases hlt : k < 24
    · have hlt' : k < syms.length := hlt
      obtain ⟨b, o, rfl, -, hbs, hx⟩ := HS.out.str hlt'
      have hd : Hid (v = if syms[k].isPrefixOf s then (⟨3, syms[k]⟩, 0) else symRes ((syms.drop (k + 1)).find? (fun x => x.isPrefixOf s))) := by
        show v = _
        rw [hf.out, drop_get hlt', List.find?_cons]
        cases h : syms[k].isPrefixOf s <;> rfl
      have hxl : syms[k].length ≤ 2 := by
        have : ∀ y ∈ syms, y.length ≤ 2 := by decide
        exact this _ (List.getElem_mem _)
      clear hf
      rw [isPrefixOf_take] at hd
      generalize syms[k] = x at *
      by_cases hlen : x.length ≤ s.length
      · by_cases heq : (s.take x.length == x) = true
        · have hvv : v = (⟨3, x⟩, 0) := by rw [hd.out, decide_eq_true hlen, heq]; rfl
          have Hvv := Lib.hid hvv; clear hvv hd
          go_wp2
          refine bodyPost_ret (v := TokRes v) ?_ rfl ⟨rfl, ?_⟩
          · rw [Hvv.out]
            simp [TokRes, results, Try.results71, go_sem, hc0, hc1]
          · exact ((HB.out.setCell (p := ⟨w.heap.size, 0, none⟩) (Nat.le_refl _) _).setCell (p := ⟨w.heap.size, 1, none⟩) (Nat.le_refl _) _)
        · have heq' : (s.take x.length == x) = false := by simpa using heq
          have hd2 : Hid (v = symRes ((syms.drop (k + 1)).find? (fun x => x.isPrefixOf s))) := by show v = _; rw [hd.out, heq']; simp
          clear hd heq
          go_wp2
          go_round
          case rel => exact ⟨k + 1, by omega, by go_num, hd2⟩
          case measure => simp [intOf]; omega
      · have hd2 : Hid (v = symRes ((syms.drop (k + 1)).find? (fun x => x.isPrefixOf s))) := by show v = _; rw [hd.out, decide_eq_false hlen]; simp
        clear hd
        go_wp2
        go_round
        case rel => exact ⟨k + 1, by omega, by go_num, hd2⟩
        case measure => simp [intOf]; omega
    · obtain rfl : k = 24 := by omega
      have hvv : v = (⟨0, []⟩, 4) := by rw [hf.out]; rfl
      have Hvv := Lib.hid hvv; clear hvv hf
      go_wp2
      refine bodyPost_ret (v := TokRes v) ?_ rfl ⟨rfl, ?_⟩
      · rw [Hvv.out]
        simp [TokRes, results, Try.results71, go_sem, hc0, hc1]
      · exact ((HB.out.setCell (p := ⟨w.heap.size, 0, none⟩) (Nat.le_refl _) _).setCell (p := ⟨w.heap.size, 1, none⟩) (Nat.le_refl _) _)

theorem next5_any (s : Bs) (w : World) (h0 : 0 < s.length) (hl : s.length ≤ 9223372036854775807) :
    Calls Try.prog 71 #[.string ⟨s.toArray⟩] w fun e w' => e = .returned (TokRes (nextOf sym5 s)) ∧ Below w.heap.size w w' := by
  cases h1 : letr s[0].toNat
  · cases h2 : digt s[0].toNat
    · exact next5_symb s w h0 hl h1 h2
    · exact next5_digt s w h0 hl h1 h2
  · exact next5_letr s w h0 hl h1
end Go.Proofs.Ytchdpjgncojhaaa
