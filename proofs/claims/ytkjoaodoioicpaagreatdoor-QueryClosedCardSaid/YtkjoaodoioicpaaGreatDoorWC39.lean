/- Query (package licitlaw54): a part of the proofs of its laws; see the law's own text, which comes last in 'order'. No conditions of its own. -/
import Derived.Test.YtkjoaodoioicpaaGreatDoorWC03
import Derived.Test.YtkjoaodoioicpaaGreatDoorWC04
import Derived.Test.YtkjoaodoioicpaaGreatDoorWC07
import Derived.Test.YtkjoaodoioicpaaGreatDoorWC09
import Derived.Test.YtkjoaodoioicpaaGreatDoorWC37
import Derived.Test.YtkjoaodoioicpaaGreatDoorWC38
set_option linter.unusedVariables false
set_option linter.unusedSimpArgs false
namespace Go.Proofs.YtkjoaodoioicpaaGreatDoor
open Go.RowKit
theorem sym_one (x : UInt8) : (if [40, 41, 44, 46, 61, 60].contains x = true then 1 else 0 : Nat) = if (x.toNat : Int) = 40 ∨ (x.toNat : Int) = 41 ∨ (x.toNat : Int) = 44 ∨ (x.toNat : Int) = 46 ∨ (x.toNat : Int) = 61 ∨ (x.toNat : Int) = 60 then 1 else 0 := by
  have e : ∀ n : UInt8, x = n ↔ x.toNat = n.toNat := fun n => UInt8.toNat_inj.symm
  congr 1
  simp [e]
  omega
theorem symR_one (x : UInt8) : symR [x] = if (x.toNat : Int) = 40 ∨ (x.toNat : Int) = 41 ∨ (x.toNat : Int) = 44 ∨ (x.toNat : Int) = 46 ∨ (x.toNat : Int) = 61 ∨ (x.toNat : Int) = 60 then 1 else 0 := by
  rw [← sym_one]; rfl
theorem symR_two (x y : UInt8) (r : Bs) : symR (x :: y :: r) = if ((x == 58 && y == 45) || (x == 33 && y == 61)) || (x == 60 && y == 61) then 2 else if (x.toNat : Int) = 40 ∨ (x.toNat : Int) = 41 ∨ (x.toNat : Int) = 44 ∨ (x.toNat : Int) = 46 ∨ (x.toNat : Int) = 61 ∨ (x.toNat : Int) = 60 then 1 else 0 := by
  rw [← sym_one]
  unfold symR
  simp
set_option maxRecDepth 100000 in
set_option maxHeartbeats 4000000 in
theorem rsymbol_any (x : UInt8) (r : Bs) (w : World) (hl : (x :: r).length ≤ 4294967000) :
    Calls Tryz.prog 68 #[.string ⟨(x :: r).toArray⟩] w fun e w' => e = .returned (.int .i64 (symR (x :: r) : Nat)) ∧ w = w' := by
  obtain ⟨v, hv⟩ : ∃ v : Nat, v = symR (x :: r) := ⟨_, rfl⟩
  rw [← hv]
  cases r with
  | nil =>
    rw [symR_one] at hv
    have Hv := Lib.hid hv; clear hv
    go_enter Tryz.func68, Tryz.ntmps68
    go_wp2
    all_goals go_ret
    all_goals (have hv := Hv.out; clear Hv; simp_all [go_sem]; done)
  | cons y r =>
    simp only [List.length_cons] at hl
    rw [symR_two] at hv
    have Hv := Lib.hid hv; clear hv
    rcases h1 : (x == 58 && y == 45) with _ | _ <;> rcases h2 : (x == 33 && y == 61) with _ | _ <;> rcases h3 : (x == 60 && y == 61) with _ | _
    all_goals
      have hv := Hv.out
      rw [h1, h2, h3] at hv
      simp only [Bool.or_false, Bool.or_true, Bool.false_or, Bool.true_or, Bool.false_eq_true, if_true, if_false] at hv
      have Hw := Lib.hid hv; clear hv Hv
      go_enter Tryz.func68, Tryz.ntmps68
      go_wp2
      all_goals go_ret
      all_goals (have hv := Hw.out; clear Hw; simp_all [go_sem]; done)
end Go.Proofs.YtkjoaodoioicpaaGreatDoor
namespace Go.Proofs.YtkjoaodoioicpaaGreatDoor
open Go.RowKit
theorem tkOk_other {k : Nat} {s : Bs} (hk : k ≤ 255) (hn : k ≠ 110) (hs : s.length ≤ 4294967000) : TkOk ⟨k, s⟩ := ⟨hk, hs, fun e => absurd e hn⟩
theorem allDig_take (s : Bs) : allDig (s.take (spanS digB s)) := by
  rw [take_span]
  intro x hx
  exact List.all_eq_true.1 (List.all_takeWhile (p := digB) (l := s)) x hx
theorem tkOk_num {c : UInt8} {r : Bs} (h : (digB c || (c == 45 && digB (r.headD 0))) = true) (hs : (c :: r).length ≤ 4294967000) : TkOk ⟨110, c :: r.take (spanS digB r)⟩ := by
  refine ⟨(show (110 : Nat) ≤ 255 by decide), by simp only [List.length_cons, List.length_take] at hs ⊢; omega, fun _ => ?_⟩
  cases hd : digB c
  · simp only [hd, Bool.false_or, Bool.and_eq_true, beq_iff_eq] at h
    obtain ⟨rfl, h⟩ := h
    refine ⟨true, r.take (spanS digB r), rfl, allDig_take r, ?_⟩
    rw [take_span]
    cases r with
    | nil => exact absurd h (by decide)
    | cons d r => rw [List.takeWhile_cons]; simp only [List.headD_cons] at h; rw [if_pos h]; exact List.cons_ne_nil _ _
  · refine ⟨false, c :: r.take (spanS digB r), rfl, ?_, List.cons_ne_nil _ _⟩
    intro x hx
    rcases List.mem_cons.1 hx with rfl | hx
    · exact hd
    · exact allDig_take r x hx
theorem app_ok {out : List RTk} {t : RTk} (ho : ∀ t ∈ out, TkOk t) (h : TkOk t) : ∀ u ∈ out ++ [t], TkOk u := by
  intro u hu
  rcases List.mem_append.1 hu with hu | hu
  · exact ho u hu
  · rcases List.mem_singleton.1 hu with rfl; exact h
theorem rtok_ok : ∀ (f : Nat) (s : Bs) (out : List RTk), s.length ≤ 4294967000 → (∀ t ∈ out, TkOk t) → (∀ t ∈ (rtok f s out).1, TkOk t) ∧ (rtok f s out).1.length ≤ s.length + out.length := by
  intro f
  induction f with
  | zero => intro s out _ ho; exact ⟨ho, by show out.length ≤ _; omega⟩
  | succ f ih =>
    intro s out hs ho
    cases s with
    | nil => exact ⟨ho, by show out.length ≤ _; omega⟩
    | cons c r =>
      simp only [rtok]
      simp only [List.length_cons] at hs
      have key : ∀ (s' : Bs) (t : RTk), s'.length ≤ r.length → TkOk t → (∀ t' ∈ (rtok f s' (out ++ [t])).1, TkOk t') ∧ (rtok f s' (out ++ [t])).1.length ≤ (c :: r).length + out.length := by
        intro s' t hl ht
        have h := ih s' (out ++ [t]) (by omega) (app_ok ho ht)
        refine ⟨h.1, Nat.le_trans h.2 ?_⟩
        simp only [List.length_append, List.length_cons, List.length_nil]
        omega
      have hn : (∀ t ∈ (([], false) : List RTk × Bool).1, TkOk t) ∧ (([], false) : List RTk × Bool).1.length ≤ (c :: r).length + out.length := ⟨fun t h => absurd h List.not_mem_nil, Nat.zero_le _⟩
      split
      · have h := ih r out (by omega) ho
        exact ⟨h.1, Nat.le_trans h.2 (by simp only [List.length_cons]; omega)⟩
      · split
        · exact key _ _ (by simp) (tkOk_other (by decide) (by decide) (by simp only [List.length_cons, List.length_take]; omega))
        · split
          · rename_i hd
            exact key _ _ (by simp) (tkOk_num hd (by simp only [List.length_cons]; omega))
          · split
            · split
              · exact hn
              · exact key _ _ (by simp) (tkOk_other (by decide) (by decide) (by simp only [List.length_take]; omega))
            · split
              · exact hn
              · exact key _ _ (by simp only [List.length_drop, List.length_cons]; omega) (tkOk_other (by decide) (by decide) (by simp only [List.length_cons, List.length_take]; omega))
end Go.Proofs.YtkjoaodoioicpaaGreatDoor
namespace Go.Proofs.YtkjoaodoioicpaaGreatDoor
open Go.RowKit
theorem comm_drop {s : Bs} {k : Nat} (h : k < s.length) : commS (s.drop k) = if s[k] == 32 then commS (s.drop (k + 1)) else s[k] == 37 := by
  rw [drop_get h, commS]
theorem u8_beq (x n : UInt8) : (x == n) = ((x.toNat : Int) == (n.toNat : Int)) := by
  rw [Bool.eq_iff_iff, beq_iff_eq, beq_iff_eq, ← UInt8.toNat_inj]
  omega
set_option maxHeartbeats 1000000 in
theorem rcomment_any (s : Bs) (w : World) (hl : s.length ≤ 4294967000) :
    Calls Tryz.prog 32 #[.string ⟨s.toArray⟩] w fun e w' => e = .returned (.bool (commS s)) ∧ w = w' := by
  obtain ⟨v, hv⟩ : ∃ v, v = commS s := ⟨_, rfl⟩
  rw [← hv]
  have Hv : Hid (v = commS (s.drop 0)) := hv
  clear hv
  go_enter Tryz.func32, Tryz.ntmps32
  go_wp2_with fail
  go_loop [3] (fun i => ∃ k : Nat, k ≤ s.length ∧ i = .int .i64 k ∧ Hid (v = commS (s.drop k))) (fun i => s.length - (intOf i).toNat)
  case atStart => exact ⟨0, by omega, rfl, Hv⟩
  case round =>
    obtain ⟨k, hk, rfl, hf⟩ := hrel
    by_cases hlt : k < s.length
    · have hd := hf.out
      rw [comm_drop hlt, u8_beq, u8_beq] at hd
      have e32 : ((32 : UInt8).toNat : Int) = 32 := rfl
      have e37 : ((37 : UInt8).toNat : Int) = 37 := rfl
      rw [e32, e37] at hd
      clear e32 e37
      cases h32 : ((s[k].toNat : Int) == 32)
      · have HD : Hid (v = ((s[k].toNat : Int) == 37)) := Lib.hid (by rw [hd, h32]; rfl)
        have h32n : ((s[k].toNat : Int) != 32) = true := by rw [bne, h32]; rfl
        clear hd hf
        go_wp2_with fail
        all_goals go_ret
        all_goals exact ⟨by rw [HD.out]; rfl, rfl⟩
      · have HD : Hid (v = commS (s.drop (k + 1))) := Lib.hid (by rw [hd, h32]; rfl)
        have h32n : ((s[k].toNat : Int) != 32) = false := by rw [bne, h32]; rfl
        clear hd hf
        go_wp2_with fail
        go_round
        case rel => exact ⟨k + 1, by omega, by go_num, HD.out⟩
        case measure => simp [intOf]; omega
    · have hd := hf.out
      rw [drop_end hlt] at hd
      have HD : Hid (v = true) := hd
      clear hd hf
      go_wp2_with fail
      all_goals go_ret
      all_goals exact ⟨by rw [HD.out]; rfl, rfl⟩
end Go.Proofs.YtkjoaodoioicpaaGreatDoor
namespace Go.Proofs.YtkjoaodoioicpaaGreatDoor
open Go.RowKit
set_option maxRecDepth 100000 in
set_option maxHeartbeats 4000000 in
theorem rsplit_any (s : Bs) (w : World) (hl : s.length ≤ 4294967000) :
    Calls Tryz.prog 31 #[.string ⟨s.toArray⟩] w fun e w' => ∃ A c, e = .returned (.slice A (rsplit [] s).length c) ∧ Sl w' (fun b => w.heap.size ≤ b) A (rsplit [] s).length c (rsplit [] s) ∧ Below w.heap.size w w' := by
  obtain ⟨V, hV⟩ : ∃ V, V = rsplit [] s := ⟨_, rfl⟩
  rw [← hV]
  have HV : Hid (V = [] ++ rsplit ((s.take 0).drop 0) (s.drop 0)) := Lib.hid (by simpa using hV)
  clear hV
  go_enter Tryz.func31, Tryz.ntmps31
  go_wp2_with fail
  have hown0 : Own w (fun _ => False) w.heap.size 9 none 0 ([] : List Bs) := Own.nil _ _ _ _
  go_loopw [3, 4, 5] (fun o a i wx => ∃ ja k : Nat, ja ≤ k ∧ k ≤ s.length ∧ a = .int .i64 ja ∧ i = .int .i64 k ∧ ∃ (out : List Bs) (A : Option Addr) (c : Nat), o = .slice A out.length c ∧ Own wx (fun _ => False) w.heap.size 9 A c out ∧ Below w.heap.size w wx ∧ out.length ≤ k ∧ Hid (V = out ++ rsplit ((s.take k).drop ja) (s.drop k))) (fun _ _ i _ => s.length - (intOf i).toNat)
  case atStart => exact ⟨0, 0, by omega, by omega, rfl, rfl, [], none, 0, rfl, hown0, Below.refl _ _, by simp, HV⟩
  case round =>
    obtain ⟨ja, k, hjk, hk, rfl, rfl, out, A, c, rfl, hown, hb, hol, hf⟩ := hrel
    have hsz := hb.size
    have HO := Lib.hid hown; have HB := Lib.hid hb; clear hown hb
    by_cases hlt : k < s.length
    · have hd := hf.out
      rw [drop_get hlt, rsplit, u8_beq] at hd
      have e10 : ((10 : UInt8).toNat : Int) = 10 := rfl
      rw [e10] at hd
      clear e10 hf
      cases h10 : ((s[k].toNat : Int) == 10)
      · rw [h10] at hd
        have HD : Hid (V = out ++ rsplit ((s.take (k + 1)).drop ja) (s.drop (k + 1))) := Lib.hid (by
          rw [hd, if_neg (by decide)]
          congr 2
          rw [List.take_add_one, List.getElem?_eq_getElem hlt, List.drop_append_of_le_length (by simp only [List.length_take]; omega)]; rfl)
        clear hd
        go_wp2_with fail
        go_round
        case rel => exact ⟨ja, k + 1, by omega, by omega, rfl, by go_num, out, A, c, rfl, HO.out, HB.out, by omega, HD⟩
        case measure => simp [intOf]; omega
      · rw [h10] at hd
        have HD : Hid (V = (out ++ [(s.take k).drop ja]) ++ rsplit ((s.take (k + 1)).drop (k + 1)) (s.drop (k + 1))) := Lib.hid (by
          rw [hd, if_pos rfl, List.drop_of_length_le (show (s.take (k + 1)).length ≤ k + 1 by simp only [List.length_take]; omega)]; simp)
        clear hd
        go_wp2_with (first | (at_builtin; go_loud (refine wpList_app1 rfl _ _ eltStr rfl (by decide) rfl rfl rfl (HO.out.alloc _) rfl [.string ⟨((s.take k).drop ja).toArray⟩] ((s.take k).drop ja) (blkAt _ _ (by simp)) rfl rfl (by omega) (by omega) (by simp; omega) ?_); intro A' c' w3 hown' hg hat))
        have hsz3 := hg.size
        simp at hsz3
        go_round
        case rel => exact ⟨k + 1, k + 1, by omega, by omega, by go_num, by go_num, out ++ [(s.take k).drop ja], A', c', by simp, hown', (HB.out.alloc (by omega) _).grown hg (by simp; omega) (fun k hk => (HO.out.lt k hk).1), by simp; omega, HD⟩
        case measure => simp [intOf]; omega
    · have hkl : k = s.length := by omega
      subst hkl
      have hd := hf.out
      rw [List.drop_length, rsplit, List.take_length] at hd
      clear hf
      by_cases hja : ja < s.length
      · have hne : (s.drop ja).isEmpty = false := by rw [drop_get hja]; rfl
        rw [hne, if_neg (by decide)] at hd
        have HD := Lib.hid hd; clear hd hne
        go_wp2_with (first | (at_builtin; go_loud (refine wpList_app1 rfl _ _ eltStr rfl (by decide) rfl rfl rfl (HO.out.alloc _) rfl [.string ⟨(s.drop ja).toArray⟩] (s.drop ja) (blkAt _ _ (by simp)) rfl rfl (by omega) (by omega) (by simp; omega) ?_); intro A' c' w3 hown' hg hat))
        have hsz3 := hg.size
        simp at hsz3
        go_ret
        have hb' := (HB.out.alloc (by omega) _).grown hg (by simp; omega) (fun k hk => (HO.out.lt k hk).1)
        rw [HD.out]
        exact ⟨A', c', by simp [go_sem], (hown'.sl (by decide)).wide (fun k _ hk => hk.elim False.elim (fun hk => (hown'.lt k hk).1)) (by decide), hb'⟩
      · have hne : (s.drop ja).isEmpty = true := by rw [List.drop_of_length_le (by omega)]; rfl
        rw [hne, if_pos rfl, List.append_nil] at hd
        have HD := Lib.hid hd; clear hd hne
        go_wp2_with fail
        go_ret
        rw [HD.out]
        exact ⟨A, c, rfl, (HO.out.sl (by decide)).wide (fun k _ hk => hk.elim False.elim (fun hk => (HO.out.lt k hk).1)) (by decide), HB.out⟩
end Go.Proofs.YtkjoaodoioicpaaGreatDoor
namespace Go.Proofs.YtkjoaodoioicpaaGreatDoor
open Go.RowKit
theorem cut_at {s : Bs} {k n : Nat} (h : k < s.length) : s[k] :: (s.drop (k + 1)).take n = (s.take (k + 1 + n)).drop k := by
  rw [List.drop_take, drop_get h, show k + 1 + n - k = n + 1 by omega, List.take_succ_cons]
theorem rtok_at {s : Bs} {k : Nat} (f : Nat) (out : List RTk) (h : k < s.length) : rtok (f + 1) (s.drop k) out =
    if s[k] == 32 then rtok f (s.drop (k + 1)) out
    else if lowB s[k] || uppB s[k] then rtok f (s.drop (k + 1 + spanS varB (s.drop (k + 1)))) (out ++ [⟨119, (s.take (k + 1 + spanS varB (s.drop (k + 1)))).drop k⟩])
    else if digB s[k] || (s[k] == 45 && digB ((s.drop (k + 1)).headD 0)) then rtok f (s.drop (k + 1 + spanS digB (s.drop (k + 1)))) (out ++ [⟨110, (s.take (k + 1 + spanS digB (s.drop (k + 1)))).drop k⟩])
    else if s[k] == 34 then (if spanS (fun c => c != 34) (s.drop (k + 1)) = (s.drop (k + 1)).length then ([], false) else rtok f (s.drop (k + 1 + spanS (fun c => c != 34) (s.drop (k + 1)) + 1)) (out ++ [⟨116, (s.take (k + 1 + spanS (fun c => c != 34) (s.drop (k + 1)))).drop (k + 1)⟩]))
    else if symR (s.drop k) = 0 then ([], false) else rtok f (s.drop (k + symR (s.drop k))) (out ++ [⟨115, (s.take (k + symR (s.drop k))).drop k⟩]) := by
  rw [← cut_at h, ← cut_at h]
  rw [show (s.take (k + 1 + spanS (fun c => c != 34) (s.drop (k + 1)))).drop (k + 1) = (s.drop (k + 1)).take (spanS (fun c => c != 34) (s.drop (k + 1))) by rw [List.drop_take, Nat.add_sub_cancel_left]]
  rw [show (s.take (k + symR (s.drop k))).drop k = (s.drop k).take (symR (s.drop k)) by rw [List.drop_take, Nat.add_sub_cancel_left]]
  have d1 : ∀ n, s.drop (k + 1 + n) = (s.drop (k + 1)).drop n := fun n => by rw [List.drop_drop]
  have d2 : ∀ n, s.drop (k + 1 + n + 1) = (s.drop (k + 1)).drop (n + 1) := fun n => by rw [List.drop_drop]; rfl
  have d3 : ∀ n, s.drop (k + n) = (s.drop k).drop n := fun n => by rw [List.drop_drop]
  rw [d3 (symR (s.drop k)), d2, d1, d1]
  have e := drop_get h
  generalize s[k] = c at *
  generalize s.drop (k + 1) = r at *
  rw [e]
  rfl
end Go.Proofs.YtkjoaodoioicpaaGreatDoor
namespace Go.Proofs.YtkjoaodoioicpaaGreatDoor
open Go.RowKit
theorem span_drop (p : UInt8 → Bool) (s : Bs) {k : Nat} (h : k < s.length) : spanS p (s.drop k) = if p s[k] then 1 + spanS p (s.drop (k + 1)) else 0 := by
  unfold spanS
  rw [drop_get h, List.takeWhile_cons]
  split
  · rw [List.length_cons]; omega
  · rfl
end Go.Proofs.YtkjoaodoioicpaaGreatDoor
namespace Go.Proofs.YtkjoaodoioicpaaGreatDoor
open Go.RowKit
end Go.Proofs.YtkjoaodoioicpaaGreatDoor
namespace Go.Proofs.YtkjoaodoioicpaaGreatDoor
open Go.RowKit
def PaPost (w : World) (r : List Rul × Int × Int) (e : Ending) (w' : World) : Prop :=
  ∃ A c, e = .returned (.tuple #[.slice A r.1.length c, .int .i64 r.2.1, .int .i64 r.2.2]) ∧ Sl w' (fun b => w.heap.size ≤ b) A r.1.length c r.1 ∧ Below w.heap.size w w' ∧ ∀ x ∈ r.1, OkR x
end Go.Proofs.YtkjoaodoioicpaaGreatDoor
