/- Rules: slices.Contains at strings. -/
import Derived.Test.YtjopmgoacncmgaaGreatDoorK4
set_option linter.unusedVariables false
set_option linter.unusedSimpArgs false
namespace Go.Proofs.YtjopmgoacncmgaaGreatDoor
open Go.RowKit

def idxGo : List Bs → Bs → Int → Int
  | [], _, _ => -1
  | a :: r, x, k => if x == a then k else idxGo r x (k + 1)
theorem idxGo_pos (l : List Bs) (x : Bs) (k : Int) (hk : 0 ≤ k) : (0 ≤ idxGo l x k) ↔ l.contains x = true := by
  induction l generalizing k with
  | nil => simp [idxGo]
  | cons a r ih =>
    rw [idxGo, List.contains_cons]
    by_cases h : (x == a) = true
    · simp [h, hk]
    · rw [Bool.not_eq_true] at h
      rw [h, Bool.false_or, ← ih (k + 1) (by omega)]
      rfl

set_option maxHeartbeats 400000 in
theorem index_any (A : Option Addr) (n c : Nat) (w : World) (S : Nat → Prop) (l : List Bs) (x : Bs) (hl : Sl w S A n c l) :
    Calls Tryz.prog 114 #[.slice A n c, .string ⟨x.toArray⟩] w fun e w' => e = .returned (.int .i64 (idxGo l x 0)) ∧ w = w' := by
  have hn := hl.le
  have hlen := hl.len
  subst hlen
  have HL := Lib.hid hl; clear hl
  obtain ⟨v, hv⟩ : ∃ v, v = idxGo l x 0 := ⟨_, rfl⟩
  rw [← hv]
  have Hf : Hid (v = idxGo (l.drop 0) x 0) := hv
  clear hv
  go_enter Tryz.func114, Tryz.ntmps114
  go_wp2
  go_loop [8] (fun i => ∃ k : Nat, k ≤ l.length ∧ i = .int .i64 k ∧ Hid (v = idxGo (l.drop k) x k)) (fun i => l.length - (intOf i).toNat)
  case atStart => exact ⟨0, by omega, rfl, Hf⟩
  case round =>
    obtain ⟨k, hk, rfl, hf⟩ := hrel
    by_cases hlt : k < l.length
    · obtain ⟨b, o, rfl, -, hbs, h1⟩ := HL.out.str hlt
      have hd := hf.out
      rw [drop_get hlt, idxGo] at hd
      have Hd := Lib.hid hd; clear hd hf
      go_wp2
      · have hx : (x == l[k]) = true := by assumption
        go_ret
        exact ⟨ret_int (by rw [Hd.out, if_pos hx]), rfl⟩
      · have hx : (x == l[k]) = false := by assumption
        go_round
        case rel => exact ⟨k + 1, by omega, by go_num, by show v = _; rw [Hd.out, if_neg (by rw [hx]; simp)]; rfl⟩
        case measure => simp [intOf]; omega
    · have hd : v = -1 := by rw [hf.out, drop_end hlt]; rfl
      have Hd := Lib.hid hd; clear hd hf
      go_wp2
      go_ret
      exact ⟨ret_int Hd.out, rfl⟩

theorem contains_any (A : Option Addr) (n c : Nat) (w : World) (S : Nat → Prop) (l : List Bs) (x : Bs) (hl : Sl w S A n c l) :
    Calls Tryz.prog 66 #[.slice A n c, .string ⟨x.toArray⟩] w fun e w' => e = .returned (.bool (l.contains x)) ∧ w = w' := by
  have hi := index_any A n c w S l x hl
  have hp := idxGo_pos l x 0 (Int.le_refl 0)
  generalize idxGo l x 0 = i at *
  generalize l.contains x = b at *
  have Hi := Lib.hid hi; clear hi
  clear hl
  have Hp := Lib.hid hp; clear hp
  go_enter Tryz.func66, Tryz.ntmps66
  go_wp2_with (go_at_call 114; refine Hi.out.mono ?_; rintro e w' ⟨rfl, rfl⟩)
  go_ret
  refine ⟨ret_bool ?_, rfl⟩
  rw [Bool.eq_iff_iff, ← Hp.out]
  simp

end Go.Proofs.YtjopmgoacncmgaaGreatDoor
