/- Rules: the walks of the small functions on letters: lower, upper, digit, each, predicate, variable, constant. -/
import Derived.Test.YtjopmgoacncmgaaGreatDoorKSpec
set_option linter.unusedVariables false
set_option linter.unusedSimpArgs false
namespace Go.Proofs.YtjopmgoacncmgaaGreatDoor
open Go.RowKit

theorem lower_any (c : Int) (w : World) :
    Calls Tryz.prog 134 #[.int .u8 c] w fun e w' => e = .returned (.bool (lowI c)) ∧ w = w' := by
  go_enter Tryz.func134, Tryz.ntmps134
  go_wp2
  all_goals go_ret
  all_goals (simp_all [lowI]; try omega)
theorem upper_any (c : Int) (w : World) :
    Calls Tryz.prog 135 #[.int .u8 c] w fun e w' => e = .returned (.bool (uppI c)) ∧ w = w' := by
  go_enter Tryz.func135, Tryz.ntmps135
  go_wp2
  all_goals go_ret
  all_goals (simp_all [uppI]; try omega)
theorem digit_any (c : Int) (w : World) :
    Calls Tryz.prog 137 #[.int .u8 c] w fun e w' => e = .returned (.bool (digI c)) ∧ w = w' := by
  go_enter Tryz.func137, Tryz.ntmps137
  go_wp2
  all_goals go_ret
  all_goals (simp_all [digI]; try omega)
theorem pre1_any (c : Int) (w : World) :
    Calls Tryz.prog 157 #[.int .u8 c] w fun e w' => e = .returned (.bool (preI c)) ∧ w = w' := by
  go_enter Tryz.func157, Tryz.ntmps157
  go_wp2_with (first | (go_at_call 134; refine (lower_any _ _).mono ?_; rintro e w' ⟨rfl, rfl⟩) | (go_at_call 137; refine (digit_any _ _).mono ?_; rintro e w' ⟨rfl, rfl⟩))
  all_goals go_ret
  all_goals (simp_all [preI])
theorem var1_any (c : Int) (w : World) :
    Calls Tryz.prog 205 #[.int .u8 c] w fun e w' => e = .returned (.bool (varI c)) ∧ w = w' := by
  go_enter Tryz.func205, Tryz.ntmps205
  go_wp2_with (first | (go_at_call 134; refine (lower_any _ _).mono ?_; rintro e w' ⟨rfl, rfl⟩) | (go_at_call 135; refine (upper_any _ _).mono ?_; rintro e w' ⟨rfl, rfl⟩) | (go_at_call 137; refine (digit_any _ _).mono ?_; rintro e w' ⟨rfl, rfl⟩))
  all_goals go_ret
  all_goals (simp_all [varI])

set_option maxHeartbeats 800000 in
theorem each_any (s : Bs) (F1 F2 : Nat) (hF1 : ∀ (args : Array Value) (w : World), (callFunc F1 args).run Tryz.prog w = .ok (.enter F1 args) w) (hF2 : ∀ (args : Array Value) (w : World), (callFunc F2 args).run Tryz.prog w = .ok (.enter F2 args) w)
    (f o : Int → Bool) (h1 : ∀ c w, Calls Tryz.prog F1 #[.int .u8 c] w fun e w' => e = .returned (.bool (f c)) ∧ w = w') (h2 : ∀ c w, Calls Tryz.prog F2 #[.int .u8 c] w fun e w' => e = .returned (.bool (o c)) ∧ w = w') (w : World) (hl : s.length ≤ 9223372036854775807) :
    Calls Tryz.prog 156 #[.string ⟨s.toArray⟩, .func (.func F1) #[] #[], .func (.func F2) #[] #[]] w fun e w' => e = .returned (.bool (eachS s f o)) ∧ w = w' := by
  obtain ⟨v, hv⟩ : ∃ v, v = eachS s f o := ⟨_, rfl⟩
  rw [← hv]
  have H1 := Lib.hid h1; have H2 := Lib.hid h2; clear h1 h2
  by_cases g1 : 1 ≤ s.length
  · by_cases g2 : s.length ≤ 32
    · have hz : 0 < s.length := g1
      have hf0 := headD_get hz
      cases g3 : f s[0].toNat
      · have Hf : Hid (v = false) := by show v = _; rw [hv]; unfold eachS; rw [hf0, g3]; simp
        have H1' := H1.out s[0].toNat w
        rw [g3] at H1'
        clear hv hf0 g3
        go_enter Tryz.func156, Tryz.ntmps156
        go_wp2_with fail
        refine H1'.mono ?_
        rintro e w' ⟨rfl, rfl⟩
        go_wp2
        go_ret
        exact ⟨ret_bool Hf.out, rfl⟩
      · have Hf : Hid (v = (s.drop 0).all fun c => o c.toNat) := by show v = _; rw [hv]; unfold eachS; rw [hf0, g3]; simp [g1, g2]
        have H1' := H1.out s[0].toNat w
        rw [g3] at H1'
        clear hv hf0 g3
        go_enter Tryz.func156, Tryz.ntmps156
        go_wp2_with fail
        refine H1'.mono ?_
        rintro e w' ⟨rfl, rfl⟩
        go_wp2_with fail
        go_loop [25] (fun i => ∃ k : Nat, k ≤ s.length ∧ i = .int .i64 k ∧ Hid (v = (s.drop k).all fun c => o c.toNat)) (fun i => s.length - (intOf i).toNat)
        case atStart => exact ⟨0, by omega, rfl, Hf⟩
        case round =>
          obtain ⟨k, hk, rfl, hf⟩ := hrel
          by_cases hlt : k < s.length
          · have hd : v = (o s[k].toNat && (s.drop (k + 1)).all fun c => o c.toNat) := by rw [hf.out, drop_get hlt, List.all_cons]
            have H2' := H2.out s[k].toNat w
            generalize o s[k].toNat = b at *
            have HD := Lib.hid hd
            clear hf hd
            go_wp2_with fail
            refine H2'.mono ?_
            rintro e w' ⟨rfl, rfl⟩
            cases b
            · go_wp2
              go_ret
              exact ⟨ret_bool HD.out, rfl⟩
            · go_wp2
              go_round
              case rel => exact ⟨k + 1, by omega, by go_num, HD.out⟩
              case measure => simp [intOf]; omega
          · go_wp2
            go_ret
            exact ⟨ret_bool (by rw [hf.out, drop_end hlt]; rfl), rfl⟩
    · have Hf : Hid (v = false) := by show v = _; rw [hv]; unfold eachS; simp [g2]
      clear hv
      go_enter Tryz.func156, Tryz.ntmps156
      go_wp2
      go_ret
      exact ⟨ret_bool Hf.out, rfl⟩
  · have Hf : Hid (v = false) := by show v = _; rw [hv]; unfold eachS; simp [g1]
    clear hv
    go_enter Tryz.func156, Tryz.ntmps156
    go_wp2
    go_ret
    exact ⟨ret_bool Hf.out, rfl⟩

theorem predicate_any (s : Bs) (w : World) (hl : s.length ≤ 9223372036854775807) :
    Calls Tryz.prog 120 #[.string ⟨s.toArray⟩] w fun e w' => e = .returned (.bool (predS s)) ∧ w = w' := by
  have he := each_any s 134 157 (fun _ _ => by kernel_rfl) (fun _ _ => by kernel_rfl) lowI preI lower_any pre1_any w hl
  go_enter Tryz.func120, Tryz.ntmps120
  go_wp2_with (first | (go_at_call 156; refine he.mono ?_; rintro e w' ⟨rfl, rfl⟩))
  all_goals go_ret
  all_goals (simp_all [predS, sNot, bne])
theorem variable_any (s : Bs) (w : World) (hl : s.length ≤ 9223372036854775807) :
    Calls Tryz.prog 184 #[.string ⟨s.toArray⟩] w fun e w' => e = .returned (.bool (varS s)) ∧ w = w' := by
  have he := each_any s 135 205 (fun _ _ => by kernel_rfl) (fun _ _ => by kernel_rfl) uppI varI upper_any var1_any w hl
  go_enter Tryz.func184, Tryz.ntmps184
  go_wp2_with (first | (go_at_call 156; refine he.mono ?_; rintro e w' ⟨rfl, rfl⟩))
  all_goals go_ret
  all_goals (simp_all [varS])

set_option maxHeartbeats 800000 in
theorem constant_any (s : Bs) (w : World) (hl : s.length ≤ 9223372036854775807) :
    Calls Tryz.prog 185 #[.string ⟨s.toArray⟩] w fun e w' => e = .returned (.bool (conS s)) ∧ w = w' := by
  obtain ⟨v, hv⟩ : ∃ v, v = conS s := ⟨_, rfl⟩
  rw [← hv]
  by_cases g1 : s.length ≤ 128
  · have Hf : Hid (v = (s.drop 0).all fun c => conI c.toNat) := by show v = _; rw [hv]; unfold conS; simp [g1]
    clear hv
    go_enter Tryz.func185, Tryz.ntmps185
    go_wp2_with fail
    go_loop [9] (fun i => ∃ k : Nat, k ≤ s.length ∧ i = .int .i64 k ∧ Hid (v = (s.drop k).all fun c => conI c.toNat)) (fun i => s.length - (intOf i).toNat)
    case atStart => exact ⟨0, by omega, rfl, Hf⟩
    case round =>
      obtain ⟨k, hk, rfl, hf⟩ := hrel
      by_cases hlt : k < s.length
      · have hd : v = (conI s[k].toNat && (s.drop (k + 1)).all fun c => conI c.toNat) := by rw [hf.out, drop_get hlt, List.all_cons]
        have HD := Lib.hid hd
        clear hf hd
        go_wp2
        all_goals first
          | (go_round
             case rel => exact ⟨k + 1, by omega, by go_num, by show v = _; rw [HD.out]; simp_all [conI]⟩
             case measure => simp [intOf]; omega)
          | (go_ret; exact ⟨ret_bool (by rw [HD.out]; simp_all [conI]; try omega), rfl⟩)
      · go_wp2
        go_ret
        exact ⟨ret_bool (by rw [hf.out, drop_end hlt]; rfl), rfl⟩
  · have Hf : Hid (v = false) := by show v = _; rw [hv]; unfold conS; simp [g1]
    clear hv
    go_enter Tryz.func185, Tryz.ntmps185
    go_wp2
    go_ret
    exact ⟨ret_bool Hf.out, rfl⟩
end Go.Proofs.YtjopmgoacncmgaaGreatDoor
