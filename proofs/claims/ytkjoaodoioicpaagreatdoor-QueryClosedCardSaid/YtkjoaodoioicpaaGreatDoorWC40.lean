/- Query (package licitlaw54): a part of the proofs of its laws; see the law's own text, which comes last in 'order'. No conditions of its own. -/
import Derived.Test.YtkjoaodoioicpaaGreatDoorWC33
import Derived.Test.YtkjoaodoioicpaaGreatDoorWC39
set_option linter.unusedVariables false
set_option linter.unusedSimpArgs false
namespace Go.Proofs.YtkjoaodoioicpaaGreatDoor
open Go.RowKit
def RTPost (w : World) (r : List RTk × Bool) (e : Ending) (w' : World) : Prop :=
  ∃ A c, e = .returned (.tuple #[.slice A r.1.length c, .bool r.2]) ∧ Sl w' (fun b => w.heap.size ≤ b) A r.1.length c r.1 ∧ Below w.heap.size w w'
theorem symR_le (x : UInt8) (r : Bs) : symR (x :: r) ≤ (x :: r).length := by
  cases r with
  | nil => rw [symR_one]; split <;> simp
  | cons y r => rw [symR_two]; split; simp; split <;> simp
theorem span_end (p : UInt8 → Bool) (s : Bs) {j : Nat} (h : ¬ j < s.length) : j + spanS p (s.drop j) = j := by
  rw [drop_end h]; rfl
set_option maxRecDepth 100000 in
set_option maxHeartbeats 8000000 in
theorem rtokens_any (s : Bs) (w : World) (hl : s.length ≤ 4294967000) :
    Calls Tryz.prog 33 #[.string ⟨s.toArray⟩] w (RTPost w (rtokS s)) := by
  obtain ⟨V, hV⟩ : ∃ V, V = rtokS s := ⟨_, rfl⟩
  rw [← hV]
  have HV : Hid (V = rtok (s.length + 1) (s.drop 0) []) := hV
  clear hV
  go_enter Tryz.func33, Tryz.ntmps33
  go_wp2_with fail
  have hown0 : Own w (fun _ => False) w.heap.size 114 none 0 ([] : List RTk) := Own.nil _ _ _ _
  go_loopg [4, 5] (s.length + 1) (fun f o i wx => ∃ (k : Nat) (out : List RTk) (A : Option Addr) (c : Nat), k ≤ s.length ∧ i = .int .i64 k ∧ o = .slice A out.length c ∧ Own wx (fun _ => False) w.heap.size 114 A c out ∧ Below w.heap.size w wx ∧ s.length - k < f ∧ out.length ≤ k ∧ Hid (V = rtok f (s.drop k) out))
  case atStart => exact ⟨0, [], none, 0, by omega, rfl, rfl, hown0, Below.refl _ _, by omega, by simp, HV⟩
  case round =>
    obtain ⟨k, out, A, c, hk, rfl, rfl, hown, hb, hfk, hol, hf⟩ := hrel
    have hsz := hb.size
    obtain ⟨f, rfl⟩ : ∃ f, gk = f + 1 := ⟨gk - 1, by omega⟩
    have hd := hf.out
    have HO := Lib.hid hown; have HB := Lib.hid hb; clear hown hb hf
    by_cases hlt : k < s.length
    · rw [rtok_at f out hlt] at hd
      rw [u8_beq s[k] 32, u8_beq s[k] 45, u8_beq s[k] 34] at hd
      have e32 : ((32 : UInt8).toNat : Int) = 32 := rfl
      have e45 : ((45 : UInt8).toNat : Int) = 45 := rfl
      have e34 : ((34 : UInt8).toNat : Int) = 34 := rfl
      rw [e32, e45, e34] at hd
      clear e32 e45 e34
      cases h32 : ((s[k].toNat : Int) == 32)
      · rw [h32, if_neg (by decide)] at hd
        have hC0 := fun w => rlower_any s[k].toNat w
        have hC1 := fun w => rupper_any s[k].toNat w
        have hC2 := fun w => rdigit_any s[k].toNat w
        rw [show lowB s[k] = lowI s[k].toNat from rfl, show uppB s[k] = uppI s[k].toNat from rfl, show digB s[k] = digI s[k].toNat from rfl] at hd
        have HD := Lib.hid hd
        have HC0 := Lib.hid hC0; have HC1 := Lib.hid hC1; have HC2 := Lib.hid hC2; clear hC0 hC1 hC2 hd
        go_upto_region 12 with fail
        go_cut [39] from 40 to 45 (fun v wx => v = .bool (lowI s[k].toNat || uppI s[k].toNat) ∧ wx = wr)
        case first =>
          have hc0 := HC0.out
          have hc1 := HC1.out
          cases i0 : lowI s[k].toNat
          · rw [i0] at hc0
            have H0 := Lib.hid hc0; have H1 := Lib.hid hc1; clear hc0 hc1
            go_wp2_with fail
            refine (H0.out _).mono ?_
            rintro e w1 ⟨rfl, rfl⟩
            go_wp2_with fail
            refine (H1.out _).mono ?_
            rintro e w1 ⟨rfl, rfl⟩
            go_wp2_with fail
            go_meet
            exact ⟨by simp [i0], rfl⟩
          · rw [i0] at hc0
            have H0 := Lib.hid hc0; clear hc0 hc1
            go_wp2_with fail
            refine (H0.out _).mono ?_
            rintro e w1 ⟨rfl, rfl⟩
            go_wp2_with fail
            go_meet
            exact ⟨by simp [i0], rfl⟩
        case rest =>
          obtain ⟨rfl, hwx⟩ := hcut
          have hwx := hwx.symm
          subst hwx
          cases hlu : (lowI s[k].toNat || uppI s[k].toNat)
          · have hd := HD.out
            rw [hlu, if_neg (by decide)] at hd
            have HD := Lib.hid hd; clear hd
            obtain ⟨nb, hnb⟩ : ∃ nb, nb = (digI s[k].toNat || ((s[k].toNat : Int) == 45 && digB ((s.drop (k + 1)).headD 0))) := ⟨_, rfl⟩
            have HNB := Lib.hid hnb
            go_upto_region 16 with fail
            go_cut [84] from 85 to 102 (fun v wx => v = .bool nb ∧ wx = wr)
            case first =>
              have hc2 := HC2.out
              cases i0 : digI s[k].toNat
              · rw [i0] at hc2 hnb
                rw [Bool.false_or] at hnb
                cases i1 : ((s[k].toNat : Int) == 45)
                · rw [i1, Bool.false_and] at hnb
                  have H0 := Lib.hid hc2; have HN := Lib.hid hnb; clear hc2 hnb
                  go_wp2_with fail
                  refine (H0.out _).mono ?_
                  rintro e w1 ⟨rfl, rfl⟩
                  go_wp2_with fail
                  go_meet
                  exact ⟨by rw [HN.out], rfl⟩
                · rw [i1, Bool.true_and] at hnb
                  by_cases hk1 : k + 1 < s.length
                  · rw [drop_get hk1, List.headD_cons] at hnb
                    have hc3 := fun w => rdigit_any s[k + 1].toNat w
                    have hlI : ((k : Int) + 1 < (s.length : Int)) := by omega
                    have hgI : ((0 : Int) ≤ (k : Int) + 1) := by omega
                    have H0 := Lib.hid hc2; have HN := Lib.hid hnb; have H3 := Lib.hid hc3; clear hc2 hnb hc3
                    go_wp2_with fail
                    refine (H0.out _).mono ?_
                    rintro e w1 ⟨rfl, rfl⟩
                    go_wp2_with fail
                    refine (H3.out _).mono ?_
                    rintro e w1 ⟨rfl, rfl⟩
                    go_wp2_with fail
                    go_meet
                    exact ⟨by rw [HN.out]; rfl, rfl⟩
                  · rw [drop_end hk1] at hnb
                    have hlI : ¬ ((k : Int) + 1 < (s.length : Int)) := by omega
                    have H0 := Lib.hid hc2; have HN := Lib.hid hnb; clear hc2 hnb
                    go_wp2_with fail
                    refine (H0.out _).mono ?_
                    rintro e w1 ⟨rfl, rfl⟩
                    go_wp2_with fail
                    go_meet
                    exact ⟨by rw [HN.out]; rfl, rfl⟩
              · rw [i0] at hc2 hnb
                rw [Bool.true_or] at hnb
                have H0 := Lib.hid hc2; have HN := Lib.hid hnb; clear hc2 hnb
                go_wp2_with fail
                refine (H0.out _).mono ?_
                rintro e w1 ⟨rfl, rfl⟩
                go_wp2_with fail
                go_meet
                exact ⟨by rw [HN.out], rfl⟩
            case rest =>
              obtain ⟨rfl, hwx⟩ := hcut
              have hwx := hwx.symm
              subst hwx
              have hd := HD.out
              rw [← HNB.out] at hd
              clear hnb HNB
              cases nb
              · rw [if_neg (by decide)] at hd
                cases h34 : ((s[k].toNat : Int) == 34)
                · rw [h34, if_neg (by decide)] at hd
                  have hsy := fun w => rsymbol_any s[k] (s.drop (k + 1)) w (by simp only [List.length_cons, List.length_drop]; omega)
                  have hsl := symR_le s[k] (s.drop (k + 1))
                  rw [← drop_get hlt] at hsy hsl
                  rw [List.length_drop] at hsl
                  generalize symR (s.drop k) = sy at *
                  have HSY := Lib.hid hsy; clear hsy
                  by_cases h0 : sy = 0
                  · rw [if_pos h0] at hd
                    have HD2 := Lib.hid hd; clear hd HD
                    subst h0
                    go_wp2_with fail
                    refine (HSY.out _).mono ?_
                    rintro e w1 ⟨rfl, rfl⟩
                    go_wp2_with fail
                    refine bodyPost_ret (v := .tuple #[.slice none 0 0, .bool false]) (by simp [results, Tryz.results33, go_sem]) rfl ?_
                    rw [HD2.out]
                    exact ⟨none, 0, rfl, Sl.nil _ _ _ _ (by omega), HB.out⟩
                  · rw [if_neg h0] at hd
                    have HD2 := Lib.hid hd; clear hd HD
                    have hne : ((k : Int) + (sy : Int) == (k : Int)) = false := by rw [beq_eq_false_iff_ne]; omega
                    have hge : (0 : Int) ≤ (k : Int) + (sy : Int) := by omega
                    have hle : (k : Int) ≤ (k : Int) + (sy : Int) := by omega
                    have hle2 : (k : Int) + (sy : Int) ≤ (s.length : Int) := by omega
                    go_wp2_with fail
                    refine (HSY.out _).mono ?_
                    rintro e w1 ⟨rfl, rfl⟩
                    go_wp2_with (first | (at_builtin; go_loud (refine wpList_app1 rfl _ _ eltTk rfl (by decide) rfl rfl rfl (HO.out.alloc _) rfl [.int .u8 115, .string ⟨((s.take (k + sy)).drop k).toArray⟩] (⟨115, (s.take (k + sy)).drop k⟩ : RTk) (blkAt _ _ (by simp)) rfl ⟨rfl, rfl⟩ (by omega) (by omega) (by simp; omega) ?_); intro A' c' w3 hown' hg hat))
                    have hsz3 := hg.size
                    simp at hsz3
                    go_roundg f
                    case measure => omega
                    case rel => exact ⟨k + sy, out ++ [⟨115, (s.take (k + sy)).drop k⟩], A', c', by omega, by go_num, by simp, hown', (HB.out.alloc (by omega) _).grown hg (by simp; omega) (fun k hk => (HO.out.lt k hk).1), by omega, by simp; omega, HD2⟩
                · rw [h34, if_pos rfl] at hd
                  obtain ⟨E, hE⟩ : ∃ E, E = k + 1 + spanS (fun c => c != 34) (s.drop (k + 1)) := ⟨_, rfl⟩
                  have hEl : (spanS (fun c => c != 34) (s.drop (k + 1)) = (s.drop (k + 1)).length) ↔ E = s.length := by rw [hE, List.length_drop]; omega
                  rw [← hE] at hd
                  have HEL := Lib.hid hEl
                  have HD1 := Lib.hid hd; have HE := Lib.hid hE; clear hd hE HD hEl
                  go_wp2_with fail
                  go_loop [6] (fun i => ∃ j : Nat, k + 1 ≤ j ∧ j ≤ s.length ∧ i = .int .i64 j ∧ Hid (E = j + spanS (fun c => c != 34) (s.drop j))) (fun i => s.length - (intOf i).toNat)
                  case atStart => exact ⟨k + 1, by omega, by omega, by go_num, HE.out⟩
                  case round =>
                    obtain ⟨j, hj1, hj2, rfl, hf⟩ := hrel
                    by_cases hjl : j < s.length
                    · have he := hf.out
                      rw [span_drop _ s hjl] at he
                      have e34 : (s[j] != 34) = ((s[j].toNat : Int) != 34) := by rw [bne, bne, u8_beq]; rfl
                      rw [e34] at he
                      cases hq : ((s[j].toNat : Int) != 34)
                      · rw [hq, if_neg (by decide), Nat.add_zero] at he
                        have hd := HD1.out
                        subst he
                        rw [if_neg (fun h => by have := HEL.out.1 h; omega)] at hd
                        have HD2 := Lib.hid hd; clear hd hf e34
                        have hne : ((E : Int) == (s.length : Int)) = false := by rw [beq_eq_false_iff_ne]; omega
                        go_wp2_with (first | (at_builtin; go_loud (refine wpList_app1 rfl _ _ eltTk rfl (by decide) rfl rfl rfl (HO.out.alloc _) rfl [.int .u8 116, .string ⟨((s.take E).drop (k + 1)).toArray⟩] (⟨116, (s.take E).drop (k + 1)⟩ : RTk) (blkAt _ _ (by simp)) rfl ⟨rfl, rfl⟩ (by omega) (by omega) (by simp; omega) ?_); intro A' c' w3 hown' hg hat))
                        have hsz3 := hg.size
                        simp at hsz3
                        go_roundg f
                        case measure => omega
                        case rel => exact ⟨E + 1, out ++ [⟨116, (s.take E).drop (k + 1)⟩], A', c', by omega, by go_num, by simp, hown', (HB.out.alloc (by omega) _).grown hg (by simp; omega) (fun k hk => (HO.out.lt k hk).1), by omega, by simp; omega, HD2⟩
                      · rw [hq, if_pos rfl] at he
                        have HE2 : Hid (E = j + 1 + spanS (fun c => c != 34) (s.drop (j + 1))) := Lib.hid (by rw [he]; omega)
                        clear he hf e34
                        go_wp2_with fail
                        go_round
                        case rel => exact ⟨j + 1, by omega, by omega, by go_num, HE2.out⟩
                        case measure => simp [intOf]; omega
                    · have he := hf.out
                      rw [span_end _ s hjl] at he
                      have hd := HD1.out
                      have hjs : j = s.length := by omega
                      rw [if_pos (HEL.out.2 (by omega))] at hd
                      have HD2 := Lib.hid hd; clear hd hf he
                      have hne : ((j : Int) == (s.length : Int)) = true := by rw [beq_iff_eq]; omega
                      go_wp2_with fail
                      refine bodyPost_ret (v := .tuple #[.slice none 0 0, .bool false]) (by simp [results, Tryz.results33, go_sem]) rfl ?_
                      rw [HD2.out]
                      exact ⟨none, 0, rfl, Sl.nil _ _ _ _ (by omega), HB.out⟩
              · rw [if_pos rfl] at hd
                obtain ⟨E, hE⟩ : ∃ E, E = k + 1 + spanS digB (s.drop (k + 1)) := ⟨_, rfl⟩
                rw [← hE] at hd
                have HD1 := Lib.hid hd; have HE := Lib.hid hE; clear hd hE HD
                go_wp2_with fail
                go_loop [6] (fun i => ∃ j : Nat, k + 1 ≤ j ∧ j ≤ s.length ∧ i = .int .i64 j ∧ Hid (E = j + spanS digB (s.drop j))) (fun i => s.length - (intOf i).toNat)
                case atStart => exact ⟨k + 1, by omega, by omega, by go_num, HE.out⟩
                case round =>
                  obtain ⟨j, hj1, hj2, rfl, hf⟩ := hrel
                  by_cases hjl : j < s.length
                  · have he := hf.out
                    rw [span_drop _ s hjl, show digB s[j] = digI s[j].toNat from rfl] at he
                    have hc := fun w => rdigit_any s[j].toNat w
                    cases hq : digI s[j].toNat
                    · rw [hq] at hc
                      rw [hq, if_neg (by decide), Nat.add_zero] at he
                      have hd := HD1.out
                      subst he
                      have HD2 := Lib.hid hd; have HC := Lib.hid hc; clear hd hf hc
                      go_wp2_with fail
                      refine (HC.out _).mono ?_
                      rintro e w1 ⟨rfl, rfl⟩
                      go_wp2_with (first | (at_builtin; go_loud (refine wpList_app1 rfl _ _ eltTk rfl (by decide) rfl rfl rfl (HO.out.alloc _) rfl [.int .u8 110, .string ⟨((s.take E).drop k).toArray⟩] (⟨110, (s.take E).drop k⟩ : RTk) (blkAt _ _ (by simp)) rfl ⟨rfl, rfl⟩ (by omega) (by omega) (by simp; omega) ?_); intro A' c' w3 hown' hg hat))
                      have hsz3 := hg.size
                      simp at hsz3
                      go_roundg f
                      case measure => omega
                      case rel => exact ⟨E, out ++ [⟨110, (s.take E).drop k⟩], A', c', by omega, by go_num, by simp, hown', (HB.out.alloc (by omega) _).grown hg (by simp; omega) (fun k hk => (HO.out.lt k hk).1), by omega, by simp; omega, HD2⟩
                    · rw [hq] at hc
                      rw [hq, if_pos rfl] at he
                      have HE2 : Hid (E = j + 1 + spanS digB (s.drop (j + 1))) := Lib.hid (by rw [he]; omega)
                      have HC := Lib.hid hc
                      clear he hf hc
                      go_wp2_with fail
                      refine (HC.out _).mono ?_
                      rintro e w1 ⟨rfl, rfl⟩
                      go_wp2_with fail
                      go_round
                      case rel => exact ⟨j + 1, by omega, by omega, by go_num, HE2.out⟩
                      case measure => simp [intOf]; omega
                  · have he := hf.out
                    rw [span_end _ s hjl] at he
                    have hd := HD1.out
                    subst he
                    have HD2 := Lib.hid hd; clear hd hf
                    go_wp2_with (first | (at_builtin; go_loud (refine wpList_app1 rfl _ _ eltTk rfl (by decide) rfl rfl rfl (HO.out.alloc _) rfl [.int .u8 110, .string ⟨((s.take E).drop k).toArray⟩] (⟨110, (s.take E).drop k⟩ : RTk) (blkAt _ _ (by simp)) rfl ⟨rfl, rfl⟩ (by omega) (by omega) (by simp; omega) ?_); intro A' c' w3 hown' hg hat))
                    have hsz3 := hg.size
                    simp at hsz3
                    go_roundg f
                    case measure => omega
                    case rel => exact ⟨E, out ++ [⟨110, (s.take E).drop k⟩], A', c', by omega, by go_num, by simp, hown', (HB.out.alloc (by omega) _).grown hg (by simp; omega) (fun k hk => (HO.out.lt k hk).1), by omega, by simp; omega, HD2⟩
          · have hd := HD.out
            rw [hlu, if_pos rfl] at hd
            obtain ⟨E, hE⟩ : ∃ E, E = k + 1 + spanS varB (s.drop (k + 1)) := ⟨_, rfl⟩
            rw [← hE] at hd
            have HD1 := Lib.hid hd; have HE := Lib.hid hE; clear hd hE HD
            go_wp2_with fail
            go_loop [6] (fun i => ∃ j : Nat, k + 1 ≤ j ∧ j ≤ s.length ∧ i = .int .i64 j ∧ Hid (E = j + spanS varB (s.drop j))) (fun i => s.length - (intOf i).toNat)
            case atStart => exact ⟨k + 1, by omega, by omega, by go_num, HE.out⟩
            case round =>
              obtain ⟨j, hj1, hj2, rfl, hf⟩ := hrel
              by_cases hjl : j < s.length
              · have he := hf.out
                rw [span_drop _ s hjl, show varB s[j] = varI s[j].toNat from rfl] at he
                unfold varI at he
                have C0 := rlower_any s[j].toNat wr
                have C1 := rupper_any s[j].toNat wr
                have C2 := rdigit_any s[j].toNat wr
                generalize hcn : (s[j].toNat : Int) = n at *
                by_cases hall : (lowI n || uppI n || digI n || n == 95) = true
                · rw [if_pos hall] at he
                  have HE2 : Hid (E = j + 1 + spanS varB (s.drop (j + 1))) := Lib.hid (by rw [he]; omega)
                  clear he hf
                  go_wp2_with fail
                  refine C0.mono ?_
                  rintro e w' ⟨rfl, rfl⟩
                  cases i0 : lowI n
                  rotate_left
                  · go_wp2_with fail
                    go_round
                    case rel => exact ⟨j + 1, by omega, by omega, by go_num, HE2.out⟩
                    case measure => simp [intOf]; omega
                  go_wp2_with fail
                  refine C1.mono ?_
                  rintro e w' ⟨rfl, rfl⟩
                  cases i1 : uppI n
                  rotate_left
                  · go_wp2_with fail
                    go_round
                    case rel => exact ⟨j + 1, by omega, by omega, by go_num, HE2.out⟩
                    case measure => simp [intOf]; omega
                  go_wp2_with fail
                  refine C2.mono ?_
                  rintro e w' ⟨rfl, rfl⟩
                  cases i2 : digI n
                  rotate_left
                  · go_wp2_with fail
                    go_round
                    case rel => exact ⟨j + 1, by omega, by omega, by go_num, HE2.out⟩
                    case measure => simp [intOf]; omega
                  have h95 : n = 95 := by simpa [i0, i1, i2] using hall
                  have h95b : (n == 95) = true := by simpa using h95
                  go_wp2_with fail
                  go_round
                  case rel => exact ⟨j + 1, by omega, by omega, by go_num, HE2.out⟩
                  case measure => simp [intOf]; omega
                · rw [if_neg hall, Nat.add_zero] at he
                  have hd := HD1.out
                  subst he
                  simp only [Bool.or_eq_true, not_or, Bool.not_eq_true] at hall
                  obtain ⟨⟨⟨i0, i1⟩, i2⟩, i3⟩ := hall
                  rw [i0] at C0
                  rw [i1] at C1
                  rw [i2] at C2
                  have HD2 := Lib.hid hd; clear hd hf
                  go_wp2_with fail
                  refine C0.mono ?_
                  rintro e w' ⟨rfl, rfl⟩
                  go_wp2_with fail
                  refine C1.mono ?_
                  rintro e w' ⟨rfl, rfl⟩
                  go_wp2_with fail
                  refine C2.mono ?_
                  rintro e w' ⟨rfl, rfl⟩
                  go_wp2_with (first | (at_builtin; go_loud (refine wpList_app1 rfl _ _ eltTk rfl (by decide) rfl rfl rfl (HO.out.alloc _) rfl [.int .u8 119, .string ⟨((s.take E).drop k).toArray⟩] (⟨119, (s.take E).drop k⟩ : RTk) (blkAt _ _ (by simp)) rfl ⟨rfl, rfl⟩ (by omega) (by omega) (by simp; omega) ?_); intro A' c' w3 hown' hg hat))
                  have hsz3 := hg.size
                  simp at hsz3
                  go_roundg f
                  case measure => omega
                  case rel => exact ⟨E, out ++ [⟨119, (s.take E).drop k⟩], A', c', by omega, by go_num, by simp, hown', (HB.out.alloc (by omega) _).grown hg (by simp; omega) (fun k hk => (HO.out.lt k hk).1), by omega, by simp; omega, HD2⟩
              · have he := hf.out
                rw [span_end _ s hjl] at he
                have hd := HD1.out
                subst he
                have HD2 := Lib.hid hd; clear hd hf
                go_wp2_with (first | (at_builtin; go_loud (refine wpList_app1 rfl _ _ eltTk rfl (by decide) rfl rfl rfl (HO.out.alloc _) rfl [.int .u8 119, .string ⟨((s.take E).drop k).toArray⟩] (⟨119, (s.take E).drop k⟩ : RTk) (blkAt _ _ (by simp)) rfl ⟨rfl, rfl⟩ (by omega) (by omega) (by simp; omega) ?_); intro A' c' w3 hown' hg hat))
                have hsz3 := hg.size
                simp at hsz3
                go_roundg f
                case measure => omega
                case rel => exact ⟨E, out ++ [⟨119, (s.take E).drop k⟩], A', c', by omega, by go_num, by simp, hown', (HB.out.alloc (by omega) _).grown hg (by simp; omega) (fun k hk => (HO.out.lt k hk).1), by omega, by simp; omega, HD2⟩
      · rw [h32, if_pos rfl] at hd
        have HD := Lib.hid hd; clear hd
        go_wp2_with fail
        go_roundg f
        case measure => omega
        case rel => exact ⟨k + 1, out, A, c, by omega, by go_num, rfl, HO.out, HB.out, by omega, by omega, HD⟩
    · rw [drop_end hlt, rtok] at hd
      have HD := Lib.hid hd; clear hd
      go_wp2_with fail
      refine bodyPost_ret (v := .tuple #[.slice A out.length c, .bool true]) (by simp [results, Tryz.results33, go_sem]) rfl ?_
      rw [HD.out]
      exact ⟨A, c, rfl, (HO.out.sl (by decide)).wide (fun k _ hk => hk.elim False.elim (fun hk => (HO.out.lt k hk).1)) (by decide), HB.out⟩
end Go.Proofs.YtkjoaodoioicpaaGreatDoor
namespace Go.Proofs.YtkjoaodoioicpaaGreatDoor
open Go.RowKit
theorem rsplit_lens (s : Bs) : ∀ cur, (∀ t ∈ rsplit cur s, t.length ≤ cur.length + s.length) ∧ (rsplit cur s).length ≤ s.length + 1 := by
  induction s with
  | nil =>
    intro cur
    rw [rsplit]
    split
    · exact ⟨fun t ht => (by cases ht), Nat.zero_le _⟩
    · exact ⟨fun t ht => by rw [List.mem_singleton.1 ht]; exact Nat.le_refl _, Nat.le_refl _⟩
  | cons c r ih =>
    intro cur
    rw [rsplit]
    split
    · have h := ih []
      refine ⟨fun t ht => ?_, ?_⟩
      · rcases List.mem_cons.1 ht with rfl | ht
        · exact Nat.le_add_right _ _
        · have := h.1 t ht
          simp only [List.length_nil, List.length_cons] at this ⊢
          omega
      · simp only [List.length_cons]; have := h.2; omega
    · have h := ih (cur ++ [c])
      refine ⟨fun t ht => ?_, ?_⟩
      · have := h.1 t ht
        simp only [List.length_append, List.length_cons, List.length_nil] at this ⊢
        omega
      · simp only [List.length_cons]; have := h.2; omega
theorem rtoks_ok (s : Bs) (hs : s.length ≤ 4294967000) : (∀ t ∈ (rtokS s).1, TkOk t) ∧ (rtokS s).1.length ≤ s.length := by
  have h := rtok_ok (s.length + 1) s [] hs (fun t ht => by cases ht)
  exact ⟨h.1, by have h2 := h.2; simp only [List.length_nil, Nat.add_zero] at h2; exact h2⟩
theorem RW.new {w : World} {A : Option Addr} {c : Nat} {l : List RTk} (hs : Sl w (fun _ => True) A l.length c l) (ht : ∀ t ∈ l, TkOk t) (hn : l.length ≤ 1000000) : RW l.length (w.alloc (.cells #[.slice A l.length c, .int .i64 0, .bool false] 78)) w.heap.size (l, false) :=
  ⟨A, c, l, 0, blkAt w _ rfl, (hs.wide (S' := fun k => k < w.heap.size) (fun k hk _ => hk) (by decide)).alloc _, Nat.zero_le _, rfl, ht, hn, rfl⟩
theorem RW.at1 {N : Nat} {w : World} {g : Nat} {p : RSt} (h : RW N w g p) : ∃ pos : Nat, w.cell? ⟨g, 1, none⟩ = some (.int .i64 pos) ∧ p.1.length = N - pos ∧ pos ≤ N ∧ N ≤ 1000000 := by
  obtain ⟨A, c, L, pos, hb, hs, h1, h2, h3, h4, h5⟩ := h
  exact ⟨pos, (cell_blk hb 1).trans rfl, by rw [h2, List.length_drop, h5], by omega, by omega⟩
set_option maxRecDepth 100000 in
set_option maxHeartbeats 4000000 in
theorem rParse_any (s : Bs) (w : World) (hl : s.length ≤ 9223372036854775807) :
    Calls Tryz.prog 16 #[.string ⟨s.toArray⟩] w (PaPost w (rparseS s)) := by
  obtain ⟨V, hV⟩ : ∃ V, V = rparseS s := ⟨_, rfl⟩
  rw [← hV]
  unfold rparseS at hV
  by_cases h64 : 65536 < s.length
  · rw [if_pos h64] at hV
    have HV := Lib.hid hV; clear hV
    have h64I : (65536 : Int) < (s.length : Int) := by omega
    go_enter Tryz.func16, Tryz.ntmps16
    go_wp2_with fail
    refine bodyPost_ret (v := .tuple #[.slice none 0 0, .int .i64 0, .int .i64 10]) (by simp [results, Tryz.results16, go_sem]) rfl ?_
    rw [HV.out]
    exact ⟨none, 0, rfl, Sl.nil _ _ _ _ (by omega), Below.refl _ _, fun x hx => by cases hx⟩
  · rw [if_neg h64] at hV
    have hsp := rsplit_any s w (by omega)
    have hll := (rsplit_lens s []).1
    have hln := (rsplit_lens s []).2
    generalize rsplit [] s = lines at *
    have HV := Lib.hid hV; have HSP := Lib.hid hsp; have HLL := Lib.hid hll; clear hV hsp hll
    have h64I : ¬ (65536 : Int) < (s.length : Int) := by omega
    go_enter Tryz.func16, Tryz.ntmps16
    go_wp2_with fail
    refine HSP.out.mono ?_
    rintro e w1 ⟨A1, c1, rfl, hs1, hb1⟩
    have HS1 := Lib.hid (hs1.wide (S' := fun b => b < w1.heap.size) (fun k hk _ => hk) (by decide)); have HB1 := Lib.hid hb1; clear hs1 hb1
    go_wp2_with fail
    have hown0 : Own w1 (fun b => w1.heap.size ≤ b) w1.heap.size 34 none 0 ([] : List Rul) := Own.nil _ _ _ _
    have Hf : Hid (V = rparseGo (lines.drop 0) 0 []) := HV
    go_loopw [5, 7] (fun o i wx => ∃ k : Nat, k ≤ lines.length ∧ i = .int .i64 k ∧ ∃ (out : List Rul) (A : Option Addr) (c : Nat), o = .slice A out.length c ∧ Own wx (fun b => w1.heap.size ≤ b) w1.heap.size 34 A c out ∧ Below w1.heap.size w1 wx ∧ out.length ≤ 64 ∧ Hid (∀ x ∈ out, OkR x) ∧ Hid (V = rparseGo (lines.drop k) k out)) (fun _ i _ => lines.length - (intOf i).toNat)
    case atStart => exact ⟨0, by omega, rfl, [], none, 0, rfl, hown0, Below.refl _ _, by simp, fun x hx => (by cases hx), Hf⟩
    case round =>
      obtain ⟨k, hk, rfl, out, A, c, rfl, hown, hb, hol, hok, hf⟩ := hrel
      have hsz := hb.size
      by_cases hlt : k < lines.length
      · obtain ⟨b, o, rfl, -, hbs, h1⟩ := (HS1.out.keep (fun z hz hs => hb.block z hs)).str hlt
        have hd := hf.out
        rw [drop_get hlt, rparseGo] at hd
        have hlx := HLL.out _ (List.getElem_mem hlt)
        simp only [List.length_nil, Nat.zero_add] at hlx
        generalize lines[k] = line at *
        have hcm := fun w => rcomment_any line w (by omega)
        have HO := Lib.hid hown; have HB := Lib.hid hb; have HOK := hok
        clear hown hb hf hok
        cases hc : commS line
        · rw [hc] at hd hcm
          simp only [Bool.false_eq_true, if_false] at hd
          have htk := fun w => rtokens_any line w (by omega)
          have hto := rtoks_ok line (by omega)
          generalize rtokS line = tk at *
          obtain ⟨toks, tok⟩ := tk
          simp only at hto hd
          have hru := fun g w (h : RW toks.length w g (toks, false)) => rruleR_any g (toks, false) w h
          generalize rrule (toks, false) = rp at *
          obtain ⟨rr, rq, rbad⟩ := rp
          simp only at hd
          have htn : toks.length ≤ 1000000 := by omega
          have HD := Lib.hid hd; have HTK := Lib.hid htk; have HTO := Lib.hid hto.1; have HRU := Lib.hid hru; have HCM := Lib.hid hcm
          clear hd htk hto hru hcm hc
          go_wp2_with fail
          refine (HCM.out _).mono ?_
          rintro e w2 ⟨rfl, rfl⟩
          go_wp2_with fail
          refine (HTK.out _).mono ?_
          rintro e w2 ⟨At, ct, rfl, hst, hbt⟩
          have hb2 := next HB.out hbt (Nat.le_refl _)
          have hpw := RW.new (hst.any) HTO.out htn
          have HO2 := Lib.hid (HO.out.below hbt); have HB2 := Lib.hid hb2; have HPW := Lib.hid hpw
          simp only at hst
          clear hst hbt hb2 hpw
          go_wp2_with fail
          refine (HRU.out _ _ HPW.out).mono ?_
          rintro e w3 ⟨⟨B1, m1, d1, B2, m2, d2, rfl, hq1, hq2⟩, hw3, hf3, hokr⟩
          have hb3 : Below w2.heap.size w2 w3 := boxed.trans (hf3.below (by simp) (fun i hi e => by have : i = w2.heap.size := e; omega))
          have c2 := cell_alloc' hw3.c2.1 (.cells #[.string ⟨rr.head.name.toArray⟩, .slice B1 m1 d1, .slice B2 m2 d2] 34)
          simp only at c2
          have HO3 := Lib.hid (HO2.out.below hb3); have HB3 := Lib.hid (next HB2.out hb3 (Nat.le_refl _))
          have HQ1 := Lib.hid hq1; have HQ2 := Lib.hid hq2; have HOKR := Lib.hid hokr
          have hs23 := hb3.size
          have hs12 := HB2.out.size
          clear hf3 hb3 hq1 hq2 hokr hw3
          cases tok
          · go_wp2_with fail
            refine bodyPost_ret (v := .tuple #[.slice none 0 0, .int .i64 ((k : Int) + 1), .int .i64 4]) (by simp [results, Tryz.results16, go_sem]) rfl ?_
            have hd := HD.out
            rw [if_pos (by rfl)] at hd
            rw [hd]
            exact ⟨none, 0, rfl, Sl.nil _ _ _ _ (by omega), (next HB1.out HB3.out (Nat.le_refl _)).alloc (by have := HB1.out.size; have := HB3.out.size; omega) _, fun x hx => by cases hx⟩
          · cases rbad
            rotate_left
            · go_wp2_with fail
              refine bodyPost_ret (v := .tuple #[.slice none 0 0, .int .i64 ((k : Int) + 1), .int .i64 4]) (by simp [results, Tryz.results16, go_sem]) rfl ?_
              have hd := HD.out
              rw [if_pos (by rfl)] at hd
              rw [hd]
              exact ⟨none, 0, rfl, Sl.nil _ _ _ _ (by omega), (next HB1.out HB3.out (Nat.le_refl _)).alloc (by have := HB1.out.size; have := HB3.out.size; omega) _, fun x hx => by cases hx⟩
            · by_cases h64o : out.length = 64
              · have h64b : ((out.length : Int) == 64) = true := by rw [beq_iff_eq]; omega
                have H64 := Lib.hid h64o; clear h64o
                go_wp2_with fail
                refine bodyPost_ret (v := .tuple #[.slice none 0 0, .int .i64 ((k : Int) + 1), .int .i64 10]) (by simp [results, Tryz.results16, go_sem]) rfl ?_
                have hd := HD.out
                rw [if_neg (by simp), if_pos H64.out] at hd
                rw [hd]
                exact ⟨none, 0, rfl, Sl.nil _ _ _ _ (by omega), (next HB1.out HB3.out (Nat.le_refl _)).alloc (by have := HB1.out.size; have := HB3.out.size; omega) _, fun x hx => by cases hx⟩
              · have h64b : ((out.length : Int) == 64) = false := by rw [beq_eq_false_iff_ne]; omega
                have hwid : ∀ {α : Type} [GoT α] (B : Option Addr) (m d : Nat) (l : List α) (h0 : 0 < GoT.size α) (X Y : Obj), Sl w3 (fun b => (w2.alloc (.cells #[.slice At toks.length ct, .int .i64 0, .bool false] 78)).heap.size ≤ b) B m d l → Sl ((w3.alloc X).alloc Y) (fun b => w1.heap.size ≤ b ∧ A.map Addr.block ≠ some b) B m d l := fun B m d l h0 X Y h => ((h.alloc _).alloc _).wide (fun q _ hq => by
                  have hq' : w2.heap.size + 1 ≤ q := by simpa using hq
                  exact ⟨by omega, fun e => by have h1 := (HO2.out.lt q e).2; omega⟩) h0
                have HW1 := Lib.hid (fun X Y => hwid B1 m1 d1 _ (by decide) X Y HQ1.out); have HW2 := Lib.hid (fun X Y => hwid B2 m2 d2 _ (by decide) X Y HQ2.out); clear hwid
                go_wp2_with (first | (at_builtin; go_loud (refine wpList_app1 rfl _ _ eltRul rfl (by decide) rfl rfl rfl ((HO3.out.alloc _).alloc _) rfl [.string ⟨rr.head.name.toArray⟩, .slice B1 m1 d1, .slice B2 m2 d2] rr (blkAt _ _ (by simp)) rfl ⟨rfl, ⟨B1, m1, d1, rfl, HW1.out _ _⟩, B2, m2, d2, rfl, HW2.out _ _⟩ (by omega) (by omega) (by simp; omega) ?_); intro A' c' w5 hown' hg hat))
                have hsz5 := hg.size
                simp at hsz5
                refine ⟨⟨k + 1, by omega, by go_num, out ++ [rr], A', c', by simp, hown', ((HB3.out.alloc (by omega) _).alloc (by simp; omega) _).grown hg (by simp; omega) (fun z hz => (HO3.out.lt z hz).1), by simp; omega, ?_, ?_⟩, by simp [intOf]; omega⟩
                · show ∀ x ∈ out ++ [rr], OkR x
                  intro x hx
                  rcases List.mem_append.1 hx with hx | hx
                  · exact HOK.out x hx
                  · rw [List.mem_singleton.1 hx]; exact HOKR.out
                · have hd := HD.out
                  rw [if_neg (by simp), if_neg h64o] at hd
                  exact hd
        · rw [hc] at hd hcm
          simp only [if_true] at hd
          have HD := Lib.hid hd; have HCM := Lib.hid hcm; clear hd hcm hc
          go_wp2_with fail
          refine (HCM.out _).mono ?_
          rintro e w2 ⟨rfl, rfl⟩
          go_wp2_with fail
          go_roundw
          case rel => exact ⟨k + 1, by omega, by go_num, out, A, c, rfl, HO.out, HB.out, hol, HOK, HD.out⟩
          case measure => simp [intOf]; omega
      · have hd := hf.out
        rw [drop_end hlt] at hd
        have hd : V = (out, 0, 0) := hd
        have HD := Lib.hid hd; have HO := Lib.hid hown; have HB := Lib.hid hb; clear hd hown hb hf
        go_wp2_with fail
        refine bodyPost_ret (v := .tuple #[.slice A out.length c, .int .i64 0, .int .i64 0]) (by simp [results, Tryz.results16, go_sem]) rfl ?_
        rw [HD.out]
        exact ⟨A, c, rfl, (HO.out.sl (by decide)).wide (fun k _ hk => by have := HB1.out.size; rcases hk with hk | hk; omega; have := (HO.out.lt k hk).1; omega) (by decide), next HB1.out HB.out (Nat.le_refl _), hok.out⟩
end Go.Proofs.YtkjoaodoioicpaaGreatDoor
