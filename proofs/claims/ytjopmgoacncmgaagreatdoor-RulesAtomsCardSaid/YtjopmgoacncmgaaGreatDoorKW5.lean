/- Rules, reference: argument, arguments, Atom. -/
import Derived.Test.YtjopmgoacncmgaaGreatDoorK1
import Derived.Test.YtjopmgoacncmgaaGreatDoorKC
set_option linter.unusedVariables false
set_option linter.unusedSimpArgs false
namespace Go.Proofs.YtjopmgoacncmgaaGreatDoor
open Go.RowKit

theorem rlower_any (c : Int) (w : World) :
    Calls Tryz.prog 90 #[.int .u8 c] w fun e w' => e = .returned (.bool (lowI c)) ∧ w = w' := by
  go_enter Tryz.func90, Tryz.ntmps90
  go_wp2
  all_goals go_ret
  all_goals (simp_all [lowI]; try omega)
theorem rupper_any (c : Int) (w : World) :
    Calls Tryz.prog 91 #[.int .u8 c] w fun e w' => e = .returned (.bool (uppI c)) ∧ w = w' := by
  go_enter Tryz.func91, Tryz.ntmps91
  go_wp2
  all_goals go_ret
  all_goals (simp_all [uppI]; try omega)
theorem rdigit_any (c : Int) (w : World) :
    Calls Tryz.prog 92 #[.int .u8 c] w fun e w' => e = .returned (.bool (digI c)) ∧ w = w' := by
  go_enter Tryz.func92, Tryz.ntmps92
  go_wp2
  all_goals go_ret
  all_goals (simp_all [digI]; try omega)

theorem rquoted_any (s : Bs) (w : World) (hl : s.length ≤ 9223372036854775807) :
    Calls Tryz.prog 160 #[.string ⟨s.toArray⟩] w fun e w' => e = .returned (.bool (conS s)) ∧ w = w' := by
  obtain ⟨v, hv⟩ : ∃ v, v = conS s := ⟨_, rfl⟩
  rw [← hv]
  have Hf : Hid (v = (decide (s.length ≤ 128) && (s.drop 0).all fun c => conI c.toNat)) := hv
  clear hv
  go_enter Tryz.func160, Tryz.ntmps160
  go_wp2_with fail
  go_loop [3] (fun i => ∃ k : Nat, k ≤ s.length ∧ i = .int .i64 k ∧ Hid (v = (decide (s.length ≤ 128) && (s.drop k).all fun c => conI c.toNat))) (fun i => s.length - (intOf i).toNat)
  case atStart => exact ⟨0, by omega, rfl, Hf⟩
  case round =>
    obtain ⟨k, hk, rfl, hf⟩ := hrel
    by_cases hlt : k < s.length
    · have hd : v = (decide (s.length ≤ 128) && (conI s[k].toNat && (s.drop (k + 1)).all fun c => conI c.toNat)) := by rw [hf.out, drop_get hlt, List.all_cons]
      cases hc : conI s[k].toNat
      · rw [hc, Bool.false_and, Bool.and_false] at hd
        have HD := Lib.hid hd
        clear hf hd
        unfold conI at hc
        go_wp2_with fail
        all_goals first | (go_ret; exact ⟨ret_bool HD.out, rfl⟩) | (exfalso; simp_all; done) | (exfalso; simp_all; omega)
      · rw [hc, Bool.true_and] at hd
        have HD := Lib.hid hd
        clear hf hd
        unfold conI at hc
        simp only [Bool.and_eq_true, decide_eq_true_eq, bne_iff_ne, ne_eq] at hc
        obtain ⟨⟨⟨c1, c2⟩, c3⟩, c4⟩ := hc
        have d1 : ¬ ((s[k].toNat : Int) < 32) := by omega
        have d2 : ¬ ((126 : Int) < s[k].toNat) := by omega
        have d3 : ((s[k].toNat : Int) == 34) = false := by simpa using c3
        have d4 : ((s[k].toNat : Int) == 92) = false := by simpa using c4
        go_wp2_with fail
        go_round
        case rel => exact ⟨k + 1, by omega, by go_num, HD.out⟩
        case measure => simp [intOf]; omega
    · go_wp2_with fail
      go_ret
      exact ⟨ret_bool (by rw [hf.out, drop_end hlt]; simp; omega), rfl⟩
set_option maxRecDepth 100000 in
set_option maxHeartbeats 2000000 in
theorem rpredicate_any (s : Bs) (w : World) (hl : s.length ≤ 9223372036854775807) :
    Calls Tryz.prog 74 #[.string ⟨s.toArray⟩] w fun e w' => e = .returned (.bool (predS s)) ∧ w = w' := by
  obtain ⟨v, hv⟩ : ∃ v, v = predS s := ⟨_, rfl⟩
  rw [← hv]
  unfold predS eachS at hv
  by_cases g1 : 1 ≤ s.length
  · by_cases g2 : s.length ≤ 32
    · have hz : 0 < s.length := g1
      have hf0 := headD_get hz
      rw [hf0, decide_eq_true g1, decide_eq_true g2, Bool.true_and, Bool.true_and] at hv
      have H1 := Lib.hid (rlower_any s[0].toNat)
      cases g3 : lowI s[0].toNat
      · have Hf : Hid (v = false) := by show v = _; rw [hv, g3]; simp
        have H1' := H1.out w
        rw [g3] at H1'
        clear hv hf0 g3
        go_enter Tryz.func74, Tryz.ntmps74
        go_wp2_with fail
        refine H1'.mono ?_
        rintro e w' ⟨rfl, rfl⟩
        go_wp2
        go_ret
        exact ⟨ret_bool Hf.out, rfl⟩
      · rw [g3, Bool.true_and] at hv
        have H1' := H1.out w
        rw [g3] at H1'
        by_cases hn : s = [110, 111, 116]
        · have Hf : Hid (v = false) := by show v = _; rw [hv, hn]; rfl
          clear hv hf0 g3 H1' H1
          subst hn
          have H1' := rlower_any 110 w
          rw [show lowI 110 = true from by decide] at H1'
          go_enter Tryz.func74, Tryz.ntmps74
          go_wp2_with fail
          refine (show Calls Tryz.prog 90 _ w _ from H1').mono ?_
          rintro e w' ⟨rfl, rfl⟩
          go_wp2_with fail
          go_ret
          exact ⟨ret_bool Hf.out, rfl⟩
        have hnb : (s == [110, 111, 116]) = false := by simpa using hn
        have Hf : Hid (v = (s.drop 0).all fun c => preI c.toNat) := by show v = _; rw [hv]; simp [sNot, hn, bne]
        clear hv hf0 g3
        go_enter Tryz.func74, Tryz.ntmps74
        go_wp2_with fail
        refine H1'.mono ?_
        rintro e w' ⟨rfl, rfl⟩
        go_wp2_with fail
        go_loop [3] (fun i => ∃ k : Nat, k ≤ s.length ∧ i = .int .i64 k ∧ Hid (v = (s.drop k).all fun c => preI c.toNat)) (fun i => s.length - (intOf i).toNat)
        case atStart => exact ⟨0, by omega, rfl, Hf⟩
        case round =>
          obtain ⟨k, hk, rfl, hf⟩ := hrel
          by_cases hlt : k < s.length
          · have hd : v = (preI s[k].toNat && (s.drop (k + 1)).all fun c => preI c.toNat) := by rw [hf.out, drop_get hlt, List.all_cons]
            unfold preI at hd
            have C0 := rlower_any s[k].toNat w
            have C1 := rdigit_any s[k].toNat w
            generalize hcn : (s[k].toNat : Int) = n at *
            by_cases hall : (lowI n || digI n || n == 95) = true
            · rw [hall, Bool.true_and] at hd
              have HD := Lib.hid hd; clear hd hf
              go_wp2_with fail
              refine C0.mono ?_
              rintro e w' ⟨rfl, rfl⟩
              cases i0 : lowI n
              rotate_left
              · go_wp2_with fail
                go_round
                case rel => exact ⟨k + 1, by omega, by go_num, HD.out⟩
                case measure => simp [intOf]; omega
              go_wp2_with fail
              refine C1.mono ?_
              rintro e w' ⟨rfl, rfl⟩
              cases i1 : digI n
              rotate_left
              · go_wp2_with fail
                go_round
                case rel => exact ⟨k + 1, by omega, by go_num, HD.out⟩
                case measure => simp [intOf]; omega
              have h95 : n = 95 := by simpa [i0, i1] using hall
              have h95b : (n == 95) = true := by simpa using h95
              go_wp2_with fail
              go_round
              case rel => exact ⟨k + 1, by omega, by go_num, HD.out⟩
              case measure => simp [intOf]; omega
            · have hall := Bool.eq_false_iff.2 hall
              rw [hall, Bool.false_and] at hd
              have HD := Lib.hid hd; clear hd hf
              simp only [Bool.or_eq_false_iff] at hall
              obtain ⟨⟨i0, i1⟩, h95b⟩ := hall
              go_wp2_with fail
              refine C0.mono ?_
              rintro e w' ⟨rfl, rfl⟩
              rw [i0]
              go_wp2_with fail
              refine C1.mono ?_
              rintro e w' ⟨rfl, rfl⟩
              rw [i1]
              go_wp2_with fail
              go_ret
              exact ⟨ret_bool HD.out, rfl⟩
          · go_wp2_with fail
            go_ret
            exact ⟨ret_bool (by rw [hf.out, drop_end hlt]; rfl), rfl⟩
    · have Hf : Hid (v = false) := by show v = _; rw [hv]; simp [g2]
      clear hv
      go_enter Tryz.func74, Tryz.ntmps74
      go_wp2
      go_ret
      exact ⟨ret_bool Hf.out, rfl⟩
  · have Hf : Hid (v = false) := by show v = _; rw [hv]; simp [g1]
    clear hv
    go_enter Tryz.func74, Tryz.ntmps74
    go_wp2
    go_ret
    exact ⟨ret_bool Hf.out, rfl⟩
set_option maxRecDepth 100000 in
set_option maxHeartbeats 2000000 in
theorem rvariable_any (s : Bs) (w : World) (hl : s.length ≤ 9223372036854775807) :
    Calls Tryz.prog 159 #[.string ⟨s.toArray⟩] w fun e w' => e = .returned (.bool (varS s)) ∧ w = w' := by
  obtain ⟨v, hv⟩ : ∃ v, v = varS s := ⟨_, rfl⟩
  rw [← hv]
  unfold varS eachS at hv
  by_cases g1 : 1 ≤ s.length
  · by_cases g2 : s.length ≤ 32
    · have hz : 0 < s.length := g1
      have hf0 := headD_get hz
      rw [hf0, decide_eq_true g1, decide_eq_true g2, Bool.true_and, Bool.true_and] at hv
      have H1 := Lib.hid (rupper_any s[0].toNat)
      cases g3 : uppI s[0].toNat
      · have Hf : Hid (v = false) := by show v = _; rw [hv, g3]; simp
        have H1' := H1.out w
        rw [g3] at H1'
        clear hv hf0 g3
        go_enter Tryz.func159, Tryz.ntmps159
        go_wp2_with fail
        refine H1'.mono ?_
        rintro e w' ⟨rfl, rfl⟩
        go_wp2
        go_ret
        exact ⟨ret_bool Hf.out, rfl⟩
      · rw [g3, Bool.true_and] at hv
        have H1' := H1.out w
        rw [g3] at H1'
        have Hf : Hid (v = (s.drop 0).all fun c => varI c.toNat) := hv
        clear hv hf0 g3
        go_enter Tryz.func159, Tryz.ntmps159
        go_wp2_with fail
        refine H1'.mono ?_
        rintro e w' ⟨rfl, rfl⟩
        go_wp2_with fail
        go_loop [3] (fun i => ∃ k : Nat, k ≤ s.length ∧ i = .int .i64 k ∧ Hid (v = (s.drop k).all fun c => varI c.toNat)) (fun i => s.length - (intOf i).toNat)
        case atStart => exact ⟨0, by omega, rfl, Hf⟩
        case round =>
          obtain ⟨k, hk, rfl, hf⟩ := hrel
          by_cases hlt : k < s.length
          · have hd : v = (varI s[k].toNat && (s.drop (k + 1)).all fun c => varI c.toNat) := by rw [hf.out, drop_get hlt, List.all_cons]
            unfold varI at hd
            have C0 := rlower_any s[k].toNat w
            have C1 := rupper_any s[k].toNat w
            have C2 := rdigit_any s[k].toNat w
            generalize hcn : (s[k].toNat : Int) = n at *
            by_cases hall : (lowI n || uppI n || digI n || n == 95) = true
            · rw [hall, Bool.true_and] at hd
              have HD := Lib.hid hd; clear hd hf
              go_wp2_with fail
              refine C0.mono ?_
              rintro e w' ⟨rfl, rfl⟩
              cases i0 : lowI n
              rotate_left
              · go_wp2_with fail
                go_round
                case rel => exact ⟨k + 1, by omega, by go_num, HD.out⟩
                case measure => simp [intOf]; omega
              go_wp2_with fail
              refine C1.mono ?_
              rintro e w' ⟨rfl, rfl⟩
              cases i1 : uppI n
              rotate_left
              · go_wp2_with fail
                go_round
                case rel => exact ⟨k + 1, by omega, by go_num, HD.out⟩
                case measure => simp [intOf]; omega
              go_wp2_with fail
              refine C2.mono ?_
              rintro e w' ⟨rfl, rfl⟩
              cases i2 : digI n
              rotate_left
              · go_wp2_with fail
                go_round
                case rel => exact ⟨k + 1, by omega, by go_num, HD.out⟩
                case measure => simp [intOf]; omega
              have h95 : n = 95 := by simpa [i0, i1, i2] using hall
              have h95b : (n == 95) = true := by simpa using h95
              go_wp2_with fail
              go_round
              case rel => exact ⟨k + 1, by omega, by go_num, HD.out⟩
              case measure => simp [intOf]; omega
            · have hall := Bool.eq_false_iff.2 hall
              rw [hall, Bool.false_and] at hd
              have HD := Lib.hid hd; clear hd hf
              simp only [Bool.or_eq_false_iff] at hall
              obtain ⟨⟨⟨i0, i1⟩, i2⟩, h95b⟩ := hall
              go_wp2_with fail
              refine C0.mono ?_
              rintro e w' ⟨rfl, rfl⟩
              rw [i0]
              go_wp2_with fail
              refine C1.mono ?_
              rintro e w' ⟨rfl, rfl⟩
              rw [i1]
              go_wp2_with fail
              refine C2.mono ?_
              rintro e w' ⟨rfl, rfl⟩
              rw [i2]
              go_wp2_with fail
              go_ret
              exact ⟨ret_bool HD.out, rfl⟩
          · go_wp2_with fail
            go_ret
            exact ⟨ret_bool (by rw [hf.out, drop_end hlt]; rfl), rfl⟩
    · have Hf : Hid (v = false) := by show v = _; rw [hv]; simp [g2]
      clear hv
      go_enter Tryz.func159, Tryz.ntmps159
      go_wp2
      go_ret
      exact ⟨ret_bool Hf.out, rfl⟩
  · have Hf : Hid (v = false) := by show v = _; rw [hv]; simp [g1]
    clear hv
    go_enter Tryz.func159, Tryz.ntmps159
    go_wp2
    go_ret
    exact ⟨ret_bool Hf.out, rfl⟩
end Go.Proofs.YtjopmgoacncmgaaGreatDoor

namespace Go.Proofs.YtjopmgoacncmgaaGreatDoor
open Go.RowKit

set_option maxRecDepth 100000 in
set_option maxHeartbeats 2000000 in
theorem rargument_any (a : Arg) (w : World) (ha : OkA a) :
    Calls Tryz.prog 123 #[vArg a] w fun e w' => e = .returned (.bool (formedS a)) ∧ Below w.heap.size w w' := by
  obtain ⟨v, hv⟩ : ∃ v, v = formedS a := ⟨_, rfl⟩
  rw [← hv]
  unfold formedS at hv
  obtain ⟨k, t, n⟩ := a
  unfold vArg
  simp only at hv ⊢
  have h1 := fun w => rvariable_any t w ha.1
  have h2 := fun w => rquoted_any t w ha.1
  have HV := Lib.hid hv; clear hv ha
  by_cases k1 : k = 1
  · subst k1
    cases hx : varS t
    all_goals (rw [hx] at h1; have H1 := Lib.hid h1; clear h1 h2)
    all_goals go_enter Tryz.func123, Tryz.ntmps123
    all_goals go_wp2_with fail
    all_goals refine (H1.out _).mono ?_
    all_goals rintro e w' ⟨rfl, rfl⟩
    all_goals go_wp2_with fail
    all_goals (go_ret; refine ⟨ret_bool ?_, boxed⟩; rw [HV.out])
    all_goals simp [hx]
  · have k1b : (k == 1) = false := by simpa using k1
    by_cases k2 : k = 2
    · subst k2
      cases hx : conS t
      all_goals (rw [hx] at h2; have H1 := Lib.hid h2; clear h1 h2)
      all_goals go_enter Tryz.func123, Tryz.ntmps123
      all_goals go_wp2_with fail
      all_goals refine (H1.out _).mono ?_
      all_goals rintro e w' ⟨rfl, rfl⟩
      all_goals go_wp2_with fail
      all_goals (go_ret; refine ⟨ret_bool ?_, boxed⟩; rw [HV.out])
      all_goals simp [hx]
    · have k2b : (k == 2) = false := by simpa using k2
      clear h1 h2
      by_cases k3 : k = 3
      · subst k3
        go_enter Tryz.func123, Tryz.ntmps123
        go_wp2_with fail
        all_goals (go_ret; refine ⟨ret_bool ?_, boxed⟩; rw [HV.out])
        all_goals first | (simp_all; done) | (simp_all; omega)
      · have k3b : (k == 3) = false := by simpa using k3
        go_enter Tryz.func123, Tryz.ntmps123
        go_wp2_with fail
        go_ret
        exact ⟨ret_bool (by rw [HV.out]; simp [k1, k2, k3]), boxed⟩

set_option maxRecDepth 100000 in
set_option maxHeartbeats 2000000 in
theorem rarguments_any (A : Option Addr) (n c : Nat) (l : List Arg) (w : World) (S : Nat → Prop) (hl : Sl w S A n c l) (ho : OkAs l) :
    Calls Tryz.prog 75 #[.slice A n c] w fun e w' => e = .returned (.bool (decide (l.length ≤ 6) && argsS l)) ∧ Below w.heap.size w w' := by
  obtain ⟨v, hv⟩ : ∃ v, v = (decide (l.length ≤ 6) && argsS l) := ⟨_, rfl⟩
  rw [← hv]
  have hn := hl.len
  subst hn
  have hle := hl.le
  have HF : Hid (v = (decide (l.length ≤ 6) && (l.drop 0).all formedS)) := hv
  have HL := Lib.hid hl; have HO := Lib.hid ho; clear hv hl ho
  go_enter Tryz.func75, Tryz.ntmps75
  go_wp2_with fail
  go_loopw [3] (fun i wr => ∃ k : Nat, k ≤ l.length ∧ i = .int .i64 k ∧ Below w.heap.size w wr ∧ Hid (v = (decide (l.length ≤ 6) && (l.drop k).all formedS))) (fun i _ => l.length - (intOf i).toNat)
  case atStart => exact ⟨0, by omega, rfl, Below.refl _ _, HF⟩
  case round =>
    obtain ⟨k, hk, rfl, hb, hf⟩ := hrel
    by_cases hlt : k < l.length
    · obtain ⟨b1, o1, rfl, -, hbs1, h1, h2, h3⟩ := (HL.out.below hb).arg hlt
      have hd := hf.out
      rw [drop_get hlt, List.all_cons] at hd
      have hca := fun w => rargument_any l[k] w (HO.out _ (List.getElem_mem hlt))
      generalize l[k] = x at *
      unfold vArg at hca
      cases hx : formedS x
      · rw [hx, Bool.false_and, Bool.and_false] at hd
        rw [hx] at hca
        have HD := Lib.hid hd; have HCA := Lib.hid hca; have HB := Lib.hid hb; clear hd hca hf hb hx
        go_wp2_with fail
        refine (HCA.out _).mono ?_
        rintro e w5 ⟨rfl, hb5⟩
        go_wp2_with fail
        go_ret
        exact ⟨ret_bool HD.out, HB.out.trans (hb5.mono HB.out.size)⟩
      · rw [hx, Bool.true_and] at hd
        rw [hx] at hca
        have HD := Lib.hid hd; have HCA := Lib.hid hca; have HB := Lib.hid hb; clear hd hca hf hb hx
        go_wp2_with fail
        refine (HCA.out _).mono ?_
        rintro e w5 ⟨rfl, hb5⟩
        go_wp2_with fail
        go_roundw
        case rel => exact ⟨k + 1, by omega, by go_num, HB.out.trans (hb5.mono HB.out.size), HD.out⟩
        case measure => simp [intOf]; omega
    · have hd := hf.out
      rw [drop_end hlt] at hd
      have HD := Lib.hid hd; clear hd hf
      go_wp2_with fail
      go_ret
      exact ⟨ret_bool (by rw [HD.out]; simp; omega), hb⟩

set_option maxRecDepth 100000 in
set_option maxHeartbeats 2000000 in
theorem ratomF_any (x : Atm) (A : Option Addr) (n c : Nat) (w : World) (S : Nat → Prop) (hl : Sl w S A n c x.args) (ho : OkT x) :
    Calls Tryz.prog 37 #[.agg #[.string ⟨x.name.toArray⟩, .slice A n c]] w fun e w' => e = .returned (.bool (atomS x)) ∧ Below w.heap.size w w' := by
  obtain ⟨v, hv⟩ : ∃ v, v = atomS x := ⟨_, rfl⟩
  rw [← hv]
  unfold atomS at hv
  obtain ⟨nm, l⟩ := x
  simp only at hl hv ⊢
  have h1 := fun w => rpredicate_any nm w ho.1
  have h2 := fun w' (hb : Below w.heap.size w w') => rarguments_any A n c l w' S (hl.below hb) ho.2
  rw [Bool.and_assoc] at hv
  have H2 := Lib.hid h2
  cases hx : predS nm
  · rw [hx] at h1 hv
    have H1 := Lib.hid h1; have HV := Lib.hid hv; clear h1 h2 hv hl ho hx
    go_enter Tryz.func37, Tryz.ntmps37
    go_wp2_with fail
    refine (H1.out _).mono ?_
    rintro e w' ⟨rfl, rfl⟩
    go_wp2_with fail
    go_ret
    exact ⟨ret_bool (by rw [HV.out]; rfl), boxed⟩
  · rw [hx, Bool.true_and] at hv
    rw [hx] at h1
    have H1 := Lib.hid h1; have HV := Lib.hid hv; clear h1 h2 hv hl ho hx
    go_enter Tryz.func37, Tryz.ntmps37
    go_wp2_with fail
    refine (H1.out _).mono ?_
    rintro e w' ⟨rfl, rfl⟩
    go_wp2_with fail
    refine (H2.out _ boxed).mono ?_
    rintro e w2 ⟨rfl, hb2⟩
    rw [← HV.out]
    go_wp2_with fail
    go_ret
    exact ⟨rfl, boxed.trans (hb2.mono (by simp))⟩
end Go.Proofs.YtjopmgoacncmgaaGreatDoor
