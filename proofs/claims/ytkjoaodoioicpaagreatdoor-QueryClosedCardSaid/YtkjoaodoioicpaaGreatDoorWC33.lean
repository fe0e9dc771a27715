/- Query (package licitlaw54): a part of the proofs of its laws; see the law's own text, which comes last in 'order'. No conditions of its own. -/
import Derived.Test.YtkjoaodoioicpaaGreatDoorWC02
import Derived.Test.YtkjoaodoioicpaaGreatDoorWC31
set_option linter.unusedVariables false
set_option linter.unusedSimpArgs false
namespace Go.Proofs.YtkjoaodoioicpaaGreatDoor
open Go.RowKit
theorem rlower_any (c : Int) (w : World) :
    Calls Tryz.prog 65 #[.int .u8 c] w fun e w' => e = .returned (.bool (lowI c)) ∧ w = w' := by
  go_enter Tryz.func65, Tryz.ntmps65
  go_wp2
  all_goals go_ret
  all_goals (simp_all [lowI]; try omega)
theorem rupper_any (c : Int) (w : World) :
    Calls Tryz.prog 66 #[.int .u8 c] w fun e w' => e = .returned (.bool (uppI c)) ∧ w = w' := by
  go_enter Tryz.func66, Tryz.ntmps66
  go_wp2
  all_goals go_ret
  all_goals (simp_all [uppI]; try omega)
theorem rdigit_any (c : Int) (w : World) :
    Calls Tryz.prog 67 #[.int .u8 c] w fun e w' => e = .returned (.bool (digI c)) ∧ w = w' := by
  go_enter Tryz.func67, Tryz.ntmps67
  go_wp2
  all_goals go_ret
  all_goals (simp_all [digI]; try omega)
theorem rquoted_any (s : Bs) (w : World) (hl : s.length ≤ 9223372036854775807) :
    Calls Tryz.prog 152 #[.string ⟨s.toArray⟩] w fun e w' => e = .returned (.bool (conS s)) ∧ w = w' := by
  obtain ⟨v, hv⟩ : ∃ v, v = conS s := ⟨_, rfl⟩
  rw [← hv]
  have Hf : Hid (v = (decide (s.length ≤ 128) && (s.drop 0).all fun c => conI c.toNat)) := hv
  clear hv
  go_enter Tryz.func152, Tryz.ntmps152
  go_wp2_with fail
  go_loop [3] (fun i => ∃ k : Nat, k ≤ s.length ∧ i = .int .i64 k ∧ Hid (v = (decide (s.length ≤ 128) && (s.drop k).all fun c => conI c.toNat))) (fun i => s.length - (intOf i).toNat)
  case atStart => exact ⟨0, by omega, rfl, Hf⟩
  case round =>
    obtain ⟨k, hk, rfl, hf⟩ := hrel
    by_cases hlt : k < s.length
    · have hd : v = (decide (s.length ≤ 128) && (conI s[k].toNat && (s.drop (k + 1)).all fun c => conI c.toNat)) := by rw [hf.out, drop_get hlt, List.all_cons]
      cases hc : conI s[k].toNat
      · rw [hc, Bool.false_and, Bool.and_false] at hd
        have HD := Lib.hid hd
        clear hf hd
        unfold conI at hc
        go_wp2_with fail
        all_goals first | (go_ret; exact ⟨ret_bool HD.out, rfl⟩) | (exfalso; simp_all; done) | (exfalso; simp_all; omega)
      · rw [hc, Bool.true_and] at hd
        have HD := Lib.hid hd
        clear hf hd
        unfold conI at hc
        simp only [Bool.and_eq_true, decide_eq_true_eq, bne_iff_ne, ne_eq] at hc
        obtain ⟨⟨⟨c1, c2⟩, c3⟩, c4⟩ := hc
        have d1 : ¬ ((s[k].toNat : Int) < 32) := by omega
        have d2 : ¬ ((126 : Int) < s[k].toNat) := by omega
        have d3 : ((s[k].toNat : Int) == 34) = false := by simpa using c3
        have d4 : ((s[k].toNat : Int) == 92) = false := by simpa using c4
        go_wp2_with fail
        go_round
        case rel => exact ⟨k + 1, by omega, by go_num, HD.out⟩
        case measure => simp [intOf]; omega
    · go_wp2_with fail
      go_ret
      exact ⟨ret_bool (by rw [hf.out, drop_end hlt]; simp; omega), rfl⟩
set_option maxRecDepth 100000 in
set_option maxHeartbeats 2000000 in
theorem rpredicate_any (s : Bs) (w : World) (hl : s.length ≤ 9223372036854775807) :
    Calls Tryz.prog 101 #[.string ⟨s.toArray⟩] w fun e w' => e = .returned (.bool (predS s)) ∧ w = w' := by
  obtain ⟨v, hv⟩ : ∃ v, v = predS s := ⟨_, rfl⟩
  rw [← hv]
  unfold predS eachS at hv
  by_cases g1 : 1 ≤ s.length
  · by_cases g2 : s.length ≤ 32
    · have hz : 0 < s.length := g1
      have hf0 := headD_get hz
      rw [hf0, decide_eq_true g1, decide_eq_true g2, Bool.true_and, Bool.true_and] at hv
      have H1 := Lib.hid (rlower_any s[0].toNat)
      cases g3 : lowI s[0].toNat
      · have Hf : Hid (v = false) := by show v = _; rw [hv, g3]; simp
        have H1' := H1.out w
        rw [g3] at H1'
        clear hv hf0 g3
        go_enter Tryz.func101, Tryz.ntmps101
        go_wp2_with fail
        refine H1'.mono ?_
        rintro e w' ⟨rfl, rfl⟩
        go_wp2
        go_ret
        exact ⟨ret_bool Hf.out, rfl⟩
      · rw [g3, Bool.true_and] at hv
        have H1' := H1.out w
        rw [g3] at H1'
        by_cases hn : s = [110, 111, 116]
        · have Hf : Hid (v = false) := by show v = _; rw [hv, hn]; rfl
          clear hv hf0 g3 H1' H1
          subst hn
          have H1' := rlower_any 110 w
          rw [show lowI 110 = true from by decide] at H1'
          go_enter Tryz.func101, Tryz.ntmps101
          go_wp2_with fail
          refine (show Calls Tryz.prog 65 _ w _ from H1').mono ?_
          rintro e w' ⟨rfl, rfl⟩
          go_wp2_with fail
          go_ret
          exact ⟨ret_bool Hf.out, rfl⟩
        have hnb : (s == [110, 111, 116]) = false := by simpa using hn
        have Hf : Hid (v = (s.drop 0).all fun c => preI c.toNat) := by show v = _; rw [hv]; simp [sNot, hn, bne]
        clear hv hf0 g3
        go_enter Tryz.func101, Tryz.ntmps101
        go_wp2_with fail
        refine H1'.mono ?_
        rintro e w' ⟨rfl, rfl⟩
        go_wp2_with fail
        go_loop [3] (fun i => ∃ k : Nat, k ≤ s.length ∧ i = .int .i64 k ∧ Hid (v = (s.drop k).all fun c => preI c.toNat)) (fun i => s.length - (intOf i).toNat)
        case atStart => exact ⟨0, by omega, rfl, Hf⟩
        case round =>
          obtain ⟨k, hk, rfl, hf⟩ := hrel
          by_cases hlt : k < s.length
          · have hd : v = (preI s[k].toNat && (s.drop (k + 1)).all fun c => preI c.toNat) := by rw [hf.out, drop_get hlt, List.all_cons]
            unfold preI at hd
            have C0 := rlower_any s[k].toNat w
            have C1 := rdigit_any s[k].toNat w
            generalize hcn : (s[k].toNat : Int) = n at *
            by_cases hall : (lowI n || digI n || n == 95) = true
            · rw [hall, Bool.true_and] at hd
              have HD := Lib.hid hd; clear hd hf
              go_wp2_with fail
              refine C0.mono ?_
              rintro e w' ⟨rfl, rfl⟩
              cases i0 : lowI n
              rotate_left
              · go_wp2_with fail
                go_round
                case rel => exact ⟨k + 1, by omega, by go_num, HD.out⟩
                case measure => simp [intOf]; omega
              go_wp2_with fail
              refine C1.mono ?_
              rintro e w' ⟨rfl, rfl⟩
              cases i1 : digI n
              rotate_left
              · go_wp2_with fail
                go_round
                case rel => exact ⟨k + 1, by omega, by go_num, HD.out⟩
                case measure => simp [intOf]; omega
              have h95 : n = 95 := by simpa [i0, i1] using hall
              have h95b : (n == 95) = true := by simpa using h95
              go_wp2_with fail
              go_round
              case rel => exact ⟨k + 1, by omega, by go_num, HD.out⟩
              case measure => simp [intOf]; omega
            · have hall := Bool.eq_false_iff.2 hall
              rw [hall, Bool.false_and] at hd
              have HD := Lib.hid hd; clear hd hf
              simp only [Bool.or_eq_false_iff] at hall
              obtain ⟨⟨i0, i1⟩, h95b⟩ := hall
              go_wp2_with fail
              refine C0.mono ?_
              rintro e w' ⟨rfl, rfl⟩
              rw [i0]
              go_wp2_with fail
              refine C1.mono ?_
              rintro e w' ⟨rfl, rfl⟩
              rw [i1]
              go_wp2_with fail
              go_ret
              exact ⟨ret_bool HD.out, rfl⟩
          · go_wp2_with fail
            go_ret
            exact ⟨ret_bool (by rw [hf.out, drop_end hlt]; rfl), rfl⟩
    · have Hf : Hid (v = false) := by show v = _; rw [hv]; simp [g2]
      clear hv
      go_enter Tryz.func101, Tryz.ntmps101
      go_wp2
      go_ret
      exact ⟨ret_bool Hf.out, rfl⟩
  · have Hf : Hid (v = false) := by show v = _; rw [hv]; simp [g1]
    clear hv
    go_enter Tryz.func101, Tryz.ntmps101
    go_wp2
    go_ret
    exact ⟨ret_bool Hf.out, rfl⟩
set_option maxRecDepth 100000 in
set_option maxHeartbeats 2000000 in
theorem rvariable_any (s : Bs) (w : World) (hl : s.length ≤ 9223372036854775807) :
    Calls Tryz.prog 151 #[.string ⟨s.toArray⟩] w fun e w' => e = .returned (.bool (varS s)) ∧ w = w' := by
  obtain ⟨v, hv⟩ : ∃ v, v = varS s := ⟨_, rfl⟩
  rw [← hv]
  unfold varS eachS at hv
  by_cases g1 : 1 ≤ s.length
  · by_cases g2 : s.length ≤ 32
    · have hz : 0 < s.length := g1
      have hf0 := headD_get hz
      rw [hf0, decide_eq_true g1, decide_eq_true g2, Bool.true_and, Bool.true_and] at hv
      have H1 := Lib.hid (rupper_any s[0].toNat)
      cases g3 : uppI s[0].toNat
      · have Hf : Hid (v = false) := by show v = _; rw [hv, g3]; simp
        have H1' := H1.out w
        rw [g3] at H1'
        clear hv hf0 g3
        go_enter Tryz.func151, Tryz.ntmps151
        go_wp2_with fail
        refine H1'.mono ?_
        rintro e w' ⟨rfl, rfl⟩
        go_wp2
        go_ret
        exact ⟨ret_bool Hf.out, rfl⟩
      · rw [g3, Bool.true_and] at hv
        have H1' := H1.out w
        rw [g3] at H1'
        have Hf : Hid (v = (s.drop 0).all fun c => varI c.toNat) := hv
        clear hv hf0 g3
        go_enter Tryz.func151, Tryz.ntmps151
        go_wp2_with fail
        refine H1'.mono ?_
        rintro e w' ⟨rfl, rfl⟩
        go_wp2_with fail
        go_loop [3] (fun i => ∃ k : Nat, k ≤ s.length ∧ i = .int .i64 k ∧ Hid (v = (s.drop k).all fun c => varI c.toNat)) (fun i => s.length - (intOf i).toNat)
        case atStart => exact ⟨0, by omega, rfl, Hf⟩
        case round =>
          obtain ⟨k, hk, rfl, hf⟩ := hrel
          by_cases hlt : k < s.length
          · have hd : v = (varI s[k].toNat && (s.drop (k + 1)).all fun c => varI c.toNat) := by rw [hf.out, drop_get hlt, List.all_cons]
            unfold varI at hd
            have C0 := rlower_any s[k].toNat w
            have C1 := rupper_any s[k].toNat w
            have C2 := rdigit_any s[k].toNat w
            generalize hcn : (s[k].toNat : Int) = n at *
            by_cases hall : (lowI n || uppI n || digI n || n == 95) = true
            · rw [hall, Bool.true_and] at hd
              have HD := Lib.hid hd; clear hd hf
              go_wp2_with fail
              refine C0.mono ?_
              rintro e w' ⟨rfl, rfl⟩
              cases i0 : lowI n
              rotate_left
              · go_wp2_with fail
                go_round
                case rel => exact ⟨k + 1, by omega, by go_num, HD.out⟩
                case measure => simp [intOf]; omega
              go_wp2_with fail
              refine C1.mono ?_
              rintro e w' ⟨rfl, rfl⟩
              cases i1 : uppI n
              rotate_left
              · go_wp2_with fail
                go_round
                case rel => exact ⟨k + 1, by omega, by go_num, HD.out⟩
                case measure => simp [intOf]; omega
              go_wp2_with fail
              refine C2.mono ?_
              rintro e w' ⟨rfl, rfl⟩
              cases i2 : digI n
              rotate_left
              · go_wp2_with fail
                go_round
                case rel => exact ⟨k + 1, by omega, by go_num, HD.out⟩
                case measure => simp [intOf]; omega
              have h95 : n = 95 := by simpa [i0, i1, i2] using hall
              have h95b : (n == 95) = true := by simpa using h95
              go_wp2_with fail
              go_round
              case rel => exact ⟨k + 1, by omega, by go_num, HD.out⟩
              case measure => simp [intOf]; omega
            · have hall := Bool.eq_false_iff.2 hall
              rw [hall, Bool.false_and] at hd
              have HD := Lib.hid hd; clear hd hf
              simp only [Bool.or_eq_false_iff] at hall
              obtain ⟨⟨⟨i0, i1⟩, i2⟩, h95b⟩ := hall
              go_wp2_with fail
              refine C0.mono ?_
              rintro e w' ⟨rfl, rfl⟩
              rw [i0]
              go_wp2_with fail
              refine C1.mono ?_
              rintro e w' ⟨rfl, rfl⟩
              rw [i1]
              go_wp2_with fail
              refine C2.mono ?_
              rintro e w' ⟨rfl, rfl⟩
              rw [i2]
              go_wp2_with fail
              go_ret
              exact ⟨ret_bool HD.out, rfl⟩
          · go_wp2_with fail
            go_ret
            exact ⟨ret_bool (by rw [hf.out, drop_end hlt]; rfl), rfl⟩
    · have Hf : Hid (v = false) := by show v = _; rw [hv]; simp [g2]
      clear hv
      go_enter Tryz.func151, Tryz.ntmps151
      go_wp2
      go_ret
      exact ⟨ret_bool Hf.out, rfl⟩
  · have Hf : Hid (v = false) := by show v = _; rw [hv]; simp [g1]
    clear hv
    go_enter Tryz.func151, Tryz.ntmps151
    go_wp2
    go_ret
    exact ⟨ret_bool Hf.out, rfl⟩
end Go.Proofs.YtkjoaodoioicpaaGreatDoor
namespace Go.Proofs.YtkjoaodoioicpaaGreatDoor
open Go.RowKit
set_option maxRecDepth 100000 in
set_option maxHeartbeats 2000000 in
theorem rargument_any (a : Arg) (w : World) (ha : OkA a) :
    Calls Tryz.prog 133 #[vArg a] w fun e w' => e = .returned (.bool (formedS a)) ∧ Below w.heap.size w w' := by
  obtain ⟨v, hv⟩ : ∃ v, v = formedS a := ⟨_, rfl⟩
  rw [← hv]
  unfold formedS at hv
  obtain ⟨k, t, n⟩ := a
  unfold vArg
  simp only at hv ⊢
  have h1 := fun w => rvariable_any t w ha.1
  have h2 := fun w => rquoted_any t w ha.1
  have HV := Lib.hid hv; clear hv ha
  by_cases k1 : k = 1
  · subst k1
    cases hx : varS t
    all_goals (rw [hx] at h1; have H1 := Lib.hid h1; clear h1 h2)
    all_goals go_enter Tryz.func133, Tryz.ntmps133
    all_goals go_wp2_with fail
    all_goals refine (H1.out _).mono ?_
    all_goals rintro e w' ⟨rfl, rfl⟩
    all_goals go_wp2_with fail
    all_goals (go_ret; refine ⟨ret_bool ?_, boxed⟩; rw [HV.out])
    all_goals simp [hx]
  · have k1b : (k == 1) = false := by simpa using k1
    by_cases k2 : k = 2
    · subst k2
      cases hx : conS t
      all_goals (rw [hx] at h2; have H1 := Lib.hid h2; clear h1 h2)
      all_goals go_enter Tryz.func133, Tryz.ntmps133
      all_goals go_wp2_with fail
      all_goals refine (H1.out _).mono ?_
      all_goals rintro e w' ⟨rfl, rfl⟩
      all_goals go_wp2_with fail
      all_goals (go_ret; refine ⟨ret_bool ?_, boxed⟩; rw [HV.out])
      all_goals simp [hx]
    · have k2b : (k == 2) = false := by simpa using k2
      clear h1 h2
      by_cases k3 : k = 3
      · subst k3
        go_enter Tryz.func133, Tryz.ntmps133
        go_wp2_with fail
        all_goals (go_ret; refine ⟨ret_bool ?_, boxed⟩; rw [HV.out])
        all_goals first | (simp_all; done) | (simp_all; omega)
      · have k3b : (k == 3) = false := by simpa using k3
        go_enter Tryz.func133, Tryz.ntmps133
        go_wp2_with fail
        go_ret
        exact ⟨ret_bool (by rw [HV.out]; simp [k1, k2, k3]), boxed⟩
set_option maxRecDepth 100000 in
set_option maxHeartbeats 2000000 in
theorem rarguments_any (A : Option Addr) (n c : Nat) (l : List Arg) (w : World) (S : Nat → Prop) (hl : Sl w S A n c l) (ho : OkAs l) :
    Calls Tryz.prog 134 #[.slice A n c] w fun e w' => e = .returned (.bool (decide (l.length ≤ 6) && argsS l)) ∧ Below w.heap.size w w' := by
  obtain ⟨v, hv⟩ : ∃ v, v = (decide (l.length ≤ 6) && argsS l) := ⟨_, rfl⟩
  rw [← hv]
  have hn := hl.len
  subst hn
  have hle := hl.le
  have HF : Hid (v = (decide (l.length ≤ 6) && (l.drop 0).all formedS)) := hv
  have HL := Lib.hid hl; have HO := Lib.hid ho; clear hv hl ho
  go_enter Tryz.func134, Tryz.ntmps134
  go_wp2_with fail
  go_loopw [3] (fun i wr => ∃ k : Nat, k ≤ l.length ∧ i = .int .i64 k ∧ Below w.heap.size w wr ∧ Hid (v = (decide (l.length ≤ 6) && (l.drop k).all formedS))) (fun i _ => l.length - (intOf i).toNat)
  case atStart => exact ⟨0, by omega, rfl, Below.refl _ _, HF⟩
  case round =>
    obtain ⟨k, hk, rfl, hb, hf⟩ := hrel
    by_cases hlt : k < l.length
    · obtain ⟨b1, o1, rfl, -, hbs1, h1, h2, h3⟩ := (HL.out.below hb).arg hlt
      have hd := hf.out
      rw [drop_get hlt, List.all_cons] at hd
      have hca := fun w => rargument_any l[k] w (HO.out _ (List.getElem_mem hlt))
      generalize l[k] = x at *
      unfold vArg at hca
      cases hx : formedS x
      · rw [hx, Bool.false_and, Bool.and_false] at hd
        rw [hx] at hca
        have HD := Lib.hid hd; have HCA := Lib.hid hca; have HB := Lib.hid hb; clear hd hca hf hb hx
        go_wp2_with fail
        refine (HCA.out _).mono ?_
        rintro e w5 ⟨rfl, hb5⟩
        go_wp2_with fail
        go_ret
        exact ⟨ret_bool HD.out, HB.out.trans (hb5.mono HB.out.size)⟩
      · rw [hx, Bool.true_and] at hd
        rw [hx] at hca
        have HD := Lib.hid hd; have HCA := Lib.hid hca; have HB := Lib.hid hb; clear hd hca hf hb hx
        go_wp2_with fail
        refine (HCA.out _).mono ?_
        rintro e w5 ⟨rfl, hb5⟩
        go_wp2_with fail
        go_roundw
        case rel => exact ⟨k + 1, by omega, by go_num, HB.out.trans (hb5.mono HB.out.size), HD.out⟩
        case measure => simp [intOf]; omega
    · have hd := hf.out
      rw [drop_end hlt] at hd
      have HD := Lib.hid hd; clear hd hf
      go_wp2_with fail
      go_ret
      exact ⟨ret_bool (by rw [HD.out]; simp; omega), hb⟩
set_option maxRecDepth 100000 in
set_option maxHeartbeats 2000000 in
theorem ratomF_any (x : Atm) (A : Option Addr) (n c : Nat) (w : World) (S : Nat → Prop) (hl : Sl w S A n c x.args) (ho : OkT x) :
    Calls Tryz.prog 104 #[.agg #[.string ⟨x.name.toArray⟩, .slice A n c]] w fun e w' => e = .returned (.bool (atomS x)) ∧ Below w.heap.size w w' := by
  obtain ⟨v, hv⟩ : ∃ v, v = atomS x := ⟨_, rfl⟩
  rw [← hv]
  unfold atomS at hv
  obtain ⟨nm, l⟩ := x
  simp only at hl hv ⊢
  have h1 := fun w => rpredicate_any nm w ho.1
  have h2 := fun w' (hb : Below w.heap.size w w') => rarguments_any A n c l w' S (hl.below hb) ho.2
  rw [Bool.and_assoc] at hv
  have H2 := Lib.hid h2
  cases hx : predS nm
  · rw [hx] at h1 hv
    have H1 := Lib.hid h1; have HV := Lib.hid hv; clear h1 h2 hv hl ho hx
    go_enter Tryz.func104, Tryz.ntmps104
    go_wp2_with fail
    refine (H1.out _).mono ?_
    rintro e w' ⟨rfl, rfl⟩
    go_wp2_with fail
    go_ret
    exact ⟨ret_bool (by rw [HV.out]; rfl), boxed⟩
  · rw [hx, Bool.true_and] at hv
    rw [hx] at h1
    have H1 := Lib.hid h1; have HV := Lib.hid hv; clear h1 h2 hv hl ho hx
    go_enter Tryz.func104, Tryz.ntmps104
    go_wp2_with fail
    refine (H1.out _).mono ?_
    rintro e w' ⟨rfl, rfl⟩
    go_wp2_with fail
    refine (H2.out _ boxed).mono ?_
    rintro e w2 ⟨rfl, hb2⟩
    rw [← HV.out]
    go_wp2_with fail
    go_ret
    exact ⟨rfl, boxed.trans (hb2.mono (by simp))⟩
end Go.Proofs.YtkjoaodoioicpaaGreatDoor
namespace Go.Proofs.YtkjoaodoioicpaaGreatDoor
open Go.RowKit
theorem comparison_any (s : Bs) (w : World) : Calls Tryz.prog 103 #[.string ⟨s.toArray⟩] w fun e w' => e = .returned (.bool (opsL.contains s)) ∧ w' = w := by
  go_enter Tryz.func103, Tryz.ntmps103
  go_wp2
  all_goals go_ret
  all_goals (refine ⟨ret_bool ?_, rfl⟩; rw [Bool.eq_iff_iff]; simp_all [opsL])
set_option maxRecDepth 100000 in
set_option maxHeartbeats 2000000 in
theorem rliteral_any (l : Ltl) (A : Option Addr) (n c : Nat) (w : World) (S : Nat → Prop) (hl : Sl w S A n c l.atom.args) (ho : OkL l) :
    Calls Tryz.prog 105 #[.agg #[.bool l.neg, .string ⟨l.op.toArray⟩, .string ⟨l.atom.name.toArray⟩, .slice A n c]] w fun e w' => e = .returned (.bool (ltlS l)) ∧ Below w.heap.size w w' := by
  obtain ⟨v, hv⟩ : ∃ v, v = ltlS l := ⟨_, rfl⟩
  rw [← hv]
  unfold ltlS compsS at hv
  have hn := hl.len
  obtain ⟨neg, op, ⟨nm, args⟩⟩ := l
  simp only at hl hv hn ⊢
  cases op with
  | nil =>
    simp only [List.isEmpty_nil, Bool.not_true, Bool.not_false, if_true] at hv
    have hat := fun w S (h : Sl w S A n c args) => ratomF_any ⟨nm, args⟩ A n c w S h ho.2
    rw [← hv] at hat
    have HAT := Lib.hid hat; have HLL := Lib.hid hl
    clear hat hl ho hv hn
    go_enter Tryz.func105, Tryz.ntmps105
    go_wp2_with fail
    refine (HAT.out _ _ (HLL.out.alloc _)).mono ?_
    rintro e w2 ⟨rfl, hb2⟩
    go_wp2_with fail
    go_ret
    exact ⟨rfl, boxed.trans (hb2.mono (by simp))⟩
  | cons o1 orr =>
    simp only [List.isEmpty_cons, Bool.not_false, Bool.not_true, Bool.false_eq_true, if_false] at hv
    have hfa := fun w S (h : Sl w S A n c args) => rarguments_any A n c args w S h ho.2.2
    have hcm := fun w => comparison_any (o1 :: orr) w
    have hop : ((o1 :: orr : Bs) == []) = false := rfl
    rw [← hn] at hv hfa
    generalize opsL.contains (o1 :: orr) = b1 at *
    generalize argsS args = b5 at *
    have hq2 : ((n : Int) == 2) = (n == 2) := by rw [Bool.eq_iff_iff]; simp; omega
    have HFA := Lib.hid hfa; have HCM := Lib.hid hcm; have HLL := Lib.hid hl; have Hv := Lib.hid hv
    clear hfa hcm hl ho hv hn
    by_cases hop1 : b1 = true ∧ neg = false ∧ nm = [] ∧ n = 2
    · obtain ⟨rfl, rfl, rfl, rfl⟩ := hop1
      have HV := Lib.hid (show v = b5 by rw [Hv.out]; simp)
      have HF2 := Lib.hid (fun w S h => (HFA.out w S h))
      clear Hv HFA
      go_enter Tryz.func105, Tryz.ntmps105
      go_wp2_with fail
      refine (HCM.out _).mono ?_
      rintro e w1 ⟨rfl, rfl⟩
      go_wp2_with fail
      refine (HF2.out _ _ (HLL.out.alloc _)).mono ?_
      rintro e w2 ⟨rfl, hb2⟩
      go_wp2_with fail
      go_ret
      exact ⟨ret_bool (by rw [HV.out]), boxed.trans (hb2.mono (by simp))⟩
    · have HV := Lib.hid (show v = false by
        rw [Hv.out]
        cases b1 <;> cases neg <;> simp_all)
      clear Hv HFA
      cases b1
      · clear hop1
        go_enter Tryz.func105, Tryz.ntmps105
        go_wp2_with fail
        refine (HCM.out _).mono ?_
        rintro e w1 ⟨rfl, rfl⟩
        go_wp2_with fail
        go_ret
        exact ⟨ret_bool HV.out, boxed⟩
      · cases neg
        · by_cases hnm : nm = []
          · subst hnm
            have h2 : (n == 2) = false := by simpa using hop1
            have h2I : ((n : Int) == 2) = false := by rw [hq2, h2]
            clear hop1 hq2 h2
            go_enter Tryz.func105, Tryz.ntmps105
            go_wp2_with fail
            refine (HCM.out _).mono ?_
            rintro e w1 ⟨rfl, rfl⟩
            go_wp2_with fail
            go_ret
            exact ⟨ret_bool HV.out, boxed⟩
          · have hnb : (nm == []) = false := by simpa using hnm
            have hni : nm.isEmpty = false := by simpa using hnm
            clear hop1 hnm
            go_enter Tryz.func105, Tryz.ntmps105
            go_wp2_with fail
            refine (HCM.out _).mono ?_
            rintro e w1 ⟨rfl, rfl⟩
            go_wp2_with fail
            go_ret
            exact ⟨ret_bool HV.out, boxed⟩
        · clear hop1
          go_enter Tryz.func105, Tryz.ntmps105
          go_wp2_with fail
          refine (HCM.out _).mono ?_
          rintro e w1 ⟨rfl, rfl⟩
          go_wp2_with fail
          go_ret
          exact ⟨ret_bool HV.out, boxed⟩
theorem ruleV_any (r : Rul) (A1 : Option Addr) (n1 c1 : Nat) (A2 : Option Addr) (n2 c2 : Nat) (w : World) (S : Nat → Prop) (h1 : Sl w S A1 n1 c1 r.head.args) (h2 : Sl w S A2 n2 c2 r.body) (g1 : atomS r.head = true) (g2 : r.body.length ≤ 4) (g3 : r.body.all ltlS = true) :
    Calls Tryz.prog 106 #[.agg #[.string ⟨r.head.name.toArray⟩, .slice A1 n1 c1, .slice A2 n2 c2]] w fun e w' => ∃ A c, e = .returned (.slice A (varsS r).length c) ∧ Below w.heap.size w w' := by
  have := form_atom g1
  have := form_cnt r.body g3
  refine (rvariables_any r A1 n1 c1 A2 n2 c2 w S h1 h2 (by omega)).mono ?_
  rintro e w' ⟨A, c, rfl, -, hb⟩
  exact ⟨A, c, rfl, hb⟩
set_option maxRecDepth 100000 in
set_option maxHeartbeats 4000000 in
theorem rrule_any (r : Rul) (A1 : Option Addr) (n1 c1 : Nat) (A2 : Option Addr) (n2 c2 : Nat) (w : World) (S : Nat → Prop) (h1 : Sl w S A1 n1 c1 r.head.args) (h2 : Sl w S A2 n2 c2 r.body) (ho : OkR r) :
    Calls Tryz.prog 72 #[.agg #[.string ⟨r.head.name.toArray⟩, .slice A1 n1 c1, .slice A2 n2 c2]] w fun e w' => e = .returned (.bool (ruleS r)) ∧ Below w.heap.size w w' := by
  obtain ⟨v, hv⟩ : ∃ v, v = ruleS r := ⟨_, rfl⟩
  rw [← hv]
  unfold ruleS at hv
  have hn2 := h2.len
  subst hn2
  have hle2 := h2.le
  have hfa := fun w S (h : Sl w S A1 n1 c1 r.head.args) => ratomF_any r.head A1 n1 c1 w S h ho.1
  have hva := fun w S (h1 : Sl w S A1 n1 c1 r.head.args) (h2 : Sl w S A2 r.body.length c2 r.body) g1 g2 g3 => ruleV_any r A1 n1 c1 A2 r.body.length c2 w S h1 h2 g1 g2 g3
  have hOK := ho.2
  generalize hat : atomS r.head = b1 at *
  generalize (varsS r).length = vl at *
  obtain ⟨⟨nm, args⟩, body⟩ := r
  simp only at *
  have HFA := Lib.hid hfa; have HVA := Lib.hid hva; have H1 := Lib.hid h1; have H2 := Lib.hid h2; have HOK := Lib.hid hOK
  have hfm : ∀ x ∈ body, ∀ (A : Option Addr) (n c : Nat) (w : World) (S : Nat → Prop), Sl w S A n c x.atom.args → Calls Tryz.prog 105 #[.agg #[.bool x.neg, .string ⟨x.op.toArray⟩, .string ⟨x.atom.name.toArray⟩, .slice A n c]] w fun e w' => e = .returned (.bool (ltlS x)) ∧ Below w.heap.size w w' := fun x hx A n c w S hs => rliteral_any x A n c w S hs (hOK x hx)
  have HFM := Lib.hid hfm
  clear hfa hva h1 h2 ho hOK hfm
  cases b1
  · have HV := Lib.hid (show v = false by rw [hv]; rfl)
    clear hv
    go_enter Tryz.func72, Tryz.ntmps72
    go_wp2_with fail
    refine (HFA.out _ _ (H1.out.alloc _)).mono ?_
    rintro e w1 ⟨rfl, b1⟩
    go_wp2_with fail
    go_ret
    exact ⟨ret_bool HV.out, boxed.trans (b1.mono (by simp))⟩
  · by_cases h4 : body.length ≤ 4
    · have h4I : ¬ (4 : Int) < (body.length : Int) := by omega
      have hv2 : v = (((body.drop 0).all ltlS) && decide (vl ≤ 6)) := by rw [hv]; simp [h4]
      have HV := Lib.hid hv2
      clear hv hv2
      go_enter Tryz.func72, Tryz.ntmps72
      go_wp2_with fail
      refine (HFA.out _ _ (H1.out.alloc _)).mono ?_
      rintro e w1 ⟨rfl, b1⟩
      have hB := keptBlk b1 (blkAt w (.cells #[.string ⟨nm.toArray⟩, .slice A1 n1 c1, .slice A2 body.length c2] 34) rfl)
      have hb1 : Below w.heap.size w w1 := boxed.trans (b1.mono (by simp))
      have C2 := (cell_blk hB 2).trans rfl
      have HB0 := Lib.hid hB
      clear b1 hB
      go_wp2_with fail
      have HB1 := Lib.hid hb1
      have HXX := Lib.hid (fun (x : World) (hx : Below w1.heap.size w1 x) => And.intro ((cell_blk (keptBlk hx HB0.out) 0).trans rfl) (And.intro ((cell_blk (keptBlk hx HB0.out) 1).trans rfl) ((cell_blk (keptBlk hx HB0.out) 2).trans rfl)))
      clear C2 hb1 hat
      go_loopw [3] (fun i wr => ∃ k : Nat, k ≤ body.length ∧ i = .int .i64 k ∧ Below w1.heap.size w1 wr ∧ Hid ((body.take k).all ltlS = true) ∧ Hid (v = (((body.drop k).all ltlS) && decide (vl ≤ 6)))) (fun i _ => body.length - (intOf i).toNat)
      case atStart => exact ⟨0, by omega, rfl, Below.refl _ _, Lib.hid rfl, HV⟩
      case round =>
        obtain ⟨k, hk, rfl, hb, ht, hf⟩ := hrel
        have hwr := hb.size
        obtain ⟨C0, C1, C2⟩ := HXX.out _ hb
        by_cases hlt : k < body.length
        · obtain ⟨b2, o2, rfl, -, hbs2, A5, n5, c5, k0, k1, k2, k3, hs5⟩ := ((H2.out.below HB1.out).below hb).ltl hlt
          have hd := hf.out
          rw [drop_get hlt, List.all_cons] at hd
          have htk : (body.take (k + 1)).all ltlS = ((body.take k).all ltlS && ltlS body[k]) := by rw [List.take_succ_eq_append_getElem hlt, List.all_append]; simp
          have hfx := HFM.out _ (List.getElem_mem hlt)
          generalize body[k] = x at *
          obtain ⟨neg, op, ⟨ynm, yargs⟩⟩ := x
          simp only at k0 k1 k2 k3 hs5 hfx
          have hfx := hfx A5 n5 c5 wr _ hs5
          cases hx : ltlS ⟨neg, op, ⟨ynm, yargs⟩⟩
          · rw [hx] at hd hfx
            have HD := Lib.hid (show v = false by rw [hd]; rfl); have HFX := Lib.hid hfx; have HB := Lib.hid hb
            clear hd hfx hs5 hb hx htk hf
            go_wp2_with fail
            refine HFX.out.mono ?_
            rintro e w5 ⟨rfl, b5⟩
            go_wp2_with fail
            go_ret
            exact ⟨ret_bool HD.out, HB1.out.trans ((HB.out.trans (b5.mono HB.out.size)).mono HB1.out.size)⟩
          · rw [hx] at hd hfx htk
            have HD := Lib.hid (show v = (((body.drop (k + 1)).all ltlS) && decide (vl ≤ 6)) by rw [hd]; rfl); have HFX := Lib.hid hfx; have HB := Lib.hid hb
            have HT := Lib.hid (show (body.take (k + 1)).all ltlS = true by rw [htk, ht.out]; rfl)
            clear hd hfx hs5 hb hx htk hf ht
            go_wp2_with fail
            refine HFX.out.mono ?_
            rintro e w5 ⟨rfl, b5⟩
            go_wp2_with fail
            go_roundw
            case rel => exact ⟨k + 1, by omega, by go_num, HB.out.trans (b5.mono HB.out.size), HT, HD⟩
            case measure => simp [intOf]; omega
        · have hd := hf.out
          rw [drop_end hlt] at hd
          have ht1 := ht.out
          rw [List.take_of_length_le (by omega)] at ht1
          have HD := Lib.hid (show v = decide (vl ≤ 6) by rw [hd]; simp); have HB := Lib.hid hb
          have HVV := Lib.hid (HVA.out _ _ ((H1.out.below HB1.out).below hb) ((H2.out.below HB1.out).below hb) trivial h4 ht1)
          clear hd hb hf ht ht1
          go_wp2_with fail
          refine HVV.out.mono ?_
          rintro e w5 ⟨A5, c5, rfl, b5⟩
          go_wp2_with fail
          go_ret
          exact ⟨ret_bool (by rw [HD.out, decide_eq_decide]; omega), HB1.out.trans ((HB.out.trans (b5.mono HB.out.size)).mono HB1.out.size)⟩
    · have h4I : (4 : Int) < (body.length : Int) := by omega
      have HV := Lib.hid (show v = false by rw [hv]; simp [h4])
      clear hv
      go_enter Tryz.func72, Tryz.ntmps72
      go_wp2_with fail
      refine (HFA.out _ _ (H1.out.alloc _)).mono ?_
      rintro e w1 ⟨rfl, b1⟩
      have hB := keptBlk b1 (blkAt w (.cells #[.string ⟨nm.toArray⟩, .slice A1 n1 c1, .slice A2 body.length c2] 34) rfl)
      have C2 := (cell_blk hB 2).trans rfl
      go_wp2_with fail
      go_ret
      exact ⟨ret_bool HV.out, boxed.trans (b1.mono (by simp))⟩
end Go.Proofs.YtkjoaodoioicpaaGreatDoor
