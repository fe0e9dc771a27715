/- A part of the proofs of the laws of one package; see the law's own text, which comes last in 'order'. No conditions of its own. -/
import Derived.Test.YtpeamehplhpcjaaGreatDoorZ11
import Derived.Test.YtpeamehplhpcjaaGreatDoorZ13
set_option linter.unusedVariables false
set_option linter.unusedSimpArgs false
namespace Go.Proofs.YtpeamehplhpcjaaGreatDoor
open Go.RowKit
theorem rpart_no (l : Bs) (h : ¬ (1 ≤ l.length)) : partS l = false := by
  have : l = [] := List.eq_nil_of_length_eq_zero (by omega)
  subst this
  rfl
theorem rpart_long (l : Bs) (h : ¬ (l.length ≤ 32)) : partS l = false := by
  unfold partS
  rw [decide_eq_false h]
  simp
theorem rpart_dot (l : Bs) (hz : 0 < l.length) (h : l[0].toNat = 46) : partS l = false := by
  have : l[0] = 46 := UInt8.toNat_inj.1 h
  unfold partS
  rw [headD_get hz, this]
  simp
theorem rpart_dash (l : Bs) (hz : 0 < l.length) (h : l[0].toNat = 45) : partS l = false := by
  have : l[0] = 45 := UInt8.toNat_inj.1 h
  unfold partS
  rw [headD_get hz, this]
  simp
theorem rpart_all (l : Bs) (hz : 0 < l.length) (h2 : l.length ≤ 32) (h : l[0].toNat ≠ 46) (h' : l[0].toNat ≠ 45) : partS l = l.all partC := by
  have n1 : (l[0] != 46) = true := by rw [bne_iff_ne]; exact fun e => h (by rw [e]; rfl)
  have n2 : (l[0] != 45) = true := by rw [bne_iff_ne]; exact fun e => h' (by rw [e]; rfl)
  have n3 : l.isEmpty = false := by cases l with | nil => simp at hz | cons => rfl
  unfold partS
  rw [headD_get hz, n1, n2, n3, decide_eq_true h2]
  simp
set_option maxHeartbeats 2000000 in
theorem rpart_any (l : Bs) (w : World) (hs : l.length ≤ 9223372036854775807) : Calls Tryz.prog 42 #[.string ⟨l.toArray⟩] w fun e w' => e = .returned (.bool (partS l)) ∧ w = w' := by
  obtain ⟨v, hv⟩ : ∃ v, v = partS l := ⟨_, rfl⟩
  rw [← hv]
  by_cases h1 : 1 ≤ l.length
  · by_cases h2 : l.length ≤ 32
    · have hz : 0 < l.length := h1
      by_cases h46 : l[0].toNat = 46
      · have Hf : Hid (v = false) := hv.trans (rpart_dot l hz h46)
        have g1 : ((l[0].toNat : Int) == 46) = true := by rw [beq_iff_eq]; omega
        clear hv h46
        go_enter Tryz.func42, Tryz.ntmps42
        go_wp2_with fail
        go_ret
        exact ⟨ret_bool Hf.out, rfl⟩
      · have g1 : ((l[0].toNat : Int) == 46) = false := by rw [beq_eq_false_iff_ne]; omega
        by_cases h45 : l[0].toNat = 45
        · have Hf : Hid (v = false) := hv.trans (rpart_dash l hz h45)
          have g2 : ((l[0].toNat : Int) == 45) = true := by rw [beq_iff_eq]; omega
          clear hv h45 h46
          go_enter Tryz.func42, Tryz.ntmps42
          go_wp2_with fail
          go_ret
          exact ⟨ret_bool Hf.out, rfl⟩
        · have Hf : Hid (v = (l.drop 0).all partC) := hv.trans (rpart_all l hz h2 h46 h45)
          have g2 : ((l[0].toNat : Int) == 45) = false := by rw [beq_eq_false_iff_ne]; omega
          clear hv h45 h46
          go_enter Tryz.func42, Tryz.ntmps42
          go_wp2_with fail
          clear g1 g2
          go_loop [3] (fun i => ∃ k : Nat, k ≤ l.length ∧ i = .int .i64 k ∧ Hid (v = (l.drop k).all partC)) (fun i => l.length - (intOf i).toNat)
          case atStart => exact ⟨0, by omega, rfl, Hf⟩
          case round =>
            obtain ⟨k, hk, rfl, hf⟩ := hrel
            by_cases hlt : k < l.length
            · have hd : Hid (v = (partN l[k].toNat && (l.drop (k + 1)).all partC)) := by show v = _; rw [hf.out, drop_get hlt, List.all_cons, partC_N]
              clear hf
              go_wp2_with fail
              all_goals first
                | (go_round
                   case rel =>
                     refine ⟨k + 1, by omega, by go_num, ?_⟩
                     have hp : partN l[k].toNat = true := by unfold partN; simp_all <;> omega
                     show v = _
                     rw [hd.out, hp, Bool.true_and]
                   case measure => simp [intOf]; omega)
                | (go_ret
                   have hp : partN l[k].toNat = false := by unfold partN; simp_all <;> omega
                   exact ⟨ret_bool (by rw [hd.out, hp, Bool.false_and]), rfl⟩)
            · go_wp2
              go_ret
              exact ⟨ret_bool (by rw [hf.out, drop_end hlt]; rfl), rfl⟩
    · have Hf : Hid (v = false) := hv.trans (rpart_long l h2)
      clear hv
      go_enter Tryz.func42, Tryz.ntmps42
      go_wp2
      go_ret
      exact ⟨ret_bool Hf.out, rfl⟩
  · have Hf : Hid (v = false) := hv.trans (rpart_no l h1)
    clear hv
    go_enter Tryz.func42, Tryz.ntmps42
    go_wp2
    go_ret
    exact ⟨ret_bool Hf.out, rfl⟩
def preS (cur : Bs) : List Bs → List Bs
  | [] => [cur]
  | y :: t => (cur ++ y) :: t
theorem pre_nil {l : List Bs} (h : l ≠ []) : preS [] l = l := by cases l with | nil => exact absurd rfl h | cons y t => rfl
theorem pre_pre (a b : Bs) (l : List Bs) : preS a (preS b l) = preS (a ++ b) l := by cases l <;> simp [preS]
theorem split_here (c : UInt8) (r : Bs) : splitS c (c :: r) = [] :: splitS c r := by rw [splitS, if_pos rfl]
theorem split_on (c x : UInt8) (r : Bs) (h : x ≠ c) : splitS c (x :: r) = preS [x] (splitS c r) := by
  rw [splitS, if_neg h]
  cases splitS c r <;> rfl
theorem cut_more {s : Bs} {ja k : Nat} (hj : ja ≤ k) (h : k < s.length) : (s.take k).drop ja ++ [s[k]] = (s.take (k + 1)).drop ja := by
  rw [List.take_add_one, List.getElem?_eq_getElem h, List.drop_append_of_le_length (by simp only [List.length_take]; omega)]
  rfl
set_option maxRecDepth 100000 in
set_option maxHeartbeats 4000000 in
theorem rsplit_any (c : UInt8) (ci : Int) (hci : ci = c.toNat) (s : Bs) (w : World) (hl : s.length ≤ 4294967000) :
    Calls Tryz.prog 66 #[.string ⟨s.toArray⟩, .int .u8 ci] w fun e w' => ∃ A c', e = .returned (.slice A (splitS c s).length c') ∧ Own w' (fun _ => False) w.heap.size 9 A c' (splitS c s) ∧ Below w.heap.size w w' := by
  obtain ⟨V, hV⟩ : ∃ V, V = splitS c s := ⟨_, rfl⟩
  rw [← hV]
  have HV : Hid (V = [] ++ preS ((s.take 0).drop 0) (splitS c (s.drop 0))) := Lib.hid (by rw [hV]; simp [pre_nil (split_ne c s)])
  clear hV
  have HC := Lib.hid hci
  clear hci
  go_enter Tryz.func66, Tryz.ntmps66
  go_wp2_with fail
  have hown0 : Own w (fun _ => False) w.heap.size 9 none 0 ([] : List Bs) := Own.nil _ _ _ _
  go_loopw [5, 6, 7] (fun o a i wx => ∃ ja k : Nat, ja ≤ k ∧ k ≤ s.length ∧ a = .int .i64 ja ∧ i = .int .i64 k ∧ ∃ (out : List Bs) (A : Option Addr) (c' : Nat), o = .slice A out.length c' ∧ Own wx (fun _ => False) w.heap.size 9 A c' out ∧ Below w.heap.size w wx ∧ out.length ≤ k ∧ Hid (V = out ++ preS ((s.take k).drop ja) (splitS c (s.drop k)))) (fun _ _ i _ => s.length - (intOf i).toNat)
  case atStart => exact ⟨0, 0, by omega, by omega, rfl, rfl, [], none, 0, rfl, hown0, Below.refl _ _, by simp, HV⟩
  case round =>
    obtain ⟨ja, k, hjk, hk, rfl, rfl, out, A, c', rfl, hown, hb, hol, hf⟩ := hrel
    have hsz := hb.size
    have HO := Lib.hid hown; have HB := Lib.hid hb; clear hown hb
    by_cases hlt : k < s.length
    · have hd := hf.out
      rw [drop_get hlt] at hd
      clear hf
      by_cases h10 : s[k] = c
      · have hd2 : V = (out ++ [(s.take k).drop ja]) ++ preS ((s.take (k + 1)).drop (k + 1)) (splitS c (s.drop (k + 1))) := by
          rw [hd, h10, split_here, List.drop_of_length_le (show (s.take (k + 1)).length ≤ k + 1 by simp only [List.length_take]; omega), pre_nil (split_ne _ _)]
          simp [preS]
        have HD := Lib.hid hd2
        have hq : ((s[k].toNat : Int) == ci) = true := by rw [HC.out, h10]; simp
        clear hd hd2 h10
        go_wp2_with (first | (at_builtin; go_loud (refine wpList_app1 rfl _ _ eltStr rfl (by decide) rfl rfl rfl (HO.out.alloc _) rfl [.string ⟨((s.take k).drop ja).toArray⟩] ((s.take k).drop ja) (blkAt _ _ (by simp)) rfl rfl (by omega) (by omega) (by simp; omega) ?_); intro A' c' w3 hown' hg hat))
        have hsz3 := hg.size
        simp at hsz3
        go_round
        case rel => exact ⟨k + 1, k + 1, by omega, by omega, by go_num, by go_num, out ++ [(s.take k).drop ja], A', c', by simp, hown', (HB.out.alloc (by omega) _).grown hg (by simp; omega) (fun k hk => (HO.out.lt k hk).1), by simp; omega, HD⟩
        case measure => simp [intOf]; omega
      · have hd2 : V = out ++ preS ((s.take (k + 1)).drop ja) (splitS c (s.drop (k + 1))) := by
          rw [hd, split_on _ _ _ h10, pre_pre, cut_more hjk hlt]
        have HD := Lib.hid hd2
        have hq : ((s[k].toNat : Int) == ci) = false := by
          rw [HC.out, beq_eq_false_iff_ne]
          intro e
          exact h10 (UInt8.toNat_inj.1 (by omega))
        clear hd hd2 h10
        go_wp2_with fail
        go_round
        case rel => exact ⟨ja, k + 1, by omega, by omega, rfl, by go_num, out, A, c', rfl, HO.out, HB.out, by omega, HD⟩
        case measure => simp [intOf]; omega
    · have hkl : k = s.length := by omega
      subst hkl
      have hd := hf.out
      rw [drop_end hlt, List.take_length] at hd
      have HD : Hid (V = out ++ [s.drop ja]) := Lib.hid (by rw [hd]; simp [splitS, preS])
      clear hf hd
      go_wp2_with (first | (at_builtin; go_loud (refine wpList_app1 rfl _ _ eltStr rfl (by decide) rfl rfl rfl (HO.out.alloc _) rfl [.string ⟨(s.drop ja).toArray⟩] (s.drop ja) (blkAt _ _ (by simp)) rfl rfl (by omega) (by omega) (by simp; omega) ?_); intro A' c' w3 hown' hg hat))
      have hsz3 := hg.size
      simp at hsz3
      go_ret
      refine ⟨A', c', ?_, ?_, (HB.out.alloc (by omega) _).grown hg (by simp; omega) (fun k hk => (HO.out.lt k hk).1)⟩
      · rw [HD.out]; simp
      · rw [HD.out]; exact hown'
end Go.Proofs.YtpeamehplhpcjaaGreatDoor
namespace Go.Proofs.YtpeamehplhpcjaaGreatDoor
open Go.RowKit
set_option maxHeartbeats 2000000 in
theorem rpath_any (s : Bs) (w : World) (hs : s.length ≤ 4294967000) :
    Calls Tryz.prog 44 #[.string ⟨s.toArray⟩] w fun e w' => e = .returned (.int .i64 (errB (pathS s))) ∧ Below w.heap.size w w' := by
  have hsp := rsplit_any 47 47 rfl s w hs
  have hln := split_lens 47 s
  have hspec : pathS s = (decide (s.length ≤ 128) && decide ((splitS 47 s).length ≤ 8) && (splitS 47 s).all partS) := rfl
  generalize splitS 47 s = l at *
  generalize pathS s = v at *
  have HSP := Lib.hid hsp; have HLN := Lib.hid hln; have HS := Lib.hid hspec
  clear hsp hln hspec
  by_cases h1 : (128 : Int) < (s.length : Int)
  · have HV : Hid (v = false) := Lib.hid (by rw [HS.out, show decide (s.length ≤ 128) = false by rw [decide_eq_false_iff_not]; omega]; rfl)
    go_enter Tryz.func44, Tryz.ntmps44
    go_wp2_with fail
    go_ret
    exact ⟨ret_int (by rw [HV.out]; rfl), Below.refl _ _⟩
  · have e1 : decide (s.length ≤ 128) = true := by rw [decide_eq_true_eq]; omega
    rw [e1] at HS
    clear e1
    go_enter Tryz.func44, Tryz.ntmps44
    go_wp2_with fail
    refine HSP.out.mono ?_
    rintro e w1 ⟨A, c', rfl, ho, hb⟩
    have HO := Lib.hid (ho.sl (by decide)); have HB := Lib.hid hb
    clear ho hb HSP
    by_cases h2 : (8 : Int) < (l.length : Int)
    · have HV : Hid (v = false) := Lib.hid (by rw [HS.out, show decide (l.length ≤ 8) = false by rw [decide_eq_false_iff_not]; omega]; rfl)
      go_wp2_with fail
      go_ret
      exact ⟨ret_int (by rw [HV.out]; rfl), HB.out⟩
    · have Hf : Hid (v = (l.drop 0).all partS) := Lib.hid (by rw [HS.out, show decide (l.length ≤ 8) = true by rw [decide_eq_true_eq]; omega]; rfl)
      clear HS
      go_wp2_with fail
      go_loop [16] (fun i => ∃ k : Nat, k ≤ l.length ∧ i = .int .i64 k ∧ Hid (v = (l.drop k).all partS)) (fun i => l.length - (intOf i).toNat)
      case atStart => exact ⟨0, by omega, rfl, Hf⟩
      case round =>
        obtain ⟨k, hk, rfl, hf⟩ := hrel
        by_cases hlt : k < l.length
        · obtain ⟨b, o, rfl, -, hbs, hx⟩ := HO.out.str hlt
          have hd : Hid (v = (partS l[k] && (l.drop (k + 1)).all partS)) := by show v = _; rw [hf.out, drop_get hlt, List.all_cons]
          have hpl : l[k].length ≤ 9223372036854775807 := by have := HLN.out.1 _ (List.getElem_mem hlt); omega
          have HP := Lib.hid (fun w => rpart_any l[k] w hpl)
          clear hf hpl
          generalize partS l[k] = q at *
          go_wp2_with fail
          refine (HP.out _).mono ?_
          rintro e w2 ⟨rfl, rfl⟩
          cases q
          · go_wp2_with fail
            go_ret
            exact ⟨ret_int (by rw [hd.out]; rfl), HB.out⟩
          · go_wp2_with fail
            go_round
            case rel => exact ⟨k + 1, by omega, by go_num, by show v = _; rw [hd.out, Bool.true_and]⟩
            case measure => simp [intOf]; omega
        · have HV : Hid (v = true) := Lib.hid (by rw [hf.out, drop_end hlt]; rfl)
          go_wp2
          go_ret
          exact ⟨ret_int (by rw [HV.out]; rfl), HB.out⟩
theorem parts_any (s : Bs) (w : World) (hs : s.length ≤ 4294967000) :
    Calls Tryz.prog 55 #[.string ⟨s.toArray⟩] w fun e w' => e = .returned (.int .i64 (splitS 47 s).length) ∧ Below w.heap.size w w' := by
  have hsp := rsplit_any 47 47 rfl s w hs
  generalize splitS 47 s = l at *
  have HSP := Lib.hid hsp
  clear hsp
  go_enter Tryz.func55, Tryz.ntmps55
  go_wp2_with fail
  refine HSP.out.mono ?_
  rintro e w1 ⟨A, c', rfl, ho, hb⟩
  have HB := Lib.hid hb
  clear ho hb
  go_wp2_with fail
  go_ret
  exact ⟨rfl, HB.out⟩
set_option maxHeartbeats 2000000 in
theorem risref_any (s : Bs) (w : World) (hs : s.length ≤ 4294967000) :
    Calls Tryz.prog 43 #[.string ⟨s.toArray⟩] w fun e w' => e = .returned (.bool (isRefS s)) ∧ Below w.heap.size w w' := by
  rw [← isRef_eq]
  have hno : (∀ r, s = 64 :: r → False) → risRef s = pathS s := fun h => not_at s _ _ h
  by_cases hz : 0 < s.length
  · by_cases h64 : s[0].toNat = 64
    · have hs0 : s[0] = 64 := UInt8.toNat_inj.1 h64
      obtain ⟨r, hr⟩ : ∃ r, s = 64 :: r := by
        cases s with
        | nil => simp at hz
        | cons x r => exact ⟨r, by rw [show x = 64 from hs0]⟩
      subst hr
      have hrl : r.length ≤ 4294967000 := by simp only [List.length_cons] at hs; omega
      have hp := fun w => rpath_any r w hrl
      have hq := fun w => parts_any r w hrl
      have hspec : risRef (64 :: r) = (pathS r && decide (1 < (splitS 47 r).length)) := rfl
      generalize risRef (64 :: r) = v at *
      generalize pathS r = q at *
      generalize (splitS 47 r).length = m at *
      have HP := Lib.hid hp; have HQ := Lib.hid hq; have HS := Lib.hid hspec
      clear hp hq hspec hno h64 hs0
      go_enter Tryz.func43, Tryz.ntmps43
      go_wp2_with fail
      refine (HP.out _).mono ?_
      rintro e w1 ⟨rfl, hb⟩
      have HB := Lib.hid hb; clear hb
      cases q
      · unfold errB
        go_wp2_with fail
        go_ret
        exact ⟨ret_bool (by rw [HS.out]; rfl), HB.out⟩
      · unfold errB
        go_wp2_with fail
        refine (HQ.out _).mono ?_
        rintro e w2 ⟨rfl, hb⟩
        have HB2 := Lib.hid (HB.out.trans (hb.mono HB.out.size)); clear hb
        go_wp2_with fail
        go_ret
        exact ⟨ret_bool (by rw [HS.out, Bool.true_and, decide_eq_decide]; omega), HB2.out⟩
    · have hp := fun w => rpath_any s w hs
      have hspec := hno (fun r hr => h64 (by subst hr; rfl))
      have g1 : ((s[0].toNat : Int) == 64) = false := by rw [beq_eq_false_iff_ne]; omega
      have g0 : s ≠ [] := by intro e; subst e; simp at hz
      generalize risRef s = v at *
      generalize pathS s = q at *
      have HP := Lib.hid hp; have HS := Lib.hid hspec
      clear hp hspec hno h64
      go_enter Tryz.func43, Tryz.ntmps43
      go_wp2_with fail
      refine (HP.out _).mono ?_
      rintro e w1 ⟨rfl, hb⟩
      have HB := Lib.hid hb; clear hb
      go_wp2_with fail
      go_ret
      exact ⟨ret_bool (by rw [HS.out]; cases q <;> rfl), HB.out⟩
  · have hs0 : s = [] := List.eq_nil_of_length_eq_zero (by omega)
    subst hs0
    have hp := fun w => rpath_any [] w hs
    have hspec := hno (fun r hr => by cases hr)
    generalize risRef [] = v at *
    generalize pathS [] = q at *
    have HP := Lib.hid hp; have HS := Lib.hid hspec
    clear hp hspec hno
    go_enter Tryz.func43, Tryz.ntmps43
    go_wp2_with fail
    refine (HP.out _).mono ?_
    rintro e w1 ⟨rfl, hb⟩
    have HB := Lib.hid hb; clear hb
    go_wp2_with fail
    go_ret
    exact ⟨ret_bool (by rw [HS.out]; cases q <;> rfl), HB.out⟩
theorem isRef_pos {s : Bs} (h : isRefS s = true) : 0 < s.length := by
  cases s with
  | nil => rw [show isRefS [] = false by decide] at h; cases h
  | cons x r => simp
set_option maxHeartbeats 2000000 in
theorem rref_any (name ref : Bs) (w : World) (hn : name.length ≤ 2000000000) (hr : ref.length ≤ 2000000000) :
    Calls Tryz.prog 11 #[.string ⟨name.toArray⟩, .string ⟨ref.toArray⟩] w fun e w' => e = .returned (.tuple #[.string ⟨(refS name ref).1.toArray⟩, .int .i64 (refS name ref).2]) ∧ Below w.heap.size w w' := by
  rw [← rref_eq]
  have hp := fun w => rpart_any name w (by omega)
  have hi := fun w => risref_any ref w (by omega)
  have hR : rrefS name ref = if !partS name || !isRefS ref then ([], (2 : Int)) else match ref with | 64 :: r => (r, (0 : Int)) | _ => if pathS (name ++ 47 :: ref) then (name ++ 47 :: ref, (0 : Int)) else ([], (2 : Int)) := by rw [← isRef_eq]; rfl
  have hpos := @isRef_pos ref
  generalize rrefS name ref = R at *
  generalize partS name = q at *
  generalize isRefS ref = f at *
  have HP := Lib.hid hp; have HI := Lib.hid hi; have HR := Lib.hid hR; have HPOS := Lib.hid hpos
  clear hp hi hR hpos
  cases q with
  | false =>
    have HRR := Lib.hid (show R = ([], 2) from HR.out)
    go_enter Tryz.func11, Tryz.ntmps11
    go_wp2_with fail
    refine (HP.out _).mono ?_
    rintro e w1 ⟨rfl, rfl⟩
    go_wp2_with fail
    have hR := HRR.out
    subst hR
    go_ret2
    exact ⟨rfl, Below.refl _ _⟩
  | true =>
    cases f with
    | false =>
      have HRR := Lib.hid (show R = ([], 2) from HR.out)
      go_enter Tryz.func11, Tryz.ntmps11
      go_wp2_with fail
      refine (HP.out _).mono ?_
      rintro e w1 ⟨rfl, rfl⟩
      go_wp2_with fail
      refine (HI.out _).mono ?_
      rintro e w2 ⟨rfl, hb⟩
      have HB := Lib.hid hb; clear hb
      go_wp2_with fail
      have hR := HRR.out
      subst hR
      go_ret2
      exact ⟨rfl, HB.out⟩
    | true =>
      have hz := HPOS.out rfl
      clear HPOS
      by_cases h64 : ref[0].toNat = 64
      · have hs0 : ref[0] = 64 := UInt8.toNat_inj.1 h64
        obtain ⟨r, hr⟩ : ∃ r, ref = 64 :: r := by
          cases ref with
          | nil => simp at hz
          | cons x r => exact ⟨r, by rw [show x = 64 from hs0]⟩
        subst hr
        have HRR := Lib.hid (show R = (r, 0) from HR.out)
        clear h64 hs0 HR
        go_enter Tryz.func11, Tryz.ntmps11
        go_wp2_with fail
        refine (HP.out _).mono ?_
        rintro e w1 ⟨rfl, rfl⟩
        go_wp2_with fail
        refine (HI.out _).mono ?_
        rintro e w2 ⟨rfl, hb⟩
        have HB := Lib.hid hb; clear hb
        go_wp2_with fail
        have hR := HRR.out
        subst hR
        go_ret2
        exact ⟨rfl, HB.out⟩
      · have hRR : R = if pathS (name ++ 47 :: ref) then (name ++ 47 :: ref, 0) else ([], 2) := HR.out.trans (not_at ref (fun r => (r, (0 : Int))) _ (fun r hr => h64 (by subst hr; rfl)))
        have g1 : ((ref[0].toNat : Int) == 64) = false := by rw [beq_eq_false_iff_ne]; omega
        have hp2 := fun w => rpath_any (name ++ 47 :: ref) w (by simp only [List.length_append, List.length_cons]; omega)
        generalize pathS (name ++ 47 :: ref) = z at *
        have HRR := Lib.hid hRR; have HP2 := Lib.hid hp2
        have hl1 : ¬ (9223372036854775807 < name.length + 1) := by omega
        have hl2 : ¬ (9223372036854775807 < name.length + 1 + ref.length) := by omega
        clear hRR hp2 HR h64
        go_enter Tryz.func11, Tryz.ntmps11
        go_wp2_with fail
        refine (HP.out _).mono ?_
        rintro e w1 ⟨rfl, rfl⟩
        go_wp2_with fail
        refine (HI.out _).mono ?_
        rintro e w2 ⟨rfl, hb⟩
        have HB := Lib.hid hb; clear hb
        go_wp2_with fail
        have HP3 := Lib.hid (show ∀ w, Calls Tryz.prog 44 #[.string ⟨(name ++ [47] ++ ref).toArray⟩] w fun e w' => e = .returned (.int .i64 (errB z)) ∧ Below w.heap.size w w' by rw [List.append_assoc]; exact HP2.out)
        refine (HP2.out _).mono ?_
        rintro e w3 ⟨rfl, hb⟩
        have HB3 := Lib.hid (HB.out.trans (hb.mono HB.out.size)); clear hb
        cases z
        · unfold errB
          go_wp2_with fail
          have hR : R = ([], 2) := HRR.out
          subst hR
          go_ret2
          exact ⟨rfl, HB3.out⟩
        · unfold errB
          go_wp2_with fail
          have hR : R = (name ++ 47 :: ref, 0) := HRR.out
          subst hR
          go_ret2
          exact ⟨by simp, HB3.out⟩
end Go.Proofs.YtpeamehplhpcjaaGreatDoor
