/- A part of the proofs of the laws of one package; see the law's own text, which comes last in 'order'. No conditions of its own. -/
import Derived.Shelf.Strings.SlTrimAscii
import Derived.Lib.AtoiTie
import Derived.Test.YtpeamehplhpcjaaGreatDoorWC08
set_option linter.unusedVariables false
set_option linter.unusedSimpArgs false
namespace Go.Proofs.YtpeamehplhpcjaaGreatDoor
open Go.RowKit
def partN (x : Nat) : Bool := decide (97 ≤ x ∧ x ≤ 122) || decide (48 ≤ x ∧ x ≤ 57) || x == 46 || x == 95 || x == 45
theorem partC_N (c : UInt8) : partC c = partN c.toNat := by
  have h : ∀ k : Nat, k < 256 → ((c == UInt8.ofNat k) = (c.toNat == k)) := by
    intro k hk
    rw [Bool.eq_iff_iff, beq_iff_eq, beq_iff_eq]
    constructor
    · rintro rfl; simp; omega
    · intro e; rw [← e]; simp
  unfold partC partN
  rw [show (46 : UInt8) = UInt8.ofNat 46 from rfl, show (95 : UInt8) = UInt8.ofNat 95 from rfl, show (45 : UInt8) = UInt8.ofNat 45 from rfl, h 46 (by decide), h 95 (by decide), h 45 (by decide)]
set_option maxHeartbeats 1000000 in
theorem part1_any (c : Nat) (w : World) :
    Calls Tryz.prog 107 #[.int .i32 c] w fun e w' => e = .returned (.bool (!partN c)) ∧ w = w' := by
  go_enter Tryz.func107, Tryz.ntmps107
  go_wp2
  all_goals go_ret
  all_goals (refine ⟨ret_bool ?_, rfl⟩; unfold partN; rw [Bool.eq_iff_iff]; simp; omega)
theorem any_idx (p : Nat → Bool) (hp : ∀ x, 128 ≤ x → p x = true) (l : Bs) : decide (0 ≤ Lib.idxFunc p true ⟨l.toArray⟩) = !l.all (fun c => !p c.toNat) := by
  unfold Lib.idxFunc
  have hsz : (ByteArray.mk l.toArray).size = l.length := by simp [ByteArray.size]
  rw [idxFunc_from _ _ hp _ 0 (by omega) (by omega)]
  simp only [List.drop_zero, Nat.zero_add]
  have hle : (l.takeWhile (fun c => !p c.toNat)).length ≤ l.length := (List.takeWhile_sublist _).length_le
  by_cases h : (l.takeWhile (fun c => !p c.toNat)).length < l.length
  · rw [if_pos h]
    have : ¬ l.all (fun c => !p c.toNat) = true := fun e => by have := tw_all.2 e; omega
    rw [Bool.not_eq_true] at this
    rw [this]
    simp
  · rw [if_neg h, tw_all.1 (by omega)]
    decide
theorem partN_high (x : Nat) (h : 128 ≤ x) : (!partN x) = true := by
  unfold partN
  simp
  omega
set_option maxHeartbeats 1000000 in
theorem part_any (s : Bs) (w : World) :
    Calls Tryz.prog 80 #[.string ⟨s.toArray⟩] w fun e w' => e = .returned (.bool (partS s)) ∧ Below w.heap.size w w' := by
  have hidx := any_idx (fun x => !partN x) (fun x hx => partN_high x hx) s
  have hall : (s.all fun c => !!partN c.toNat) = s.all partC := by congr 1; funext c; rw [Bool.not_not, partC_N]
  rw [hall] at hidx
  have hc := Tryz.strings_ContainsFunc_grows 107 #[] (fun _ _ => by kernel_rfl) (fun x => !partN x) ⟨s.toArray⟩ w (by
    intro W x hx hb
    refine (part1_any x W).mono ?_
    rintro e w' ⟨rfl, rfl⟩
    exact ⟨rfl, Below.refl _ _⟩)
  rw [hidx] at hc
  have hspec : partS s = (!s.isEmpty && decide (s.length ≤ 32) && s.headD 0 != 46 && s.headD 0 != 45 && s.all partC) := rfl
  generalize s.all partC = q at *
  generalize partS s = v at *
  have HC := Lib.hid hc; have HS := Lib.hid hspec
  clear hc hidx hall hspec
  cases s with
  | nil =>
    go_enter Tryz.func80, Tryz.ntmps80
    go_wp2_with fail
    go_ret
    exact ⟨ret_bool (by rw [HS.out]; rfl), Below.refl _ _⟩
  | cons c r =>
    have hne : ¬ ((c :: r : Bs) = []) := by simp
    by_cases h32 : (32 : Int) < ((c :: r : Bs).length : Int)
    · have h32' : (32 : Int) < (r.length : Int) + 1 := by simp only [List.length_cons] at h32; omega
      go_enter Tryz.func80, Tryz.ntmps80
      go_wp2_with fail
      go_ret
      refine ⟨ret_bool ?_, Below.refl _ _⟩
      rw [HS.out]
      have : decide ((c :: r : Bs).length ≤ 32) = false := by rw [decide_eq_false_iff_not]; omega
      rw [this]; simp
    · have h32' : ¬ (32 : Int) < (r.length : Int) + 1 := by simp only [List.length_cons] at h32; omega
      have hlen : decide ((c :: r : Bs).length ≤ 32) = true := by rw [decide_eq_true_eq]; omega
      rw [hlen] at HS
      by_cases h46 : c.toNat = 46
      · have hc46 : c = 46 := UInt8.toNat_inj.1 h46
        subst hc46
        go_enter Tryz.func80, Tryz.ntmps80
        go_wp2_with fail
        go_ret
        exact ⟨ret_bool (by rw [HS.out]; rfl), Below.refl _ _⟩
      · by_cases h45 : c.toNat = 45
        · have hc45 : c = 45 := UInt8.toNat_inj.1 h45
          subst hc45
          go_enter Tryz.func80, Tryz.ntmps80
          go_wp2_with fail
          go_ret
          exact ⟨ret_bool (by rw [HS.out]; rfl), Below.refl _ _⟩
        · have hv : v = q := by
            rw [HS.out]
            have h1 : (c != 46) = true := by rw [bne_iff_ne]; exact fun e => h46 (by rw [e]; rfl)
            have h2 : (c != 45) = true := by rw [bne_iff_ne]; exact fun e => h45 (by rw [e]; rfl)
            simp [h1, h2]
          have HV := Lib.hid hv
          have hb46 : ((c.toNat : Int) == 46) = false := by rw [beq_eq_false_iff_ne]; omega
          have hb45 : ((c.toNat : Int) == 45) = false := by rw [beq_eq_false_iff_ne]; omega
          clear hv HS hlen
          go_enter Tryz.func80, Tryz.ntmps80
          go_wp2_with fail
          refine HC.out.mono ?_
          rintro e w1 ⟨rfl, hb⟩
          go_wp2_with fail
          go_ret
          exact ⟨ret_bool (by rw [HV.out]), hb⟩
theorem path1_any (s : Bs) (w : World) :
    Calls Tryz.prog 79 #[.string ⟨s.toArray⟩] w fun e w' => e = .returned (.bool (!partS s)) ∧ Below w.heap.size w w' := by
  have h := part_any s w
  generalize partS s = v at *
  have H := Lib.hid h; clear h
  go_enter Tryz.func79, Tryz.ntmps79
  go_wp2_with fail
  refine H.out.mono ?_
  rintro e w1 ⟨rfl, hb⟩
  go_wp2_with fail
  go_ret
  exact ⟨rfl, hb⟩
theorem any_not_all {α : Type} (p : α → Bool) (l : List α) : (l.any fun x => !p x) = !l.all p := by
  induction l with
  | nil => rfl
  | cons x r ih => simp [List.any_cons, List.all_cons, ih]
def errB (b : Bool) : Int := if b then 0 else 2
set_option maxHeartbeats 1000000 in
theorem path_any (s : Bs) (w : World) (hL : LS w) (hs : s.length ≤ 4294967000) :
    Calls Tryz.prog 39 #[.string ⟨s.toArray⟩] w fun e w' => e = .returned (.int .i64 (errB (pathS s))) ∧ Below w.heap.size w w' := by
  have hsp := split_any 47 s w hL hs
  have hln := (split_lens 47 s).2
  have hspec : pathS s = (decide (s.length ≤ 128) && decide ((splitS 47 s).length ≤ 8) && (splitS 47 s).all partS) := rfl
  have hany : ∀ w1 A c, Sl w1 (fun _ => True) A (splitS 47 s).length c (splitS 47 s) → Calls Tryz.prog 78 #[.slice A (splitS 47 s).length c, .func (.func 79) #[] #[]] w1 fun e w' => e = .returned (.bool (!(splitS 47 s).all partS)) ∧ Below w1.heap.size w1 w' := by
    intro w1 A c h
    rw [← any_not_all]
    exact conB_any A _ c w1 _ _ h 79 #[] (fun _ _ => by kernel_rfl) (fun x => !partS x) (fun x _ w2 _ => path1_any x w2)
  generalize splitS 47 s = l at *
  generalize l.all partS = q at *
  generalize pathS s = v at *
  have HSP := Lib.hid hsp; have HS := Lib.hid hspec; have HA := Lib.hid hany
  clear hsp hspec hany
  go_enter Tryz.func39, Tryz.ntmps39
  go_wp2_with fail
  refine HSP.out.mono ?_
  rintro e w1 ⟨rfl, ho, hb⟩
  have HO := Lib.hid (ho.sl (by decide)); have HB := Lib.hid hb
  clear ho hb HSP
  by_cases h1 : (128 : Int) < (s.length : Int)
  · go_wp2_with fail
    go_ret
    refine ⟨ret_int ?_, HB.out⟩
    have : decide (s.length ≤ 128) = false := by rw [decide_eq_false_iff_not]; omega
    rw [HS.out, this]; rfl
  · have e1 : decide (s.length ≤ 128) = true := by rw [decide_eq_true_eq]; omega
    by_cases h2 : (8 : Int) < (l.length : Int)
    · go_wp2_with fail
      go_ret
      refine ⟨ret_int ?_, HB.out⟩
      have : decide (l.length ≤ 8) = false := by rw [decide_eq_false_iff_not]; omega
      rw [HS.out, e1, this]; rfl
    · have e2 : decide (l.length ≤ 8) = true := by rw [decide_eq_true_eq]; omega
      rw [e1, e2] at HS
      go_wp2_with fail
      refine (HA.out w1 _ _ (HO.out.any)).mono ?_
      rintro e w2 ⟨rfl, hb2⟩
      have HB2 := Lib.hid (HB.out.trans (hb2.mono HB.out.size))
      clear hb2
      cases q
      · go_wp2_with fail
        go_ret
        exact ⟨ret_int (by rw [HS.out]; rfl), HB2.out⟩
      · go_wp2_with fail
        go_ret
        exact ⟨ret_int (by rw [HS.out]; rfl), HB2.out⟩
end Go.Proofs.YtpeamehplhpcjaaGreatDoor
namespace Go.Proofs.YtpeamehplhpcjaaGreatDoor
open Go.RowKit
theorem isRef_cut (s : Bs) : isRefS s = (pathS (cut64 s) && (!at64 s || (cut64 s).contains 47)) := by
  rcases at64_cases s with ⟨r, rfl, h2, h3⟩ | ⟨h1, h2, h3⟩
  · rfl
  · rw [h2, h3]
    unfold isRefS
    split
    · exact absurd rfl (h1 _)
    · simp
theorem cut64_len (s : Bs) : (cut64 s).length ≤ s.length := by
  rcases at64_cases s with ⟨r, rfl, h2, h3⟩ | ⟨h1, h2, h3⟩
  · rw [h3]; simp
  · rw [h3]; exact Nat.le_refl _
def refPath (name ref : Bs) : Bs := if at64 ref then cut64 ref else name ++ 47 :: ref
theorem ref_cut (name ref : Bs) : refS name ref = if name.contains 47 || !pathS name || !isRefS ref then ([], 2) else if pathS (refPath name ref) then (refPath name ref, 0) else ([], 2) := by
  unfold refS refPath
  split
  · rfl
  · rcases at64_cases ref with ⟨r, rfl, h2, h3⟩ | ⟨h1, h2, h3⟩
    · rfl
    · rw [h2]
      split
      · exact absurd rfl (h1 _)
      · rfl
set_option maxHeartbeats 1000000 in
theorem isref_any (s : Bs) (w : World) (hL : LS w) (hs : s.length ≤ 4294967000) :
    Calls Tryz.prog 40 #[.string ⟨s.toArray⟩] w fun e w' => e = .returned (.bool (isRefS s)) ∧ Below w.heap.size w w' := by
  have hc := cutAt_any s w
  have hl := cut64_len s
  have hp := path_any (cut64 s) w hL (by omega)
  have hk := fun w (h : LS w) => contains1_any 47 (cut64 s) w h (by omega)
  rw [isRef_cut]
  generalize cut64 s = p at *
  generalize at64 s = a at *
  generalize pathS p = q at *
  generalize p.contains 47 = k at *
  have HC := Lib.hid hc; have HP := Lib.hid hp; have HK := Lib.hid hk; have HL := Lib.hid hL
  clear hc hp hk hL
  go_enter Tryz.func40, Tryz.ntmps40
  go_wp2_with fail
  refine HC.out.mono ?_
  rintro e w0 ⟨rfl, rfl⟩
  go_wp2_with fail
  refine HP.out.mono ?_
  rintro e w1 ⟨rfl, hb⟩
  have HB := Lib.hid hb; clear hb
  cases q
  · unfold errB
    go_wp2_with fail
    go_ret
    exact ⟨rfl, HB.out⟩
  · unfold errB
    cases a
    · go_wp2_with fail
      go_ret
      exact ⟨rfl, HB.out⟩
    · go_wp2_with fail
      refine (HK.out w1 (HL.out.below HB.out)).mono ?_
      rintro e w2 ⟨rfl, rfl⟩
      go_wp2_with fail
      go_ret
      exact ⟨rfl, HB.out⟩
set_option maxHeartbeats 2000000 in
theorem ref_any (name ref : Bs) (w : World) (hL : LS w) (hs : name.length ≤ 2000000000) (hs2 : ref.length ≤ 2000000000) :
    Calls Tryz.prog 10 #[.string ⟨name.toArray⟩, .string ⟨ref.toArray⟩] w fun e w' => e = .returned (.tuple #[.string ⟨(refS name ref).1.toArray⟩, .int .i64 (refS name ref).2]) ∧ Below w.heap.size w w' := by
  have hk := contains1_any 47 name w hL (by omega)
  have hp := path_any name w hL (by omega)
  have hr := fun w h => isref_any ref w h (by omega)
  have hc := fun w => cutAt_any ref w
  have hrl : (refPath name ref).length ≤ name.length + 1 + ref.length := by
    unfold refPath
    have := cut64_len ref
    split
    · omega
    · simp; omega
  have hp2 := fun w h => path_any (refPath name ref) w h (by omega)
  have hR := ref_cut name ref
  have hrp : refPath name ref = if at64 ref then cut64 ref else name ++ [47] ++ cut64 ref := by
    unfold refPath
    rcases at64_cases ref with ⟨r, rfl, h2, h3⟩ | ⟨h1, h2, h3⟩
    · rfl
    · rw [h2, h3]; simp
  have hcl := cut64_len ref
  generalize refS name ref = R at *
  generalize refPath name ref = P at *
  generalize cut64 ref = p at *
  generalize at64 ref = a at *
  generalize name.contains 47 = k at *
  generalize pathS name = q at *
  generalize isRefS ref = f at *
  generalize hpP : pathS P = z at *
  have HK := Lib.hid hk; have HP := Lib.hid hp; have HR := Lib.hid hr; have HC := Lib.hid hc; have HP2 := Lib.hid hp2; have HL := Lib.hid hL; have HRR := Lib.hid hR; have HRP := Lib.hid hrp
  clear hk hp hr hc hp2 hL hR hrp hpP
  go_enter Tryz.func10, Tryz.ntmps10
  go_wp2_with fail
  refine HK.out.mono ?_
  rintro e w0 ⟨rfl, rfl⟩
  cases k with
  | true =>
    go_wp2_with fail
    have hR : R = ([], 2) := by rw [HRR.out]; rfl
    subst hR
    go_ret2
    exact ⟨rfl, Below.refl _ _⟩
  | false =>
    go_wp2_with fail
    refine HP.out.mono ?_
    rintro e w1 ⟨rfl, hb⟩
    have HB := Lib.hid hb; clear hb
    cases q with
    | false =>
      unfold errB
      go_wp2_with fail
      have hR : R = ([], 2) := by rw [HRR.out]; rfl
      subst hR
      go_ret2
      exact ⟨rfl, HB.out⟩
    | true =>
      unfold errB
      go_wp2_with fail
      refine (HR.out w1 (HL.out.below HB.out)).mono ?_
      rintro e w2 ⟨rfl, hb⟩
      have HB2 := Lib.hid (HB.out.trans (hb.mono HB.out.size)); clear hb
      cases f with
      | false =>
        go_wp2_with fail
        have hR : R = ([], 2) := by rw [HRR.out]; rfl
        subst hR
        go_ret2
        exact ⟨rfl, HB2.out⟩
      | true =>
        have hR : R = if z then (P, 0) else ([], 2) := by rw [HRR.out]; rfl
        have HR2 := Lib.hid hR; clear hR HRR
        cases a with
        | true =>
          have hP : P = p := HRP.out
          subst hP
          go_wp2_with fail
          refine (HC.out w2).mono ?_
          rintro e w3 ⟨rfl, rfl⟩
          go_wp2_with fail
          refine (HP2.out w3 (HL.out.below HB2.out)).mono ?_
          rintro e w4 ⟨rfl, hb⟩
          have HB4 := Lib.hid (HB2.out.trans (hb.mono HB2.out.size)); clear hb
          cases z with
          | false =>
            unfold errB
            have hR : R = ([], 2) := HR2.out
            subst hR
            go_wp2_with fail
            go_ret2
            exact ⟨rfl, HB4.out⟩
          | true =>
            unfold errB
            have hR : R = (P, 0) := HR2.out
            subst hR
            go_wp2_with fail
            go_ret2
            exact ⟨rfl, HB4.out⟩
        | false =>
          have hP : P = name ++ 47 :: p := HRP.out.trans (by simp)
          subst hP
          have hl1 : ¬ (9223372036854775807 < name.length + 1) := by omega
          have hl2 : ¬ (9223372036854775807 < name.length + 1 + p.length) := by omega
          go_wp2_with fail
          refine (HC.out w2).mono ?_
          rintro e w3 ⟨rfl, rfl⟩
          go_wp2_with fail
          refine (HP2.out w3 (HL.out.below HB2.out)).mono ?_
          rintro e w4 ⟨rfl, hb⟩
          have HB4 := Lib.hid (HB2.out.trans (hb.mono HB2.out.size)); clear hb
          cases z with
          | false =>
            unfold errB
            have hR : R = ([], 2) := HR2.out
            subst hR
            go_wp2_with fail
            go_ret2
            exact ⟨rfl, HB4.out⟩
          | true =>
            unfold errB
            have hR : R = (name ++ 47 :: p, 0) := HR2.out
            subst hR
            go_wp2_with fail
            go_ret2
            exact ⟨rfl, HB4.out⟩
end Go.Proofs.YtpeamehplhpcjaaGreatDoor
namespace Go.Proofs.YtpeamehplhpcjaaGreatDoor
open Go.RowKit
def digits10 : Bs := [48, 49, 50, 51, 52, 53, 54, 55, 56, 57]
theorem dig_fin : ∀ n : Fin 256, digits10.contains (UInt8.ofNat n.val) = digC (UInt8.ofNat n.val) := by decide +kernel
theorem dig_set (x : UInt8) : digits10.contains x = digC x := by
  have e := dig_fin ⟨x.toNat, UInt8.toNat_lt x⟩
  simp only [UInt8.ofNat_toNat] at e
  exact e
theorem dropWhile_nil (s : Bs) : s.dropWhile digC = [] ↔ s.all digC = true := by
  induction s with
  | nil => simp
  | cons c r ih =>
    rw [List.dropWhile_cons, List.all_cons]
    by_cases h : digC c = true
    · rw [if_pos h, ih, h]; simp
    · rw [if_neg h]; simp [h]
theorem trim_dig (s : Bs) : decide (Lib.trimS s digits10 = []) = s.all digC := by
  have e : (fun x => digits10.contains x) = digC := funext dig_set
  unfold Lib.trimS Lib.trimLeftS Lib.trimRightS
  rw [e]
  have key : ∀ r : Bs, (r.dropWhile digC).all digC = r.all digC := by
    intro r
    induction r with
    | nil => rfl
    | cons c r ih =>
      rw [List.dropWhile_cons, List.all_cons]
      by_cases h : digC c = true
      · rw [if_pos h, ih, h, Bool.true_and]
      · rw [if_neg h, List.all_cons]
  rw [Bool.eq_iff_iff, decide_eq_true_eq, dropWhile_nil, List.all_reverse, key, List.all_reverse]
theorem trim_any (s : Bs) (w : World) (hs : s.length ≤ 4294967000) :
    Calls Tryz.prog 149 #[.string ⟨s.toArray⟩, .string ⟨#[48, 49, 50, 51, 52, 53, 54, 55, 56, 57]⟩] w fun e w' => e = .returned (.string ⟨(Lib.trimS s digits10).toArray⟩) ∧ Below w.heap.size w w' :=
  Any.strings_Trim_laid Tryz.lays160 (by kernel_rfl) ⟨s.toArray⟩ ⟨#[48, 49, 50, 51, 52, 53, 54, 55, 56, 57]⟩ w (by simp [ByteArray.size]; omega) (by decide) (ascii_of_all (by decide))
theorem decFrom_val (s : Bs) (h : s.all digC = true) (n : Nat) : Lib.decFrom n s = some (valN s n) := by
  induction s generalizing n with
  | nil => rfl
  | cons c r ih =>
    rw [List.all_cons, Bool.and_eq_true] at h
    have hc : 48 ≤ c.toNat ∧ c.toNat ≤ 57 := by have := h.1; unfold digC at this; simpa using this
    unfold Lib.decFrom Lib.digitVal valN
    rw [if_pos hc]
    show Lib.decFrom (n * 10 + (c.toNat - 48)) r = _
    rw [ih h.2, Nat.mul_comm]
theorem atoi_val (s : Bs) (h0 : s ≠ []) (h : s.all digC = true) (hl : s.length ≤ 18) : Lib.atoiAll s = .ok (valN s 0 : Nat) := by
  rw [Lib.atoiAll_short s hl]
  cases s with
  | nil => exact absurd rfl h0
  | cons c r =>
    have hd := decFrom_val _ h 0
    rw [List.all_cons, Bool.and_eq_true] at h
    have hc : 48 ≤ c.toNat ∧ c.toNat ≤ 57 := by have := h.1; unfold digC at this; simpa using this
    have h1 : (c == 45) = false := by rw [beq_eq_false_iff_ne]; rintro rfl; have : (45 : UInt8).toNat = 45 := rfl; omega
    have h2 : (c == 43) = false := by rw [beq_eq_false_iff_ne]; rintro rfl; have : (43 : UInt8).toNat = 43 := rfl; omega
    unfold Lib.atoi Lib.decNat
    simp only [h1, h2, List.isEmpty_cons, hd]
    rfl
theorem atoi_ok (s : Bs) (v : Int) (h : Lib.atoiAll s = .ok v) (hs : s.length ≤ 4294967000) (w : World) :
    Calls Tryz.prog 150 #[.string ⟨s.toArray⟩] w fun e w' => e = .returned (.tuple #[.int .i64 v, .nilIface]) ∧ Below w.heap.size w w' := by
  refine (Tryz.strconv_Atoi_ok ⟨s.toArray⟩ (by simp [ByteArray.size]; omega) v (by simpa using h) w).mono ?_
  rintro e w' ⟨rfl, rfl | ⟨t, rfl⟩⟩
  · exact ⟨rfl, Below.refl _ _⟩
  · exact ⟨rfl, Lib.bytesWorld_below _ _ _⟩
set_option maxHeartbeats 2000000 in
theorem numberW_any (s : Bs) (w : World) (hs : s.length ≤ 4294967000) :
    Calls Tryz.prog 103 #[.string ⟨s.toArray⟩] w fun e w' => e = .returned (.int .i64 (numberS s)) ∧ Below w.heap.size w w' := by
  cases s with
  | nil =>
    go_enter Tryz.func103, Tryz.ntmps103
    go_wp2_with fail
    go_ret
    exact ⟨rfl, Below.refl _ _⟩
  | cons c r =>
    have ht := trim_any (c :: r) w hs
    have hd := trim_dig (c :: r)
    have ha : (c :: r).all digC = true → (c :: r).length ≤ 9 → ∀ w, Calls Tryz.prog 150 #[.string ⟨(c :: r).toArray⟩] w fun e w' => e = .returned (.tuple #[.int .i64 (valN (c :: r) 0), .nilIface]) ∧ Below w.heap.size w w' := fun h hl w => atoi_ok _ _ (atoi_val _ (by simp) h (by omega)) hs w
    have hv : numberS (c :: r) = if !(c :: r).all digC || (decide (0 < r.length) && c == 48) then (-1 : Int) else if 8 < r.length then (1073741824 : Int) else ((valN (c :: r) 0 : Nat) : Int) := by
      unfold numberS
      have e1 : (9 < (c :: r).length) = (8 < r.length) := by rw [List.length_cons]; exact propext ⟨fun h => by omega, fun h => by omega⟩
      have e2 : decide (1 < (c :: r).length) = decide (0 < r.length) := by rw [List.length_cons]; exact decide_eq_decide.2 ⟨fun h => by omega, fun h => by omega⟩
      simp only [e1, e2]
      rfl
    generalize numberS (c :: r) = v at *
    generalize Lib.trimS (c :: r) digits10 = t at *
    generalize (c :: r).all digC = q at *
    have hzc : ∃ z : Int, z = ((valN (c :: r) 0 : Nat) : Int) := ⟨_, rfl⟩
    obtain ⟨z, hz⟩ := hzc
    rw [← hz] at ha hv
    clear hz
    have hl := hs
    rw [List.length_cons] at hl
    have HT := Lib.hid ht; have HA := Lib.hid ha; have HV := Lib.hid hv
    clear ht ha hv hs
    cases q with
    | false =>
      have htn : t ≠ [] := by simpa using hd
      have hv : v = -1 := by rw [HV.out]; rfl
      subst hv
      clear hd
      go_enter Tryz.func103, Tryz.ntmps103
      go_wp2_with (first | (go_at_call 149; refine HT.out.mono ?_; rintro e w1 ⟨rfl, hb⟩))
      go_ret
      exact ⟨rfl, hb⟩
    | true =>
      have htn : t = [] := by simpa using hd
      subst htn
      clear hd
      by_cases h0 : 0 < r.length
      · have hI : (0 : Int) < r.length := by omega
        by_cases h48 : c = 48
        · subst h48
          have hv : v = -1 := by rw [HV.out]; simp [h0]
          subst hv
          go_enter Tryz.func103, Tryz.ntmps103
          go_wp2_with (first | (go_at_call 149; refine HT.out.mono ?_; rintro e w1 ⟨rfl, hb⟩))
          go_ret
          exact ⟨rfl, hb⟩
        · have hv : v = if 8 < r.length then (1073741824 : Int) else z := by rw [HV.out]; simp [h48]
          have h48n : ((c.toNat : Int) == 48) = false := by
            rw [beq_eq_false_iff_ne]
            intro e
            exact h48 (UInt8.toNat_inj.1 (by show c.toNat = 48; omega))
          clear HV
          by_cases h8 : 8 < r.length
          · have hI8 : (9 : Int) < (r.length : Int) + 1 := by omega
            have hv : v = 1073741824 := by rw [hv, if_pos h8]
            subst hv
            go_enter Tryz.func103, Tryz.ntmps103
            go_wp2_with (first | (go_at_call 149; refine HT.out.mono ?_; rintro e w1 ⟨rfl, hb⟩))
            go_ret
            exact ⟨rfl, hb⟩
          · have hI8 : ¬ (9 : Int) < (r.length : Int) + 1 := by omega
            have hv2 : v = z := by rw [hv, if_neg h8]
            clear hv
            subst hv2
            have HA2 := Lib.hid (HA.out rfl (by rw [List.length_cons]; omega))
            go_enter Tryz.func103, Tryz.ntmps103
            go_wp2_with (first | (go_at_call 149; refine HT.out.mono ?_; rintro e w1 ⟨rfl, hb⟩) | (go_at_call 150; refine (HA2.out _).mono ?_; rintro e w2 ⟨rfl, hb2⟩))
            go_ret
            exact ⟨rfl, next hb hb2 (Nat.le_refl _)⟩
      · have hr : r = [] := by cases r with
                               | nil => rfl
                               | cons a b => simp at h0
        subst hr
        have hv : v = z := by rw [HV.out]; rfl
        subst hv
        have HA2 := Lib.hid (HA.out rfl (by simp))
        go_enter Tryz.func103, Tryz.ntmps103
        go_wp2_with (first | (go_at_call 149; refine HT.out.mono ?_; rintro e w1 ⟨rfl, hb⟩) | (go_at_call 150; refine (HA2.out _).mono ?_; rintro e w2 ⟨rfl, hb2⟩))
        go_ret
        exact ⟨rfl, next hb hb2 (Nat.le_refl _)⟩
end Go.Proofs.YtpeamehplhpcjaaGreatDoor
