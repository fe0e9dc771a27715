/- A part of the proofs of the laws of one package; see the law's own text, which comes last in 'order'. No conditions of its own. -/
import Derived.Test.YtpeamehplhpcjaaGreatDoorZ27
import Derived.Test.YtpeamehplhpcjaaGreatDoorZ29
import Derived.Test.YtpeamehplhpcjaaGreatDoorZ30
set_option linter.unusedVariables false
set_option linter.unusedSimpArgs false
namespace Go.Proofs.YtpeamehplhpcjaaGreatDoor
def shapeK (m k : Int) (b : Bs) (r : List Bs) : Hd × Bool :=
    if k < 1 then (⟨0, m, [], [], 0⟩, false)
    else if k = 1 ∨ k = 3 ∨ k = 7 then (⟨k, m, b, [], 0⟩, r.isEmpty)
    else if k = 6 then (⟨k, m, [], [], numberS b⟩, r.isEmpty && decide (0 ≤ numberS b))
    else
      let l := (b :: r).getLastD []
      (⟨k, m, b, r.take (r.length - 1), numberS l⟩, !r.isEmpty && decide (0 ≤ numberS l) && (decide (k = 2 ∨ k = 8) || decide (r.length = 1)))
def shape2 (m : Int) (w : List Bs) : Hd × Bool :=
  match w with
  | a :: b :: r => shapeK m (wordS a) b r
  | _ => (⟨0, m, [], [], 0⟩, false)
theorem shape_two (w : List Bs) : shapeS w = shape2 (modeS w).1 (modeS w).2 := rfl
def fin2 (h : Hd × Bool) : Hd × Int := if !h.2 then (noHd, 4) else if headE h.1 ≠ 0 then (noHd, headE h.1) else (h.1, 0)
def rfinK (m w : Int) (l : List Bs) : Hd × Int :=
    let named := decide (w ≠ 6)
    let counted := decide (w ≠ 1 ∧ w ≠ 3 ∧ w ≠ 7)
    let least := 1 + (if named then 1 else 0) + (if counted then 1 else 0)
    let params := decide (w = 2 ∨ w = 8)
    if w < 0 ∨ (m ≠ 0 ∧ w ≠ 8 ∧ w ≠ 9) ∨ l.length < least ∨ (least < l.length ∧ params = false) then (noHd, 4)
    else
      let n := if counted then rdigits (l.getLastD []) else 0
      if n < 0 then (noHd, 4)
      else
        let h : Hd := ⟨w, m, if named then l.getD 1 [] else [], if params then (l.drop 2).take (l.length - 3) else [], n⟩
        if rerr h named params ≠ 0 then (noHd, rerr h named params) else (h, 0)
def rfin (m : Int) (l : List Bs) : Hd × Int := rfinK m (rwordS (l.headD [])) l
theorem word_eq {s : Bs} (h : s ≠ []) : wordS s = rwordS s := by
  have e : words = [] :: rwords := rfl
  unfold wordS rwordS
  rw [e, List.findIdx?_cons]
  have : (([] : Bs) == s) = false := by rw [beq_eq_false_iff_ne]; exact fun e => h e.symm
  rw [this]
  simp only [Bool.false_eq_true, if_false]
  cases List.findIdx? (· == s) rwords with
  | none => rfl
  | some i => simp
theorem rword_range (s : Bs) : rwordS s = -1 ∨ (1 ≤ rwordS s ∧ rwordS s ≤ 9) := by
  unfold rwordS
  cases h : List.findIdx? (· == s) rwords with
  | none => exact .inl rfl
  | some i =>
    have := (List.findIdx?_eq_some_iff_findIdx_eq.1 h).1
    have hl : rwords.length = 9 := rfl
    right
    simp only
    omega
theorem rword_get (s : Bs) (k : Nat) (h : rwordS s = (k : Int)) : s = words.getD k [] := by
  have e : words = [] :: rwords := rfl
  unfold rwordS at h
  cases hf : List.findIdx? (· == s) rwords with
  | none => rw [hf] at h; simp only at h; omega
  | some i =>
    rw [hf] at h
    simp only at h
    obtain rfl : k = i + 1 := by omega
    obtain ⟨hi, h1, -⟩ := List.findIdx?_eq_some_iff_getElem.1 hf
    rw [e, List.getD_cons_succ, List.getD_eq_getElem?_getD, List.getElem?_eq_getElem hi, Option.getD_some]
    exact (by simpa using h1 : rwords[i] = s).symm
theorem headR_eq (k m n n' : Int) (b : Bs) (ps : List Bs) (pf : Bool) (h6 : k ≠ 6) (hp : pf = false → ps = []) (hn : 1024 < n ↔ 1024 < n') : headE ⟨k, m, b, ps, n⟩ = rerr ⟨k, m, b, ps, n'⟩ true pf := by
  unfold headE rerr
  simp only [Bool.true_and]
  have hpn : ps.any (fun p => !nameT p) = ps.any (fun p => !name5 p) := by congr 1; funext p; rw [name_eq]
  rw [hpn, name_eq]
  have e3 : (if 1024 < n then (3 : Int) else 0) = if 1024 < n' then 3 else 0 := by
    by_cases h : 1024 < n
    · rw [if_pos h, if_pos (hn.1 h)]
    · rw [if_neg h, if_neg (fun x => h (hn.2 x))]
  cases pf with
  | false =>
    have hps := hp rfl
    subst hps
    simp only [List.any_nil, dupS, List.length_nil, Bool.false_eq_true, if_false, Bool.false_and]
    rw [e3]
    by_cases h1 : k = 1
    · subst h1
      cases hr : isRefS b <;> simp
    · simp [h1, h6]
  | true =>
    simp only [Bool.true_and, decide_eq_true_eq]
    rw [e3]
    by_cases h1 : k = 1
    · subst h1
      cases hr : isRefS b <;> simp
    · simp [h1, h6]
theorem core_eq (m : Int) (l : List Bs) (hc : l.contains [] = false) (hm : m ≠ 0 → rwordS (l.headD []) = 8 ∨ rwordS (l.headD []) = 9) : rfin m l = fin2 (shape2 m l) := by
  match l, hc, hm with
  | [], _, _ => rfl
  | [a], hc, hm =>
    have h4 : fin2 (shape2 m [a]) = (noHd, 4) := rfl
    rw [h4]
    show rfinK m (rwordS a) [a] = _
    have hr := rword_range a
    generalize rwordS a = k at *
    unfold rfinK
    simp only [List.length_cons, List.length_nil]
    refine if_pos ?_
    rcases hr with h | h
    · exact .inl (by omega)
    · right; right; left
      by_cases h6 : k = 6
      · simp [h6]
      · simp [h6]; omega
  | a :: b :: r, hc, hm =>
    have ha : a ≠ [] := fun e => by subst e; simp at hc
    have hr := rword_range a
    have hm : m ≠ 0 → rwordS a = 8 ∨ rwordS a = 9 := hm
    show rfinK m (rwordS a) (a :: b :: r) = fin2 (shapeK m (wordS a) b r)
    rw [word_eq ha]
    generalize rwordS a = k at *
    unfold rfinK shapeK fin2
    simp only [List.length_cons]
    by_cases h1 : k < 1
    · rw [if_pos h1, if_pos (.inl (by omega))]
      rfl
    · rw [if_neg h1]
      have hml : ¬ (m ≠ 0 ∧ k ≠ 8 ∧ k ≠ 9) := fun ⟨x, y, z⟩ => (hm x).elim y z
      by_cases h2 : k = 1 ∨ k = 3 ∨ k = 7
      · rw [if_pos h2]
        have e6 : decide (k ≠ 6) = true := by rw [decide_eq_true_eq]; omega
        have ec : decide (k ≠ 1 ∧ k ≠ 3 ∧ k ≠ 7) = false := by rw [decide_eq_false_iff_not]; omega
        have ep : decide (k = 2 ∨ k = 8) = false := by rw [decide_eq_false_iff_not]; omega
        rw [e6, ec, ep]
        simp only [if_true, Bool.false_eq_true, if_false]
        cases r with
        | nil =>
          rw [if_neg (by simp only [List.length_nil]; omega)]
          simp only [Int.lt_irrefl, if_false, List.isEmpty_nil, Bool.not_true, Bool.false_eq_true]
          have := headR_eq k m 0 0 b [] false (by omega) (fun _ => rfl) Iff.rfl
          rw [this]
          rfl
        | cons c t =>
          refine (if_pos ?_).trans rfl
          right; right; right
          exact ⟨by simp only [List.length_cons]; omega, trivial⟩
      · rw [if_neg h2]
        have ec : decide (k ≠ 1 ∧ k ≠ 3 ∧ k ≠ 7) = true := by rw [decide_eq_true_eq]; omega
        rw [ec]
        by_cases h3 : k = 6
        · rw [if_pos h3]
          have e6 : decide (k ≠ 6) = false := by rw [decide_eq_false_iff_not]; omega
          have ep : decide (k = 2 ∨ k = 8) = false := by rw [decide_eq_false_iff_not]; omega
          rw [e6, ep]
          simp only [if_true, Bool.false_eq_true, if_false]
          cases r with
          | nil =>
            rw [if_neg (by simp only [List.length_nil]; omega)]
            have el : (a :: [b]).getLastD [] = b := rfl
            rw [el]
            obtain ⟨d1, d2, d3⟩ := digits_eq b
            by_cases hn : numberS b < 0
            · rw [if_pos (d1.1 hn)]
              have : decide (0 ≤ numberS b) = false := by rw [decide_eq_false_iff_not]; omega
              rw [this]
              rfl
            · rw [if_neg (fun h => hn (d1.2 h))]
              have : decide (0 ≤ numberS b) = true := by rw [decide_eq_true_eq]; omega
              rw [this]
              simp only [List.isEmpty_nil, Bool.and_self, Bool.not_true, Bool.false_eq_true, if_false]
              have eh : headE ⟨k, m, [], [], numberS b⟩ = if 1024 < numberS b then 3 else 0 := by
                unfold headE
                simp [h3, dupS]
              have er : rerr ⟨k, m, [], [], rdigits b⟩ false false = if 1024 < rdigits b then 3 else 0 := by
                unfold rerr
                simp
              rw [eh, er]
              by_cases h10 : 1024 < numberS b
              · rw [if_pos h10, if_pos (d2.1 h10)]
                rfl
              · rw [if_neg h10, if_neg (fun h => h10 (d2.2 h)), d3 (by omega) (by omega)]
          | cons c t =>
            refine (if_pos ?_).trans rfl
            right; right; right
            exact ⟨by simp only [List.length_cons]; omega, trivial⟩
        · rw [if_neg h3]
          have e6 : decide (k ≠ 6) = true := by rw [decide_eq_true_eq]; omega
          rw [e6]
          simp only [if_true]
          have el : (a :: b :: r).getLastD [] = (b :: r).getLastD [] := rfl
          rw [el]
          generalize hz : (b :: r).getLastD [] = z at *
          cases r with
          | nil =>
            refine (if_pos ?_).trans rfl
            right; right; left
            simp only [List.length_nil]
            omega
          | cons c t =>
            obtain ⟨d1, d2, d3⟩ := digits_eq z
            have hbad : (k < 0 ∨ (m ≠ 0 ∧ k ≠ 8 ∧ k ≠ 9) ∨ (c :: t).length + 1 + 1 < 1 + 1 + 1 ∨ (1 + 1 + 1 < (c :: t).length + 1 + 1 ∧ decide (k = 2 ∨ k = 8) = false)) ↔ ¬ ((decide (k = 2 ∨ k = 8) || decide ((c :: t).length = 1)) = true) := by
              simp only [List.length_cons, Bool.or_eq_true, decide_eq_true_eq, decide_eq_false_iff_not]
              omega
            by_cases hq : (decide (k = 2 ∨ k = 8) || decide ((c :: t).length = 1)) = true
            · rw [if_neg (fun h => hbad.1 h hq), hq]
              simp only [List.isEmpty_cons, Bool.not_false, Bool.true_and, Bool.and_true]
              by_cases hn : numberS z < 0
              · rw [if_pos (d1.1 hn)]
                have : decide (0 ≤ numberS z) = false := by rw [decide_eq_false_iff_not]; omega
                rw [this]
                rfl
              · rw [if_neg (fun h => hn (d1.2 h))]
                have : decide (0 ≤ numberS z) = true := by rw [decide_eq_true_eq]; omega
                rw [this]
                simp only [Bool.not_true, Bool.false_eq_true, if_false]
                have eps : (if decide (k = 2 ∨ k = 8) = true then ((a :: b :: c :: t).drop 2).take ((c :: t).length + 1 + 1 - 3) else []) = (c :: t).take ((c :: t).length - 1) := by
                  by_cases h28 : k = 2 ∨ k = 8
                  · rw [if_pos (by simpa using h28)]
                    rfl
                  · rw [if_neg (by simpa using h28)]
                    have : (c :: t).length = 1 := by
                      simp only [Bool.or_eq_true, decide_eq_true_eq] at hq
                      exact hq.resolve_left h28
                    rw [this]
                    rfl
                have e1 : (a :: b :: c :: t).getD 1 [] = b := rfl
                rw [eps, e1]
                have hE := headR_eq k m (numberS z) (rdigits z) b ((c :: t).take ((c :: t).length - 1)) (decide (k = 2 ∨ k = 8)) h3 (fun h => by
                  rw [h] at hq
                  simp only [Bool.false_or, decide_eq_true_eq] at hq
                  rw [hq]
                  rfl) d2
                rw [← hE]
                by_cases h0 : headE ⟨k, m, b, (c :: t).take ((c :: t).length - 1), numberS z⟩ ≠ 0
                · rw [if_pos h0, if_pos h0]
                · rw [if_neg h0, if_neg h0]
                  have h10 : ¬ 1024 < numberS z := by
                    intro h
                    apply h0
                    unfold headE
                    simp only [h, if_true]
                    split
                    · decide
                    · split
                      · decide
                      · split
                        · decide
                        · split
                          · decide
                          · split <;> decide
                  rw [d3 (by omega) (by omega)]
            · rw [if_pos (hbad.2 hq)]
              have : (decide (k = 2 ∨ k = 8) || decide ((c :: t).length = 1)) = false := by simpa using hq
              rw [this]
              simp
theorem rparse_eq (s : Bs) : rparseH s = parseH s := by
  unfold rparseH parseH
  by_cases he : s.isEmpty
  · rw [if_pos he, if_pos he]
  · rw [if_neg he, if_neg he]
    simp only
    rw [shape_two]
    generalize splitS 32 s = w at *
    have hcont : (rmodeS w).2.contains [] = w.contains [] := by
      unfold rmodeS
      match w with
      | [] => rfl
      | [_] => rfl
      | a :: b :: r =>
        simp only
        split
        · rename_i h
          have ha : a ≠ [] := by rcases h with h | h <;> (rw [h]; decide)
          have : (([] : Bs) == a) = false := by rw [beq_eq_false_iff_ne]; exact fun e => ha e.symm
          rw [List.contains_cons, List.contains_cons (a := a), this, Bool.false_or, List.contains_cons]
        · rfl
    rw [hcont]
    cases hc : w.contains [] with
    | true => simp
    | false =>
      simp only [Bool.false_eq_true, if_false, Bool.or_false]
      show rfin (rmodeS w).1 (rmodeS w).2 = fin2 (shape2 (modeS w).1 (modeS w).2)
      have h8 : rwordS wFn = 8 := by decide +kernel
      have h9 : rwordS wData = 9 := by decide +kernel
      by_cases hsame : rmodeS w = modeS w
      · rw [← hsame]
        refine core_eq _ _ (by rw [hcont]; exact hc) fun hm => ?_
        rw [hsame] at hm ⊢
        unfold modeS at hm ⊢
        match w with
        | [] => exact absurd rfl hm
        | [_] => exact absurd rfl hm
        | a :: b :: r =>
          simp only at hm ⊢
          split at hm
          · rename_i h
            rw [if_pos h]
            rcases h.2 with e | e
            · left; show rwordS b = 8; rw [e]; exact h8
            · right; show rwordS b = 9; rw [e]; exact h9
          · exact absurd rfl hm
      · match w with
        | [] => exact absurd rfl hsame
        | [_] => exact absurd rfl hsame
        | a :: b :: r =>
          have h1 : a = wExport ∨ a = wWeak := by
            rcases Classical.em (a = wExport ∨ a = wWeak) with h | h
            · exact h
            · exfalso; apply hsame
              unfold rmodeS modeS
              simp only
              rw [if_neg h, if_neg (fun x => h x.1)]
          have h2 : ¬ (b = wFn ∨ b = wData) := fun h => hsame (by
            unfold rmodeS modeS
            simp only
            rw [if_pos h1]
            exact (if_pos (And.intro h1 h)).symm)
          have em : modeS (a :: b :: r) = (0, a :: b :: r) := by unfold modeS; simp only; rw [if_neg (fun x => h2 x.2)]
          have er : (rmodeS (a :: b :: r)).1 ≠ 0 ∧ (rmodeS (a :: b :: r)).2 = b :: r := by
            unfold rmodeS
            simp only
            rw [if_pos h1]
            refine ⟨?_, rfl⟩
            show (if a = wWeak then (2 : Int) else 1) ≠ 0
            split <;> decide
          rw [em]
          have e1 : fin2 (shape2 0 (a :: b :: r)) = (noHd, 4) := by
            show fin2 (shapeK 0 (wordS a) b r) = _
            have : wordS a < 1 := by rcases h1 with e | e <;> (rw [e]; decide +kernel)
            unfold shapeK
            rw [if_pos this]
            rfl
          rw [e1, er.2]
          show rfinK _ (rwordS b) (b :: r) = _
          refine if_pos ?_
          right; left
          refine ⟨er.1, fun h => h2 (.inl ?_), fun h => h2 (.inr ?_)⟩
          · exact (rword_get b 8 h).trans (by decide +kernel)
          · exact (rword_get b 9 h).trans (by decide +kernel)
end Go.Proofs.YtpeamehplhpcjaaGreatDoor
namespace Go.Proofs.YtpeamehplhpcjaaGreatDoor
open Go.RowKit
theorem digt_C (c : UInt8) : digt c.toNat = digC c := by
  unfold digt digC
  rw [Bool.eq_iff_iff]
  simp only [Bool.and_eq_true, decide_eq_true_eq]
  omega
theorem rdigGo_cons (c : UInt8) (r : Bs) (n : Nat) : rdigGo (c :: r) n = if !digC c then -1 else rdigGo r (min (10 * n + (c.toNat - 48)) 1025) := rfl
set_option maxRecDepth 100000 in
set_option maxHeartbeats 2000000 in
theorem rdigits_any (s : Bs) (w : World) (hl : s.length ≤ 4294967000) :
    Calls Tryz.prog 175 #[.string ⟨s.toArray⟩] w fun e w' => e = .returned (.int .i64 (rdigits s)) ∧ w = w' := by
  cases s with
  | nil =>
    go_enter Tryz.func175, Tryz.ntmps175
    go_wp2_with fail
    go_ret
    exact ⟨rfl, rfl⟩
  | cons c r =>
    have hv : rdigits (c :: r) = if decide (0 < r.length) && c == 48 then (-1 : Int) else rdigGo (c :: r) 0 := by
      unfold rdigits
      have e2 : decide (1 < (c :: r).length) = decide (0 < r.length) := by rw [List.length_cons]; exact decide_eq_decide.2 ⟨fun h => by omega, fun h => by omega⟩
      simp only [e2]
      rfl
    generalize rdigits (c :: r) = v at *
    rw [List.length_cons] at hl
    by_cases hb : 0 < r.length ∧ c = 48
    · obtain ⟨h0, rfl⟩ := hb
      have hI : (0 : Int) < r.length := by omega
      have hv2 : v = -1 := by rw [hv]; simp [h0]
      subst hv2
      clear hv
      go_enter Tryz.func175, Tryz.ntmps175
      go_wp2_with fail
      go_ret
      exact ⟨rfl, rfl⟩
    · have Hv : Hid (v = rdigGo ((c :: r).drop 0) 0) := Lib.hid (by
        rw [hv, if_neg, List.drop_zero]
        intro h
        simp only [Bool.and_eq_true, decide_eq_true_eq, beq_iff_eq] at h
        exact hb h)
      clear hv
      go_enter Tryz.func175, Tryz.ntmps175
      by_cases h0 : 0 < r.length
      · have hI : (0 : Int) < r.length := by omega
        have h48 : c ≠ 48 := fun e => hb ⟨h0, e⟩
        have h48n : ((c.toNat : Int) == 48) = false := by
          rw [beq_eq_false_iff_ne]
          intro e
          exact h48 (UInt8.toNat_inj.1 (by show c.toNat = 48; omega))
        have hls : (c :: r).length ≤ 4294967000 := hl
        clear hb
        go_upto_region 5 with fail
        clear h48n h48 hI h0
        (generalize c :: r = s at *); go_loopw [3, 4] (fun n i wr => ∃ (k m : Nat), k ≤ s.length ∧ m ≤ 1025 ∧ n = .int .i64 m ∧ i = .int .i64 k ∧ w = wr ∧ Hid (v = rdigGo (s.drop k) m)) (fun _ i _ => s.length - (intOf i).toNat); (case atStart => exact ⟨0, 0, by omega, by omega, rfl, rfl, rfl, Hv⟩); (case round => (obtain ⟨k, m, hk, hm, rfl, rfl, rfl, hf⟩ := hrel); (by_cases hlt : k < s.length); (focus (have hd := hf.out); (rw [drop_get hlt, rdigGo_cons, ← digt_C] at hd); clear hf; (have hx := UInt8.toNat_lt s[k]); (cases hq : digt s[k].toNat); (focus (have hv2 : v = -1 := by (rw [hd, hq]; rfl)); clear hd; subst hv2; go_wp2_with (go_at_call 136; refine (digit5_any _ _).mono ?_; rintro e w' ⟨rfl, rfl⟩; rw [hq]); go_ret; exact ⟨rfl, rfl⟩); (focus (have hdt : 48 ≤ s[k].toNat ∧ s[k].toNat ≤ 57 := by (have h := hq; unfold digt at h; simp only [Bool.and_eq_true, decide_eq_true_eq] at h; omega)); (rw [hq] at hd); (simp only [Bool.not_true, Bool.false_eq_true, if_false] at hd); (generalize hxx : s[k].toNat = x at *); (have HD := Lib.hid hd); clear hd; go_wp2_with (go_at_call 136; refine (digit5_any _ _).mono ?_; rintro e w' ⟨rfl, rfl⟩; rw [hq]); go_roundw; (case rel => exact ⟨k + 1, min (10 * m + (x - 48)) 1025, by omega, by omega, by go_num, by go_num, trivial, HD⟩); (case measure => simp [intOf]; omega))); (focus (have hd := hf.out); (rw [drop_end hlt] at hd); (have hv2 : v = (m : Int) := hd); clear hd hf; subst hv2; go_wp2_with fail; go_ret; exact ⟨rfl, rfl⟩))
      · have hr : r = [] := by cases r with
                               | nil => rfl
                               | cons a b => simp at h0
        subst hr
        have hls : [c].length ≤ 4294967000 := by simp
        clear hb
        go_upto_region 5 with fail
        generalize ([] : Bs) = r at *
        (generalize c :: r = s at *); go_loopw [3, 4] (fun n i wr => ∃ (k m : Nat), k ≤ s.length ∧ m ≤ 1025 ∧ n = .int .i64 m ∧ i = .int .i64 k ∧ w = wr ∧ Hid (v = rdigGo (s.drop k) m)) (fun _ i _ => s.length - (intOf i).toNat); (case atStart => exact ⟨0, 0, by omega, by omega, rfl, rfl, rfl, Hv⟩); (case round => (obtain ⟨k, m, hk, hm, rfl, rfl, rfl, hf⟩ := hrel); (by_cases hlt : k < s.length); (focus (have hd := hf.out); (rw [drop_get hlt, rdigGo_cons, ← digt_C] at hd); clear hf; (have hx := UInt8.toNat_lt s[k]); (cases hq : digt s[k].toNat); (focus (have hv2 : v = -1 := by (rw [hd, hq]; rfl)); clear hd; subst hv2; go_wp2_with (go_at_call 136; refine (digit5_any _ _).mono ?_; rintro e w' ⟨rfl, rfl⟩; rw [hq]); go_ret; exact ⟨rfl, rfl⟩); (focus (have hdt : 48 ≤ s[k].toNat ∧ s[k].toNat ≤ 57 := by (have h := hq; unfold digt at h; simp only [Bool.and_eq_true, decide_eq_true_eq] at h; omega)); (rw [hq] at hd); (simp only [Bool.not_true, Bool.false_eq_true, if_false] at hd); (generalize hxx : s[k].toNat = x at *); (have HD := Lib.hid hd); clear hd; go_wp2_with (go_at_call 136; refine (digit5_any _ _).mono ?_; rintro e w' ⟨rfl, rfl⟩; rw [hq]); go_roundw; (case rel => exact ⟨k + 1, min (10 * m + (x - 48)) 1025, by omega, by omega, by go_num, by go_num, trivial, HD⟩); (case measure => simp [intOf]; omega))); (focus (have hd := hf.out); (rw [drop_end hlt] at hd); (have hv2 : v = (m : Int) := hd); clear hd hf; subst hv2; go_wp2_with fail; go_ret; exact ⟨rfl, rfl⟩))
def wrdF (s : Bs) : List Bs → Nat → Int
  | [], _ => -1
  | x :: r, k => if x == s then (k : Int) + 1 else wrdF s r (k + 1)
theorem wrdF_cons (s x : Bs) (r : List Bs) (k : Nat) : wrdF s (x :: r) k = if x == s then (k : Int) + 1 else wrdF s r (k + 1) := rfl
theorem wrdF_eq (s : Bs) : ∀ (l : List Bs) (k : Nat), (match l.findIdx? (· == s) with | some i => ((i + k : Nat) : Int) + 1 | none => -1) = wrdF s l k := by
  intro l
  induction l with
  | nil => intro k; rfl
  | cons x r ih =>
    intro k
    unfold wrdF
    rw [List.findIdx?_cons]
    cases h : x == s with
    | true => simp
    | false =>
      simp only [Bool.false_eq_true, if_false]
      rw [← ih (k + 1)]
      cases h2 : r.findIdx? (· == s) with
      | none => rfl
      | some i => simp only [Option.map_some]; congr 1; omega
theorem rwordS_F (s : Bs) : rwordS s = wrdF s rwords 0 := (wrdF_eq s rwords 0 ▸ rfl : _)
set_option maxHeartbeats 1000000 in
theorem rword_any (s : Bs) (w : World) :
    Calls Tryz.prog 174 #[.string ⟨s.toArray⟩] w fun e w' => e = .returned (.int .i64 (rwordS s)) ∧ Below w.heap.size w w' := by
  obtain ⟨v, hv⟩ : ∃ v, v = rwordS s := ⟨_, rfl⟩
  rw [← hv]
  rw [rwordS_F] at hv
  go_enter Tryz.func174, Tryz.ntmps174
  go_upto_region 2 with fail
  have hn0 := heap_alloc_new w (.cells #[.string ⟨#[105, 110, 99, 108, 117, 100, 101]⟩, .string ⟨#[100, 101, 102, 105, 110, 101]⟩, .string ⟨#[117, 110, 100, 101, 102]⟩, .string ⟨#[119, 104, 101, 110]⟩, .string ⟨#[117, 110, 108, 101, 115, 115]⟩, .string ⟨#[110, 111, 116, 101]⟩, .string ⟨#[101, 120, 116, 101, 114, 110]⟩, .string ⟨#[102, 110]⟩, .string ⟨#[100, 97, 116, 97]⟩] 9)
  have hs0 : Sl (w.alloc (.cells #[.string ⟨#[105, 110, 99, 108, 117, 100, 101]⟩, .string ⟨#[100, 101, 102, 105, 110, 101]⟩, .string ⟨#[117, 110, 100, 101, 102]⟩, .string ⟨#[119, 104, 101, 110]⟩, .string ⟨#[117, 110, 108, 101, 115, 115]⟩, .string ⟨#[110, 111, 116, 101]⟩, .string ⟨#[101, 120, 116, 101, 114, 110]⟩, .string ⟨#[102, 110]⟩, .string ⟨#[100, 97, 116, 97]⟩] 9)) (fun _ => True) (some ⟨w.heap.size, 0, none⟩) 9 9 rwords := Sl.lits (xs := rwords) hn0 rfl (by decide) trivial rfl rfl
  have hb0 : Below w.heap.size w (w.alloc (.cells #[.string ⟨#[105, 110, 99, 108, 117, 100, 101]⟩, .string ⟨#[100, 101, 102, 105, 110, 101]⟩, .string ⟨#[117, 110, 100, 101, 102]⟩, .string ⟨#[119, 104, 101, 110]⟩, .string ⟨#[117, 110, 108, 101, 115, 115]⟩, .string ⟨#[110, 111, 116, 101]⟩, .string ⟨#[101, 120, 116, 101, 114, 110]⟩, .string ⟨#[102, 110]⟩, .string ⟨#[100, 97, 116, 97]⟩] 9)) := boxed
  generalize (w.alloc (.cells #[.string ⟨#[105, 110, 99, 108, 117, 100, 101]⟩, .string ⟨#[100, 101, 102, 105, 110, 101]⟩, .string ⟨#[117, 110, 100, 101, 102]⟩, .string ⟨#[119, 104, 101, 110]⟩, .string ⟨#[117, 110, 108, 101, 115, 115]⟩, .string ⟨#[110, 111, 116, 101]⟩, .string ⟨#[101, 120, 116, 101, 114, 110]⟩, .string ⟨#[102, 110]⟩, .string ⟨#[100, 97, 116, 97]⟩] 9)) = W at *
  clear hn0
  have hL9 : rwords.length = 9 := rfl
  generalize rwords = L at *
  have HL := Lib.hid hs0; have HB := Lib.hid hb0
  have Hf : Hid (v = wrdF s (L.drop 0) 0) := Lib.hid hv
  clear hs0 hb0 hv
  go_wp2_with fail
  go_loopw [9] (fun i wr => ∃ k : Nat, k ≤ L.length ∧ i = .int .i64 k ∧ W = wr ∧ Hid (v = wrdF s (L.drop k) k)) (fun i _ => L.length - (intOf i).toNat)
  case atStart => exact ⟨0, by omega, rfl, rfl, Hf⟩
  case round =>
    obtain ⟨k, hk, rfl, rfl, hf⟩ := hrel
    by_cases hlt : k < L.length
    · obtain ⟨b, o, hA, -, hbs, c0⟩ := HL.out.str hlt
      have hd := hf.out
      rw [drop_get hlt, wrdF_cons] at hd
      clear hf Hf
      generalize L[k] = x at *
      cases hx : x == s with
      | true =>
        have hv2 : v = (k : Int) + 1 := by rw [hd, hx]; rfl
        clear hd
        go_wp2_with fail
        go_ret
        exact ⟨ret_int (by rw [hv2]), HB.out⟩
      | false =>
        have HD : Hid (v = wrdF s (L.drop (k + 1)) (k + 1)) := Lib.hid (by rw [hd, hx]; rfl)
        clear hd
        go_wp2_with fail
        go_roundw
        case rel => exact ⟨k + 1, by omega, by go_num, trivial, HD⟩
        case measure => simp [intOf]; omega
    · have hd := hf.out
      rw [drop_end hlt] at hd
      have hv2 : v = -1 := hd
      clear hd hf Hf
      subst hv2
      go_wp2_with fail
      go_ret
      exact ⟨rfl, HB.out⟩
end Go.Proofs.YtpeamehplhpcjaaGreatDoor
namespace Go.Proofs.YtpeamehplhpcjaaGreatDoor
def nB (k : Int) : Bool := decide (k ≠ 6)
def cB (k : Int) : Bool := decide (k ≠ 1 ∧ k ≠ 3 ∧ k ≠ 7)
def pB (k : Int) : Bool := decide (k = 2 ∨ k = 8)
def rleast (k : Int) : Int := 1 + (if nB k then 1 else 0) + (if cB k then 1 else 0)
def badR (k : Int) (nm : Bs) : Bool := if k = 1 then !isRefS nm else !name5 nm
def rp5 (m k n : Int) (nm : Bs) (ps : List Bs) : Hd × Int :=
  if ps.any (fun p => !name5 p) then (noHd, 2) else if dupS [] ps then (noHd, 6) else if 8 < ps.length then (noHd, 10) else if 1024 < n then (noHd, 3) else (⟨k, m, nm, ps, n⟩, 0)
def rp4 (m : Int) (l : List Bs) (k n : Int) (nm : Bs) : Hd × Int :=
  if nB k && badR k nm then (noHd, 2) else rp5 m k n nm (if pB k then (l.drop 2).take (l.length - 3) else [])
def rp3 (m : Int) (l : List Bs) (k n : Int) : Hd × Int :=
  if n < 0 then (noHd, 4) else rp4 m l k n (if nB k then l.getD 1 [] else [])
def badL (m : Int) (len : Int) (k : Int) : Bool := decide (k < 0 ∨ (m ≠ 0 ∧ k ≠ 8 ∧ k ≠ 9) ∨ len < rleast k ∨ (rleast k < len ∧ pB k = false))
def rp2 (m : Int) (l : List Bs) (k : Int) : Hd × Int :=
  if badL m l.length k then (noHd, 4) else rp3 m l k (if cB k then rdigits (l.getLastD []) else 0)
def rp1 (m : Int) (l : List Bs) : Hd × Int := if l.contains [] then (noHd, 4) else rp2 m l (rwordS (l.headD []))
def rmB (ws : List Bs) : Bool :=
  match ws with
  | a :: _ :: _ => decide (a = wExport ∨ a = wWeak)
  | _ => false
theorem rmB_mk (a b : Bs) (r : List Bs) : rmB (a :: b :: r) = decide (a = wExport ∨ a = wWeak) := rfl
theorem rmB_cases (ws : List Bs) : (rmB ws = false ∧ rmodeS ws = (0, ws)) ∨ ∃ a b r, ws = a :: b :: r ∧ rmB ws = true ∧ (a = wExport ∨ a = wWeak) ∧ rmodeS ws = (if a = wWeak then 2 else 1, b :: r) := by
  match ws with
  | [] => exact .inl ⟨rfl, rfl⟩
  | [a] => exact .inl ⟨rfl, rfl⟩
  | a :: b :: r =>
    by_cases h : a = wExport ∨ a = wWeak
    · exact .inr ⟨a, b, r, rfl, decide_eq_true h, h, by unfold rmodeS; exact if_pos h⟩
    · exact .inl ⟨decide_eq_false h, by unfold rmodeS; exact if_neg h⟩
theorem rparse_stages (s : Bs) (h : s ≠ []) : rparseH s = rp1 (rmodeS (splitS 32 s)).1 (rmodeS (splitS 32 s)).2 := by
  unfold rparseH
  rw [if_neg (by cases s <;> simp_all)]
  simp only
  generalize rmodeS (splitS 32 s) = X
  obtain ⟨m, l⟩ := X
  simp only
  unfold rp1
  split
  · rfl
  · generalize rwordS (l.headD []) = k
    unfold rp2 badL rleast
    have hb : (k < 0 ∨ m ≠ 0 ∧ k ≠ 8 ∧ k ≠ 9 ∨ l.length < 1 + (if decide (k ≠ 6) = true then 1 else 0) + (if decide (k ≠ 1 ∧ k ≠ 3 ∧ k ≠ 7) = true then 1 else 0) ∨ 1 + (if decide (k ≠ 6) = true then 1 else 0) + (if decide (k ≠ 1 ∧ k ≠ 3 ∧ k ≠ 7) = true then 1 else 0) < l.length ∧ decide (k = 2 ∨ k = 8) = false) ↔
        decide (k < 0 ∨ m ≠ 0 ∧ k ≠ 8 ∧ k ≠ 9 ∨ (l.length : Int) < 1 + (if nB k = true then 1 else 0) + (if cB k = true then 1 else 0) ∨ 1 + (if nB k = true then 1 else 0) + (if cB k = true then 1 else 0) < (l.length : Int) ∧ pB k = false) = true := by
      refine Iff.trans ?_ decide_eq_true_iff.symm
      unfold nB cB pB
      have e1 : ∀ (a b : Bool), ((l.length : Int) < 1 + (if a = true then 1 else 0) + (if b = true then 1 else 0)) ↔ (l.length < 1 + (if a = true then 1 else 0) + (if b = true then 1 else 0)) := by
        intro a b; cases a <;> cases b <;> simp only [Bool.false_eq_true, if_true, if_false] <;> omega
      have e2 : ∀ (a b : Bool), ((1 : Int) + (if a = true then 1 else 0) + (if b = true then 1 else 0) < (l.length : Int)) ↔ (1 + (if a = true then 1 else 0) + (if b = true then 1 else 0) < l.length) := by
        intro a b; cases a <;> cases b <;> simp only [Bool.false_eq_true, if_true, if_false] <;> omega
      rw [e1, e2]
    by_cases hB : (k < 0 ∨ m ≠ 0 ∧ k ≠ 8 ∧ k ≠ 9 ∨ l.length < 1 + (if decide (k ≠ 6) = true then 1 else 0) + (if decide (k ≠ 1 ∧ k ≠ 3 ∧ k ≠ 7) = true then 1 else 0) ∨ 1 + (if decide (k ≠ 6) = true then 1 else 0) + (if decide (k ≠ 1 ∧ k ≠ 3 ∧ k ≠ 7) = true then 1 else 0) < l.length ∧ decide (k = 2 ∨ k = 8) = false)
    · rw [if_pos hB, if_pos (hb.1 hB)]
    · rw [if_neg hB, if_neg (fun h => hB (hb.2 h))]
      unfold rp3
      rw [show cB k = decide (k ≠ 1 ∧ k ≠ 3 ∧ k ≠ 7) from rfl]
      generalize (if decide (k ≠ 1 ∧ k ≠ 3 ∧ k ≠ 7) = true then rdigits (l.getLastD []) else 0) = n
      by_cases hn : n < 0
      · rw [if_pos hn, if_pos hn]
      · rw [if_neg hn, if_neg hn]
        unfold rp4
        rw [show nB k = decide (k ≠ 6) from rfl, show pB k = decide (k = 2 ∨ k = 8) from rfl]
        generalize (if decide (k ≠ 6) = true then l.getD 1 [] else []) = nm
        unfold rerr rp5 badR
        simp only
        cases hp : decide (k = 2 ∨ k = 8) with
        | true =>
          simp only [if_true, Bool.true_and]
          generalize (l.drop 2).take (l.length - 3) = ps
          generalize (decide (k ≠ 6) && if k = 1 then !isRefS nm else !name5 nm) = c1
          generalize ps.any (fun p => !name5 p) = c2
          generalize dupS [] ps = c3
          cases c1 <;> cases c2 <;> cases c3 <;> simp <;> split <;> simp_all <;> split <;> simp_all
        | false =>
          simp only [Bool.false_eq_true, if_false, Bool.false_and]
          generalize (decide (k ≠ 6) && if k = 1 then !isRefS nm else !name5 nm) = c1
          have hd : dupS [] ([] : List Bs) = false := rfl
          simp only [List.any_nil, hd, List.length_nil, Bool.false_eq_true, if_false]
          cases c1 <;> simp <;> split <;> simp_all
theorem rwordS_rng (a : Bs) : rwordS a = -1 ∨ (1 ≤ rwordS a ∧ rwordS a ≤ 9) := by
  unfold rwordS
  split
  · rename_i i h
    have := (List.findIdx?_eq_some_iff_getElem.1 h).1
    have hl : rwords.length = 9 := rfl
    omega
  · exact .inl rfl
end Go.Proofs.YtpeamehplhpcjaaGreatDoor
