/- Rules: the library's numerals are the plain ones. Plain law. -/
import Derived.Test.YtjopmgoacncmgaaGreatDoorAwkS
import Derived.Test.YtjopmgoacncmgaaGreatDoorRfTrip
import Derived.Test.YtjopmgoacncmgaaGreatDoorRfPr
import Derived.Test.YtjopmgoacncmgaaGreatDoorRfStr
import Derived.Test.YtjopmgoacncmgaaGreatDoorRfOrd
import Derived.Lib.AtoiAll
import Derived.Lib.ItoaNum
set_option linter.unusedVariables false
set_option linter.unusedSimpArgs false
namespace Go.Proofs.YtjopmgoacncmgaaGreatDoor

theorem natDig_lib (f : Nat) : ∀ n, n < 10 ^ (f + 1) → natDig (f + 1) n = Lib.decDigits n := by
  induction f with
  | zero =>
    intro n hn
    have hn : n < 10 := by simpa using hn
    rw [natDig, if_pos hn, Lib.decDigits, dif_pos hn]
  | succ f ih =>
    intro n hn
    rw [natDig, Lib.decDigits]
    by_cases h : n < 10
    · rw [if_pos h, dif_pos h]
    · rw [if_neg h, dif_neg h, ih (n / 10) (by rw [Nat.pow_succ] at hn; omega)]
theorem itoa_lib (n : Int) (h0 : -9223372036854775808 ≤ n) (h1 : n ≤ 9223372036854775807) : Lib.itoa n = itoaS n := by
  unfold Lib.itoa itoaS
  have hb : n.natAbs < 10 ^ 20 := by omega
  rw [natDig_lib 19 _ hb]
  by_cases h : n < 0
  · rw [if_pos h, if_pos h]
  · rw [if_neg h, if_neg h]
    congr 1
    omega
theorem digB_iff (c : UInt8) : digB c = true ↔ (48 ≤ c.toNat ∧ c.toNat ≤ 57) := by
  unfold digB digI
  simp only [Bool.and_eq_true, decide_eq_true_eq]
  omega
theorem digVal_ge (l : Bs) : ∀ acc u, digVal acc l = some u → acc ≤ u := by
  induction l with
  | nil => intro acc u h; rw [digVal] at h; injection h with h; omega
  | cons c r ih =>
    intro acc u h
    rw [digVal] at h
    split at h
    · have := ih _ _ h; omega
    · cases h
theorem parse_dig (l : Bs) : ∀ acc u, acc < 18446744073709551616 → (Lib.parseUint10 acc l = .ok u ↔ digVal acc l = some u ∧ u < 18446744073709551616) := by
  induction l with
  | nil =>
    intro acc u ha
    rw [Lib.parseUint10, digVal]
    constructor
    · intro h; injection h with h; exact ⟨by rw [h], by omega⟩
    · intro h; have := h.1; injection this with h; rw [h]
  | cons c r ih =>
    intro acc u ha
    rw [Lib.parseUint10, digVal]
    by_cases hc : 48 ≤ c.toNat ∧ c.toNat ≤ 57
    · rw [if_pos hc, if_pos ((digB_iff c).2 hc)]
      have e : 10 * acc + (c.toNat - 48) = acc * 10 + (c.toNat - 48) := by omega
      rw [e]
      by_cases h1 : 1844674407370955162 ≤ acc
      · rw [if_pos h1]
        constructor
        · intro h; cases h
        · intro h; have := digVal_ge _ _ _ h.1; omega
      · rw [if_neg h1]
        by_cases h2 : 18446744073709551616 ≤ acc * 10 + (c.toNat - 48)
        · rw [if_pos h2]
          constructor
          · intro h; cases h
          · intro h; have := digVal_ge _ _ _ h.1; omega
        · rw [if_neg h2]
          exact ih _ _ (by omega)
    · rw [if_neg hc, if_neg (fun h => hc ((digB_iff c).1 h))]
      constructor
      · intro h; cases h
      · intro h; cases h.1
theorem itoa_head (v : Int) (c : UInt8) (r : Bs) (h : itoaS v = c :: r) : c = 45 ∨ digB c = true := by
  unfold itoaS at h
  split at h
  · injection h with h; exact .inl h.symm
  · exact .inr (natDig_dig 20 v.natAbs c (by rw [h]; exact List.mem_cons_self))
/-- strconv.Atoi, held against what the text of its number is. -/
theorem num_lib (s : Bs) : numS s = (match Lib.atoiAll s with | .ok v => if itoaS v = s then some v else none | _ => none) := by
  cases s with
  | nil => decide +kernel
  | cons c r =>
    have hneg : ((c :: r).headD 0 = 45) ↔ c.toNat = 45 := by
      show c = 45 ↔ _
      constructor
      · intro e; rw [e]; rfl
      · intro e; exact UInt8.toNat_inj.1 e
    by_cases h43 : c.toNat = 43
    · have hn : numS (c :: r) = none := numS_none (by have : c = 43 := UInt8.toNat_inj.1 h43; subst this; rfl) (by have : c = 43 := UInt8.toNat_inj.1 h43; subst this; rfl)
      rw [hn]
      split
      · rename_i v _
        rw [if_neg]
        intro e
        rcases itoa_head v c r e with h | h
        · rw [h] at h43; cases h43
        · have := (digB_iff c).1 h; omega
      · rfl
    · unfold numS Lib.atoiAll
      simp only [h43, false_or]
      by_cases h45 : c.toNat = 45
      · have h45' := hneg.2 h45
        rw [if_pos h45']
        simp only [h45', if_true, h45, List.drop_one, List.tail_cons, not_true, false_and, true_and, if_false]
        by_cases hr : r = []
        · subst hr
          have : c = 45 := UInt8.toNat_inj.1 h45
          subst this
          decide +kernel
        · unfold Lib.parseMag
          rw [if_neg hr]
          cases hp : Lib.parseUint10 0 r with
          | ok u =>
            have hd := (parse_dig r 0 u (by omega)).1 hp
            rw [hd.1]
            simp only
            by_cases hu : 9223372036854775808 < u
            · rw [if_pos hu, if_neg (by omega)]
            · rw [if_neg hu]
              simp only
              by_cases he : itoaS (-(u : Int)) = c :: r
              · rw [if_pos ⟨by omega, by omega, he⟩, if_pos he]
              · rw [if_neg (fun x => he x.2.2), if_neg he]
          | _ =>
            simp only
            cases hd : digVal 0 r with
            | none => rfl
            | some n =>
              simp only
              by_cases hb : n < 18446744073709551616
              · have := (parse_dig r 0 n (by omega)).2 ⟨hd, hb⟩; rw [hp] at this; cases this
              · rw [if_neg (by omega)]
      · have h45' : ¬ ((c :: r).headD 0 = 45) := fun e => h45 (hneg.1 e)
        rw [if_neg h45']
        simp only [h45', h45, if_false, not_false_eq_true, true_and, false_and]
        unfold Lib.parseMag
        rw [if_neg (by simp)]
        cases hp : Lib.parseUint10 0 (c :: r) with
        | ok u =>
          have hd := (parse_dig (c :: r) 0 u (by omega)).1 hp
          rw [hd.1]
          simp only
          by_cases hu : 9223372036854775808 ≤ u
          · rw [if_pos hu, if_neg (by omega)]
          · rw [if_neg hu]
            simp only
            by_cases he : itoaS (u : Int) = c :: r
            · rw [if_pos ⟨by omega, by omega, he⟩, if_pos he]
            · rw [if_neg (fun x => he x.2.2), if_neg he]
        | _ =>
          simp only
          cases hd : digVal 0 (c :: r) with
          | none => rfl
          | some n =>
            simp only
            by_cases hb : n < 18446744073709551616
            · have := (parse_dig (c :: r) 0 n (by omega)).2 ⟨hd, hb⟩; rw [hp] at this; cases this
            · rw [if_neg (by omega)]
end Go.Proofs.YtjopmgoacncmgaaGreatDoor
