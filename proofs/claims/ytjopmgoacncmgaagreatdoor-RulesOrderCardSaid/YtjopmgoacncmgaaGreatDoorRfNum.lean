/- Rules: the two ways of reading a number and an argument agree. Plain law. -/
import Derived.Test.YtjopmgoacncmgaaGreatDoorRfTok
set_option linter.unusedVariables false
set_option linter.unusedSimpArgs false
namespace Go.Proofs.YtjopmgoacncmgaaGreatDoor

def decN (n : Nat) (d : Bs) : Nat := d.foldl (fun n c => 10 * n + (c.toNat - 48)) n
theorem decN_nil (n : Nat) : decN n [] = n := rfl
theorem decN_cons (n : Nat) (c : UInt8) (r : Bs) : decN n (c :: r) = decN (10 * n + (c.toNat - 48)) r := by
  unfold decN
  rw [List.foldl_cons]
def sg (neg : Bool) (n : Nat) : Int := if neg then -(n : Int) else n
def sgB (neg : Bool) : Bs := if neg then [45] else []
theorem sg_rng (neg : Bool) (n : Nat) : (n : Int) = sg neg n ∨ (n : Int) = - sg neg n := by cases neg <;> simp [sg]
theorem allDig.tail {c : UInt8} {r : Bs} (h : allDig (c :: r)) : allDig r := fun x hx => h x (List.mem_cons_of_mem _ hx)
theorem allDig.head {c : UInt8} {r : Bs} (h : allDig (c :: r)) : 48 ≤ c.toNat ∧ c.toNat ≤ 57 := by
  have := h c List.mem_cons_self
  unfold digB digI at this
  simp at this
  omega
theorem digVal_all (d : Bs) (h : allDig d) (n : Nat) : digVal n d = some (decN n d) := by
  induction d generalizing n with
  | nil => rfl
  | cons c r ih =>
    rw [digVal, if_pos (h c List.mem_cons_self), decN_cons, ih h.tail]
theorem decV_N (d : Bs) (h : allDig d) (n : Nat) : decV n d = (decN n d : Nat) := by
  induction d generalizing n with
  | nil => rfl
  | cons c r ih =>
    rw [decV, decN_cons, ← ih h.tail]
    congr 1
    have := h.head
    omega
theorem decN_app (d : Bs) (c : UInt8) (n : Nat) : decN n (d ++ [c]) = 10 * decN n d + (c.toNat - 48) := by
  induction d generalizing n with
  | nil => rfl
  | cons a r ih => rw [List.cons_append, decN_cons, decN_cons, ih]
theorem decN_ge (d : Bs) (n : Nat) (h : 1 ≤ n) : 1 ≤ decN n d := by
  induction d generalizing n with
  | nil => exact h
  | cons a r ih => rw [decN_cons]; exact ih _ (by omega)
theorem decN_pos (d : Bs) (hd : allDig d) (h0 : d ≠ []) (h : d.headD 0 ≠ 48) : 1 ≤ decN 0 d := by
  cases d with
  | nil => exact absurd rfl h0
  | cons c r =>
    rw [decN_cons]
    refine decN_ge _ _ ?_
    have := hd.head
    have h2 : c.toNat ≠ 48 := by
      intro e
      exact h (by rw [List.headD_cons]; exact UInt8.toNat_inj.1 e)
    omega
theorem decN_lt (d : Bs) (hd : allDig d) : ∀ n, decN n d < (n + 1) * 10 ^ d.length := by
  induction d with
  | nil => intro n; simp [decN_nil]
  | cons c r ih =>
    intro n
    rw [decN_cons, List.length_cons, Nat.pow_succ]
    have h1 := ih hd.tail (10 * n + (c.toNat - 48))
    have := hd.head
    have h2 : (10 * n + (c.toNat - 48) + 1) * 10 ^ r.length ≤ (10 * (n + 1)) * 10 ^ r.length := Nat.mul_le_mul_right _ (by omega)
    have h3 : (n + 1) * (10 ^ r.length * 10) = (10 * (n + 1)) * 10 ^ r.length := by
      rw [Nat.mul_comm (10 ^ r.length) 10, ← Nat.mul_assoc, Nat.mul_comm (n + 1) 10]
    omega
theorem digit_back {c : UInt8} (h : 48 ≤ c.toNat ∧ c.toNat ≤ 57) : (48 + (c.toNat - 48)).toUInt8 = c := by
  have : 48 + (c.toNat - 48) = c.toNat := by omega
  rw [this]
  simp
theorem natDig_val (f : Nat) : ∀ (d : Bs) (c : UInt8), allDig (d ++ [c]) → (d = [] ∨ d.headD 0 ≠ 48) → d.length + 1 ≤ f → natDig f (decN 0 (d ++ [c])) = d ++ [c] := by
  induction f with
  | zero => intro d c _ _ h; omega
  | succ f ih =>
    intro d c ha hd hl
    have hc : 48 ≤ c.toNat ∧ c.toNat ≤ 57 := by
      have := ha c (by simp)
      unfold digB digI at this
      simp at this
      omega
    have had : allDig d := fun x hx => ha x (List.mem_append_left _ hx)
    rw [decN_app, natDig]
    rcases List.eq_nil_or_concat d with rfl | ⟨d', c', rfl⟩
    · have : 10 * decN 0 ([] : Bs) + (c.toNat - 48) = c.toNat - 48 := by simp [decN_nil]
      rw [this, if_pos (by omega), digit_back hc]
      rfl
    · rw [List.concat_eq_append] at *
      have hh := hd.resolve_left (by simp)
      have hp := decN_pos _ had (by simp) hh
      have hi := ih d' c' had (by
        rcases d' with _ | ⟨x, y⟩
        · exact .inl rfl
        · exact .inr hh) (by simp at hl; omega)
      generalize decN 0 (d' ++ [c']) = v at *
      rw [if_neg (by omega)]
      have h1 : (10 * v + (c.toNat - 48)) / 10 = v := by omega
      have h2 : (10 * v + (c.toNat - 48)) % 10 = c.toNat - 48 := by omega
      rw [h1, h2, hi, digit_back hc]
theorem natDig_len (f : Nat) : ∀ (k n : Nat), n < 10 ^ k → 1 ≤ k → (natDig f n).length ≤ k := by
  induction f with
  | zero => intro k n _ _; simp [natDig]
  | succ f ih =>
    intro k n h hk
    rw [natDig]
    split
    · simpa using hk
    · rename_i hn
      obtain ⟨k', rfl⟩ : ∃ j, k = j + 1 := ⟨k - 1, by omega⟩
      have hk' : 1 ≤ k' := by
        rcases Nat.eq_zero_or_pos k' with h0 | h0
        · subst h0; simp at h; omega
        · exact h0
      have := ih k' (n / 10) (by rw [Nat.pow_succ] at h; omega) hk'
      simp
      omega
theorem natDig_head (f : Nat) : ∀ n, 1 ≤ n → n < 10 ^ f → (natDig f n).headD 0 ≠ 48 ∧ natDig f n ≠ [] := by
  induction f with
  | zero => intro n h1 h2; simp at h2; omega
  | succ f ih =>
    intro n h1 h2
    rw [natDig]
    split
    · rename_i hn
      refine ⟨?_, by simp⟩
      rw [List.headD_cons]
      intro e
      have := congrArg UInt8.toNat e
      simp at this
      omega
    · rename_i hn
      have := ih (n / 10) (by omega) (by rw [Nat.pow_succ] at h2; omega)
      cases h : natDig f (n / 10) with
      | nil => exact absurd h this.2
      | cons a r =>
        rw [h] at this
        exact ⟨this.1, by simp⟩

/-- The number of a token: s is d or 45 :: d. -/
theorem numS_of (neg : Bool) (d : Bs) (hd : allDig d) (hne : d ≠ []) : numS (sgB neg ++ d) =
    if -9223372036854775808 ≤ sg neg (decN 0 d) ∧ sg neg (decN 0 d) ≤ 9223372036854775807 ∧ itoaS (sg neg (decN 0 d)) = sgB neg ++ d then some (sg neg (decN 0 d)) else none := by
  unfold numS
  cases neg
  · have h45 : ¬ ((sgB false ++ d).headD 0 = 45) := by
      cases d with
      | nil => exact absurd rfl hne
      | cons c r =>
        have := hd.head
        show ¬ (c = 45)
        intro e
        subst e
        simp at this
    simp only [if_neg h45]
    have : digVal 0 (sgB false ++ d) = some (decN 0 d) := digVal_all d hd 0
    rw [this]
    rfl
  · have h45 : (sgB true ++ d).headD 0 = 45 := rfl
    simp only [if_pos h45]
    have : digVal 0 ((sgB true ++ d).drop 1) = some (decN 0 d) := digVal_all d hd 0
    rw [this]
    rfl
theorem rnumS_of (neg : Bool) (d : Bs) (hd : allDig d) (hne : d ≠ []) : rnumS (sgB neg ++ d) =
    if 10 < d.length ∨ (d.headD 0 = 48 ∧ (1 < d.length ∨ neg = true)) then (0, false) else (sg neg (decN 0 d), true) := by
  have hv := decV_N d hd 0
  simp only [Int.natCast_zero] at hv
  unfold rnumS
  cases neg
  · have h45 : ((sgB false ++ d).headD 0 == 45) = false := by
      cases d with
      | nil => exact absurd rfl hne
      | cons c r =>
        have := hd.head
        show (c == 45) = false
        rw [beq_eq_false_iff_ne]
        intro e
        subst e
        simp at this
    simp only [h45, Bool.false_eq_true, if_false, Bool.or_false, Bool.or_eq_true, Bool.and_eq_true, decide_eq_true_eq, beq_iff_eq, or_false, Int.one_mul]
    have e : sgB false ++ d = d := rfl
    rw [e, hv]
    rfl
  · have h45 : ((sgB true ++ d).headD 0 == 45) = true := rfl
    simp only [h45, if_true, Bool.or_true, Bool.or_eq_true, Bool.and_eq_true, decide_eq_true_eq, beq_iff_eq, or_true, and_true]
    have e : (sgB true ++ d).drop 1 = d := rfl
    rw [e, hv]
    have : (-1 : Int) * (decN 0 d : Nat) = sg true (decN 0 d) := by unfold sg; rw [if_pos rfl]; omega
    rw [this]
theorem itoa_bad (neg : Bool) (d : Bs) (hz : d.headD 0 = 48 ∧ (1 < d.length ∨ neg = true)) (hlt : decN 0 d < 10 ^ 20) :
    itoaS (sg neg (decN 0 d)) ≠ sgB neg ++ d := by
  intro h
  unfold itoaS at h
  rcases Nat.eq_zero_or_pos (decN 0 d) with h0 | hp
  · rw [h0] at h
    cases neg
    · have h2 := congrArg List.length h
      simp [natDig, sg, sgB] at h2
      rcases hz.2 with h3 | h3
      · omega
      · cases h3
    · simp [natDig, sg, sgB] at h
  · have hh := natDig_head 20 _ hp hlt
    cases neg
    · simp only [sg, sgB, Bool.false_eq_true, if_false, List.nil_append, Int.natAbs_natCast] at h
      rw [if_neg (by omega)] at h
      rw [h] at hh
      exact hh.1 hz.1
    · simp only [sg, sgB, if_true, List.cons_append, List.nil_append, Int.natAbs_neg, Int.natAbs_natCast] at h
      rw [if_pos (by omega)] at h
      injection h with _ h
      rw [h] at hh
      exact hh.1 hz.1
theorem itoa_good (neg : Bool) (d : Bs) (hd : allDig d) (hne : d ≠ []) (hz : ¬ (d.headD 0 = 48 ∧ (1 < d.length ∨ neg = true))) (hl : d.length ≤ 20) :
    itoaS (sg neg (decN 0 d)) = sgB neg ++ d := by
  have hv : natDig 20 (decN 0 d) = d := by
    rcases List.eq_nil_or_concat d with rfl | ⟨d', c', rfl⟩
    · exact absurd rfl hne
    · rw [List.concat_eq_append] at *
      refine natDig_val 20 d' c' hd ?_ (by simp at hl; omega)
      rcases d' with _ | ⟨x, y⟩
      · exact .inl rfl
      · refine .inr fun e => hz ⟨e, .inl (by simp)⟩
  unfold itoaS
  cases neg
  · simp only [sg, sgB, Bool.false_eq_true, if_false, List.nil_append, Int.natAbs_natCast]
    rw [if_neg (by omega), hv]
  · have hp := decN_pos d hd hne (fun e => hz ⟨e, .inr rfl⟩)
    simp only [sg, sgB, if_true, List.cons_append, List.nil_append, Int.natAbs_neg, Int.natAbs_natCast]
    rw [if_pos (by omega), hv]
theorem num_eq (neg : Bool) (d : Bs) (hd : allDig d) (hne : d ≠ []) :
    ((rnumS (sgB neg ++ d)).2 = true ∧ numS (sgB neg ++ d) = some (rnumS (sgB neg ++ d)).1) ∨
    ((rnumS (sgB neg ++ d)).2 = false ∧ ∀ v, numS (sgB neg ++ d) = some v → v < -1000000000 ∨ 1000000000 < v) := by
  rw [rnumS_of neg d hd hne, numS_of neg d hd hne]
  have hlt := decN_lt d hd 0
  rw [Nat.zero_add, Nat.one_mul] at hlt
  have hsg := sg_rng neg (decN 0 d)
  by_cases hz : d.headD 0 = 48 ∧ (1 < d.length ∨ neg = true)
  · rw [if_pos (.inr hz)]
    refine .inr ⟨rfl, fun v hv => ?_⟩
    split at hv
    · rename_i hr
      exact absurd hr.2.2 (itoa_bad neg d hz (by omega))
    · cases hv
  · by_cases hl : 10 < d.length
    · rw [if_pos (.inl hl)]
      refine .inr ⟨rfl, fun v hv => ?_⟩
      split at hv
      · rename_i hr
        injection hv with hv
        subst hv
        have hit := hr.2.2
        have hbig : 1000000000 < decN 0 d := by
          refine Nat.lt_of_not_le fun hle => ?_
          have h10 := natDig_len 20 10 (decN 0 d) (by omega) (by omega)
          have h2 := congrArg List.length hit
          unfold itoaS at h2
          cases neg
          · simp only [sg, sgB, Bool.false_eq_true, if_false, List.nil_append, Int.natAbs_natCast] at h2
            rw [if_neg (by omega)] at h2
            omega
          · simp only [sg, sgB, if_true, List.cons_append, List.nil_append, Int.natAbs_neg, Int.natAbs_natCast, List.length_cons] at h2
            split at h2
            · simp at h2; omega
            · omega
        omega
      · cases hv
    · rw [if_neg (fun h => h.elim hl hz)]
      refine .inl ⟨rfl, ?_⟩
      have h10 : decN 0 d < 10 ^ 10 := Nat.lt_of_lt_of_le hlt (Nat.pow_le_pow_right (by omega) (by omega))
      rw [if_pos ⟨by omega, by omega, itoa_good neg d hd hne hz (by omega)⟩]

theorem lowI_not {c : UInt8} (h : lowB c = true) : uppB c = false ∧ digB c = false ∧ (c == 45) = false ∧ (c == 34) = false := by
  have : 97 ≤ c.toNat ∧ c.toNat ≤ 122 := by unfold lowB lowI at h; simp at h; omega
  refine ⟨by unfold uppB uppI; simp; omega, by unfold digB digI; simp; omega, ?_, ?_⟩ <;>
  · rw [beq_eq_false_iff_ne]; rintro rfl; simp at this
theorem uppI_not {c : UInt8} (h : uppB c = true) : lowB c = false ∧ digB c = false ∧ (c == 45) = false ∧ (c == 34) = false := by
  have : 65 ≤ c.toNat ∧ c.toNat ≤ 90 := by unfold uppB uppI at h; simp at h; omega
  refine ⟨by unfold lowB lowI; simp; omega, by unfold digB digI; simp; omega, ?_, ?_⟩ <;>
  · rw [beq_eq_false_iff_ne]; rintro rfl; simp at this
theorem numS_none {c : UInt8} {r : Bs} (h1 : (c == 45) = false) (h2 : digB c = false) : numS (c :: r) = none := by
  rw [beq_eq_false_iff_ne] at h1
  have e : ¬ ((c :: r).headD 0 = 45) := h1
  have e2 : digVal 0 (c :: r) = none := by rw [digVal, h2]; rfl
  unfold numS
  simp only [if_neg e, e2]
theorem formed_default : formedS default = false := by decide
theorem formed_num (v : Int) : formedS ⟨3, [], v⟩ = (decide (-1000000000 ≤ v) && decide (v ≤ 1000000000)) := by unfold formedS; simp
theorem arg_eq (s : Bs) (hv : VTok s) : formedS (argOf s) = ((rargOf (tkOf s)).2 && formedS (rargOf (tkOf s)).1) ∧ (formedS (argOf s) = true → argOf s = (rargOf (tkOf s)).1) := by
  cases s with
  | nil => exact absurd rfl hv.1
  | cons c r =>
    have hvn := hv.2
    rw [List.headD_cons] at hvn
    have e1 : tkOf (c :: r) = if lowB c || uppB c then ⟨119, c :: r⟩ else if digB c || c == 45 then ⟨110, c :: r⟩ else if c == 34 then ⟨116, ((c :: r).drop 1).take ((c :: r).length - 2)⟩ else ⟨115, c :: r⟩ := rfl
    have e2 : argOf (c :: r) = if c = 34 then ⟨2, ((c :: r).drop 1).take ((c :: r).length - 2), 0⟩ else if uppB c then ⟨1, c :: r, 0⟩ else match numS (c :: r) with | some n => ⟨3, [], n⟩ | none => default := rfl
    rw [e1, e2]
    by_cases hl : lowB c = true
    · have hn := lowI_not hl
      have h34 : ¬ (c = 34) := by have := hn.2.2.2; rw [beq_eq_false_iff_ne] at this; exact this
      rw [if_neg h34, if_neg (by rw [hn.1]; simp), if_pos (by rw [hl]; rfl), numS_none hn.2.2.1 hn.2.1]
      have hf : formedS ⟨1, c :: r, 0⟩ = false := by
        unfold formedS varS eachS
        have : uppI ((c.toNat : Nat) : Int) = false := hn.1
        simp [this]
      simp only [rargOf, if_true, Bool.true_and, hf, formed_default]
      exact ⟨trivial, fun h => nomatch h⟩
    · rw [Bool.not_eq_true] at hl
      by_cases hu : uppB c = true
      · have hn := uppI_not hu
        have h34 : ¬ (c = 34) := by have := hn.2.2.2; rw [beq_eq_false_iff_ne] at this; exact this
        rw [if_neg h34, if_pos hu, if_pos (by rw [hu]; simp)]
        simp only [rargOf, if_true, Bool.true_and]
        exact ⟨trivial, fun _ => trivial⟩
      · rw [Bool.not_eq_true] at hu
        have hlu : ¬ ((lowB c || uppB c) = true) := by rw [hl, hu]; simp
        have hu' : ¬ (uppB c = true) := by rw [hu]; simp
        simp only [if_neg hlu, if_neg hu']
        by_cases hd : (digB c || c == 45) = true
        · have h34 : ¬ (c = 34) := by rintro rfl; exact absurd hd (by decide)
          rw [if_neg h34, if_pos hd]
          have hnum : ((rnumS (c :: r)).2 = true ∧ numS (c :: r) = some (rnumS (c :: r)).1) ∨ ((rnumS (c :: r)).2 = false ∧ ∀ v, numS (c :: r) = some v → v < -1000000000 ∨ 1000000000 < v) := by
            rcases hvn hd with h | ⟨d, h0, h1, h2⟩
            · exact num_eq false (c :: r) h (by simp)
            · have := num_eq true d h2 h0
              rw [h1]
              exact this
          simp only [rargOf]
          rw [if_neg (by decide), if_neg (by decide)]
          simp only [if_true]
          rcases hnum with ⟨h1, h2⟩ | ⟨h1, h2⟩
          · rw [h2, h1]
            simp
          · rw [h1]
            cases h : numS (c :: r) with
            | none => simp [formed_default]
            | some v =>
              have := h2 v h
              have hf : formedS ⟨3, [], v⟩ = false := by rw [formed_num]; simp; omega
              simp [hf]
        · rw [Bool.not_eq_true, Bool.or_eq_false_iff] at hd
          have hd' : ¬ ((digB c || c == 45) = true) := by rw [hd.1, hd.2]; simp
          simp only [if_neg hd']
          by_cases hq : c = 34
          · have hq' : (c == 34) = true := by rw [hq]; rfl
            simp only [if_pos hq, if_pos hq']
            simp [rargOf]
          · have hq' : ¬ ((c == 34) = true) := by rw [beq_iff_eq]; exact hq
            simp only [if_neg hq, if_neg hq', numS_none hd.2 hd.1]
            simp [rargOf, formed_default]
end Go.Proofs.YtjopmgoacncmgaaGreatDoor
