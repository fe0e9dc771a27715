/- Query (package licitlaw54): a part of the proofs of its laws; see the law's own text, which comes last in 'order'. No conditions of its own. -/
import Derived.Lib.AtoiAll
import Derived.Lib.ItoaNum
import Derived.Lib.SplitLaws
import Derived.Lib.Join
import Derived.Lib.TrimByte
import Derived.Test.YtkjoaodoioicpaaGreatDoorWC02
import Derived.Test.YtkjoaodoioicpaaGreatDoorWC06
set_option linter.unusedVariables false
set_option linter.unusedSimpArgs false
namespace Go.Proofs.YtkjoaodoioicpaaGreatDoor
structure RTk where
  kind : Nat
  text : Bs
  deriving DecidableEq, Repr, Inhabited
def symR (s : Bs) : Nat :=
  if decide (2 ≤ s.length) && (s.take 2 == [58, 45] || s.take 2 == [33, 61] || s.take 2 == [60, 61]) then 2
  else if [40, 41, 44, 46, 61, 60].contains (s.headD 0) then 1 else 0
def rtok : Nat → Bs → List RTk → List RTk × Bool
  | 0, _, out => (out, true)
  | _ + 1, [], out => (out, true)
  | f + 1, c :: r, out =>
    if c == 32 then rtok f r out
    else if lowB c || uppB c then rtok f (r.drop (spanS varB r)) (out ++ [⟨119, c :: r.take (spanS varB r)⟩])
    else if digB c || (c == 45 && digB (r.headD 0)) then rtok f (r.drop (spanS digB r)) (out ++ [⟨110, c :: r.take (spanS digB r)⟩])
    else if c == 34 then (if spanS (fun c => c != 34) r = r.length then ([], false) else rtok f (r.drop (spanS (fun c => c != 34) r + 1)) (out ++ [⟨116, r.take (spanS (fun c => c != 34) r)⟩]))
    else if symR (c :: r) = 0 then ([], false) else rtok f ((c :: r).drop (symR (c :: r))) (out ++ [⟨115, (c :: r).take (symR (c :: r))⟩])
def rtokS (s : Bs) : List RTk × Bool := rtok (s.length + 1) s []
abbrev RSt := List RTk × Bool
def rnext (p : RSt) : RTk := p.1.headD ⟨0, []⟩
def ris (p : RSt) (k : Nat) (t : Bs) : Bool × RSt := if rnext p = ⟨k, t⟩ then (true, (p.1.drop 1, p.2)) else (false, p)
def decV (n : Int) : Bs → Int
  | [] => n
  | c :: r => decV (10 * n + ((c.toNat : Int) - 48)) r
def rnumS (s : Bs) : Int × Bool :=
  let neg := s.headD 0 == 45
  let d := if neg then s.drop 1 else s
  if decide (10 < d.length) || (d.headD 0 == 48 && (decide (1 < d.length) || neg)) then (0, false)
  else ((if neg then -1 else 1) * decV 0 d, true)
def rargOf (t : RTk) : Arg × Bool :=
  if t.kind = 119 then (⟨1, t.text, 0⟩, true) else if t.kind = 116 then (⟨2, t.text, 0⟩, true)
  else if t.kind = 110 then (⟨3, [], (rnumS t.text).1⟩, (rnumS t.text).2) else (default, true)
def rarg (p : RSt) : Arg × RSt :=
  let t := rnext p
  let o := rargOf t
  (o.1, ((if t.kind ≠ 0 then p.1.drop 1 else p.1), (p.2 || !o.2) || !formedS o.1))
def rmore : Nat → RSt → List Arg → List Arg × RSt
  | 0, p, out => (out, p)
  | f + 1, p, out => if !p.2 && (ris p 115 [44]).1 then (let a := rarg (ris p 115 [44]).2; rmore f a.2 (out ++ [a.1])) else (out, p)
def ratom (p : RSt) : Atm × RSt :=
  let t := rnext p
  if t.kind ≠ 119 || !predS t.text then (default, (p.1, true))
  else
    let q : RSt := (p.1.drop 1, p.2)
    let i := ris q 115 [40]
    if !i.1 then (⟨t.text, []⟩, q)
    else
      let a := rarg i.2
      let m := rmore (i.2.1.length + 1) a.2 [a.1]
      if m.2.2 then (⟨t.text, m.1⟩, m.2)
      else (⟨t.text, m.1⟩, ((ris m.2 115 [41]).2.1, !(ris m.2 115 [41]).1 || decide (6 < m.1.length)))
def rltl (p : RSt) : Ltl × RSt :=
  let n := ris p 119 sNot
  if n.1 then (let a := ratom n.2; (⟨true, [], a.1⟩, a.2))
  else if (rnext p).kind = 119 && predS (rnext p).text then (let a := ratom p; (⟨false, [], a.1⟩, a.2))
  else
    let a := rarg p
    let op := rnext a.2
    if a.2.2 || op.kind ≠ 115 || !opsL.contains op.text then (default, (a.2.1, true))
    else (let b := rarg (a.2.1.drop 1, a.2.2); (⟨false, op.text, ⟨[], [a.1, b.1]⟩⟩, b.2))
def rmoreL : Nat → RSt → List Ltl → List Ltl × RSt
  | 0, p, out => (out, p)
  | f + 1, p, out => if !p.2 && (ris p 115 [44]).1 then (let a := rltl (ris p 115 [44]).2; rmoreL f a.2 (out ++ [a.1])) else (out, p)
def rrule (p : RSt) : Rul × RSt :=
  let h := ratom p
  let t := ris h.2 115 [58, 45]
  let m : List Ltl × RSt := if !h.2.2 && t.1 then (let a := rltl t.2; rmoreL (t.2.1.length + 1) a.2 [a.1]) else ([], h.2)
  let r : Rul := ⟨h.1, m.1⟩
  if m.2.2 then (r, m.2)
  else
    let d := ris m.2 115 [46]
    (r, (d.2.1, (!d.1 || !d.2.1.isEmpty) || !ruleS r))
def rsplit (cur : Bs) : Bs → List Bs
  | [] => if cur.isEmpty then [] else [cur]
  | c :: r => if c == 10 then cur :: rsplit [] r else rsplit (cur ++ [c]) r
def commS : Bs → Bool
  | [] => true
  | c :: r => if c == 32 then commS r else c == 37
def rparseGo : List Bs → Nat → List Rul → List Rul × Int × Int
  | [], _, out => (out, 0, 0)
  | line :: r, i, out =>
    if commS line then rparseGo r (i + 1) out
    else
      let t := rtokS line
      let x := rrule (t.1, false)
      if !t.2 || x.2.2 then ([], (i : Int) + 1, 4)
      else if out.length = 64 then ([], (i : Int) + 1, 10)
      else rparseGo r (i + 1) (out ++ [x.1])
def rparseS (s : Bs) : List Rul × Int × Int := if 65536 < s.length then ([], 0, 10) else rparseGo (rsplit [] s) 0 []
end Go.Proofs.YtkjoaodoioicpaaGreatDoor
namespace Go.Proofs.YtkjoaodoioicpaaGreatDoor
def tkOf (s : Bs) : RTk :=
  if s.isEmpty then ⟨0, []⟩ else if lowB (s.headD 0) || uppB (s.headD 0) then ⟨119, s⟩ else if digB (s.headD 0) || s.headD 0 == 45 then ⟨110, s⟩
  else if s.headD 0 == 34 then ⟨116, (s.drop 1).take (s.length - 2)⟩ else ⟨115, s⟩
def allDig (d : Bs) : Prop := ∀ c ∈ d, digB c = true
def VTok (t : Bs) : Prop := t ≠ [] ∧ ((digB (t.headD 0) || t.headD 0 == 45) = true → allDig t ∨ ∃ d, d ≠ [] ∧ t = 45 :: d ∧ allDig d)
theorem dig_low {c : UInt8} (h : digB c = true) : (lowB c || uppB c) = false := by
  unfold digB digI at h; unfold lowB uppB lowI uppI
  simp at *; omega
theorem min_low {c : UInt8} (h : (c == 45) = true) : (lowB c || uppB c) = false := by
  rw [beq_iff_eq] at h; subst h; decide
theorem quo_low {c : UInt8} (h : (c == 34) = true) : (lowB c || uppB c) = false ∧ digB c = false ∧ (c == 45) = false := by
  rw [beq_iff_eq] at h; subst h; decide
theorem take_span (p : UInt8 → Bool) (r : Bs) : r.take (spanS p r) = r.takeWhile p := by
  unfold spanS
  induction r with
  | nil => rfl
  | cons a t ih =>
    rw [List.takeWhile_cons]
    split
    · simp [ih]
    · simp
theorem sym_tok : ∀ t ∈ syms, tkOf t = ⟨115, t⟩ ∧ t ≠ [] ∧ (digB (t.headD 0) || t.headD 0 == 45) = false := by decide
theorem trim_cons (r : Bs) : trimS (32 :: r) = trimS r := by unfold trimS; rw [List.dropWhile_cons]; rfl
theorem trim_else {c : UInt8} (h : (c == 32) = false) (r : Bs) : trimS (c :: r) = c :: r := by unfold trimS; rw [List.dropWhile_cons, h]; rfl
theorem trim_len (s : Bs) : (trimS s).length ≤ s.length := by
  unfold trimS
  induction s with
  | nil => simp
  | cons a t ih =>
    rw [List.dropWhile_cons]
    split
    · simp; omega
    · simp
end Go.Proofs.YtkjoaodoioicpaaGreatDoor
namespace Go.Proofs.YtkjoaodoioicpaaGreatDoor
def decN (n : Nat) (d : Bs) : Nat := d.foldl (fun n c => 10 * n + (c.toNat - 48)) n
theorem decN_nil (n : Nat) : decN n [] = n := rfl
theorem decN_cons (n : Nat) (c : UInt8) (r : Bs) : decN n (c :: r) = decN (10 * n + (c.toNat - 48)) r := by
  unfold decN
  rw [List.foldl_cons]
def sg (neg : Bool) (n : Nat) : Int := if neg then -(n : Int) else n
def sgB (neg : Bool) : Bs := if neg then [45] else []
theorem allDig.tail {c : UInt8} {r : Bs} (h : allDig (c :: r)) : allDig r := fun x hx => h x (List.mem_cons_of_mem _ hx)
theorem allDig.head {c : UInt8} {r : Bs} (h : allDig (c :: r)) : 48 ≤ c.toNat ∧ c.toNat ≤ 57 := by
  have := h c List.mem_cons_self
  unfold digB digI at this
  simp at this
  omega
theorem digVal_all (d : Bs) (h : allDig d) (n : Nat) : digVal n d = some (decN n d) := by
  induction d generalizing n with
  | nil => rfl
  | cons c r ih =>
    rw [digVal, if_pos (h c List.mem_cons_self), decN_cons, ih h.tail]
theorem decV_N (d : Bs) (h : allDig d) (n : Nat) : decV n d = (decN n d : Nat) := by
  induction d generalizing n with
  | nil => rfl
  | cons c r ih =>
    rw [decV, decN_cons, ← ih h.tail]
    congr 1
    have := h.head
    omega
theorem decN_app (d : Bs) (c : UInt8) (n : Nat) : decN n (d ++ [c]) = 10 * decN n d + (c.toNat - 48) := by
  induction d generalizing n with
  | nil => rfl
  | cons a r ih => rw [List.cons_append, decN_cons, decN_cons, ih]
theorem decN_lt (d : Bs) (hd : allDig d) : ∀ n, decN n d < (n + 1) * 10 ^ d.length := by
  induction d with
  | nil => intro n; simp [decN_nil]
  | cons c r ih =>
    intro n
    rw [decN_cons, List.length_cons, Nat.pow_succ]
    have h1 := ih hd.tail (10 * n + (c.toNat - 48))
    have := hd.head
    have h2 : (10 * n + (c.toNat - 48) + 1) * 10 ^ r.length ≤ (10 * (n + 1)) * 10 ^ r.length := Nat.mul_le_mul_right _ (by omega)
    have h3 : (n + 1) * (10 ^ r.length * 10) = (10 * (n + 1)) * 10 ^ r.length := by
      rw [Nat.mul_comm (10 ^ r.length) 10, ← Nat.mul_assoc, Nat.mul_comm (n + 1) 10]
    omega
theorem numS_of (neg : Bool) (d : Bs) (hd : allDig d) (hne : d ≠ []) : numS (sgB neg ++ d) =
    if -9223372036854775808 ≤ sg neg (decN 0 d) ∧ sg neg (decN 0 d) ≤ 9223372036854775807 ∧ itoaS (sg neg (decN 0 d)) = sgB neg ++ d then some (sg neg (decN 0 d)) else none := by
  unfold numS
  cases neg
  · have h45 : ¬ ((sgB false ++ d).headD 0 = 45) := by
      cases d with
      | nil => exact absurd rfl hne
      | cons c r =>
        have := hd.head
        show ¬ (c = 45)
        intro e
        subst e
        simp at this
    simp only [if_neg h45]
    have : digVal 0 (sgB false ++ d) = some (decN 0 d) := digVal_all d hd 0
    rw [this]
    rfl
  · have h45 : (sgB true ++ d).headD 0 = 45 := rfl
    simp only [if_pos h45]
    have : digVal 0 ((sgB true ++ d).drop 1) = some (decN 0 d) := digVal_all d hd 0
    rw [this]
    rfl
theorem rnumS_of (neg : Bool) (d : Bs) (hd : allDig d) (hne : d ≠ []) : rnumS (sgB neg ++ d) =
    if 10 < d.length ∨ (d.headD 0 = 48 ∧ (1 < d.length ∨ neg = true)) then (0, false) else (sg neg (decN 0 d), true) := by
  have hv := decV_N d hd 0
  simp only [Int.natCast_zero] at hv
  unfold rnumS
  cases neg
  · have h45 : ((sgB false ++ d).headD 0 == 45) = false := by
      cases d with
      | nil => exact absurd rfl hne
      | cons c r =>
        have := hd.head
        show (c == 45) = false
        rw [beq_eq_false_iff_ne]
        intro e
        subst e
        simp at this
    simp only [h45, Bool.false_eq_true, if_false, Bool.or_false, Bool.or_eq_true, Bool.and_eq_true, decide_eq_true_eq, beq_iff_eq, or_false, Int.one_mul]
    have e : sgB false ++ d = d := rfl
    rw [e, hv]
    rfl
  · have h45 : ((sgB true ++ d).headD 0 == 45) = true := rfl
    simp only [h45, if_true, Bool.or_true, Bool.or_eq_true, Bool.and_eq_true, decide_eq_true_eq, beq_iff_eq, or_true, and_true]
    have e : (sgB true ++ d).drop 1 = d := rfl
    rw [e, hv]
    have : (-1 : Int) * (decN 0 d : Nat) = sg true (decN 0 d) := by unfold sg; rw [if_pos rfl]; omega
    rw [this]
theorem uppI_not {c : UInt8} (h : uppB c = true) : lowB c = false ∧ digB c = false ∧ (c == 45) = false ∧ (c == 34) = false := by
  have : 65 ≤ c.toNat ∧ c.toNat ≤ 90 := by unfold uppB uppI at h; simp at h; omega
  refine ⟨by unfold lowB lowI; simp; omega, by unfold digB digI; simp; omega, ?_, ?_⟩ <;>
  · rw [beq_eq_false_iff_ne]; rintro rfl; simp at this
end Go.Proofs.YtkjoaodoioicpaaGreatDoor
namespace Go.Proofs.YtkjoaodoioicpaaGreatDoor
def RS (p : KSt) (q : RSt) : Prop := p.2 = false ∧ q.2 = false ∧ q.1 = p.1.map tkOf ∧ ∀ t ∈ p.1, VTok t
theorem RS.drop {p : KSt} {q : RSt} (h : RS p q) : RS (p.1.drop 1, p.2) (q.1.drop 1, q.2) :=
  ⟨h.1, h.2.1, by rw [h.2.2.1, List.map_drop], fun t ht => h.2.2.2 t (List.mem_of_mem_drop ht)⟩
theorem RS.next {p : KSt} {q : RSt} (h : RS p q) : rnext q = tkOf (peekS p) := by
  obtain ⟨l, b⟩ := p
  obtain ⟨m, c⟩ := q
  obtain ⟨_, _, h3, _⟩ := h
  simp only at h3
  subst h3
  cases l <;> rfl
theorem tk_sym {s t : Bs} (ht : tkOf t = ⟨115, t⟩) : (tkOf s = ⟨115, t⟩) ↔ s = t := by
  constructor
  · intro h
    unfold tkOf at h
    split at h
    · exact absurd (congrArg RTk.kind h) (by simp; try omega)
    · split at h
      · exact absurd (congrArg RTk.kind h) (by simp; try omega)
      · split at h
        · exact absurd (congrArg RTk.kind h) (by simp; try omega)
        · split at h
          · exact absurd (congrArg RTk.kind h) (by simp; try omega)
          · injection h
  · rintro rfl; exact ht
theorem sy (t : Bs) (h : t ∈ syms) : ∀ s, tkOf s = ⟨115, t⟩ ↔ s = t := fun _ => tk_sym (sym_tok t h).1
end Go.Proofs.YtkjoaodoioicpaaGreatDoor
namespace Go.Proofs.YtkjoaodoioicpaaGreatDoor
def Sp (s : Bs) (ts : List Bs) : Prop := ∀ (G : Nat) (out : List Bs), (trimS s).length < G → tokGo G (trimS s) out = (out ++ ts, true)
theorem Sp.nil : Sp [] [] := by
  intro G out h
  obtain ⟨g, rfl⟩ : ∃ k, G = k + 1 := ⟨G - 1, by omega⟩
  simp [trimS, tokGo]
theorem Sp.blank {s : Bs} {ts : List Bs} (h : Sp s ts) : Sp (32 :: s) ts := by
  intro G out hG
  rw [trim_cons] at hG ⊢
  exact h G out hG
theorem Sp.tok {t s : Bs} {ts : List Bs} (h : Sp s ts) (h0 : t ≠ []) (h32 : (t.headD 0 == 32) = false) (hl : lenS (t ++ s) = t.length) : Sp (t ++ s) (t :: ts) := by
  intro G out hG
  cases t with
  | nil => exact absurd rfl h0
  | cons c r =>
    rw [List.headD_cons] at h32
    rw [List.cons_append, trim_else h32] at hG ⊢
    rw [List.cons_append] at hl
    obtain ⟨g, rfl⟩ : ∃ k, G = k + 1 := ⟨G - 1, by omega⟩
    have hz : lenS (c :: (r ++ s)) ≠ 0 := by rw [hl]; simp
    rw [tokGo, if_neg (by simp), if_neg hz, hl]
    have e1 : (c :: (r ++ s)).drop (c :: r).length = s := by rw [← List.cons_append]; exact List.drop_left
    have e2 : (c :: (r ++ s)).take (c :: r).length = c :: r := by rw [← List.cons_append]; exact List.take_left
    rw [e1, e2]
    have := trim_len s
    rw [h g _ (by simp at hG; omega)]
    simp
theorem Sp.tokens {s : Bs} {ts : List Bs} (h : Sp s ts) : tokensS s = (ts, true) := by
  have := h (s.length + 1) [] (by have := trim_len s; omega)
  exact this
theorem lenS_cons (c : UInt8) (r : Bs) : lenS (c :: r) = (if lowB c || uppB c then 1 + spanS varB r
    else if digB c || (c == 45 && decide (1 < (c :: r).length) && digB (r.headD 0)) then 1 + spanS digB r
    else if c == 34 then (if 1 + spanS (fun c => c != 34) r = (c :: r).length then 0 else 1 + spanS (fun c => c != 34) r + 1)
    else symS syms (c :: r)) := rfl
theorem span_app (p : UInt8 → Bool) (r s : Bs) (hr : ∀ c ∈ r, p c = true) (hs : s = [] ∨ p (s.headD 0) = false) : spanS p (r ++ s) = r.length := by
  unfold spanS
  induction r with
  | nil =>
    rw [List.nil_append]
    cases s with
    | nil => rfl
    | cons a b =>
      have : p a = false := hs.resolve_left (by simp)
      rw [List.takeWhile_cons, this]; rfl
  | cons a t ih =>
    rw [List.cons_append, List.takeWhile_cons, hr a List.mem_cons_self]
    simp [ih (fun c hc => hr c (List.mem_cons_of_mem _ hc))]
def Stop (s : Bs) : Prop := s = [] ∨ (varB (s.headD 0) = false)
theorem dig_var {c : UInt8} (h : varB c = false) : digB c = false := by
  unfold varB varI at h; unfold digB; simp at h; simp [h]
theorem len_word {c : UInt8} {r s : Bs} (hc : (lowB c || uppB c) = true) (hr : ∀ x ∈ r, varB x = true) (hs : Stop s) : lenS ((c :: r) ++ s) = (c :: r).length := by
  rw [List.cons_append, lenS_cons, if_pos hc, span_app varB r s hr hs, List.length_cons, Nat.add_comm]
theorem len_num {c : UInt8} {r s : Bs} (hr : allDig r) (hc : digB c = true ∨ (c = 45 ∧ r ≠ [])) (hs : Stop s) : lenS ((c :: r) ++ s) = (c :: r).length := by
  have h1 : (lowB c || uppB c) = false := by
    rcases hc with h | h
    · exact dig_low h
    · exact min_low (by rw [h.1]; rfl)
  have h2 : (digB c || (c == 45 && decide (1 < (c :: (r ++ s)).length) && digB ((r ++ s).headD 0))) = true := by
    rcases hc with h | ⟨h, h'⟩
    · rw [h]; rfl
    · cases r with
      | nil => exact absurd rfl h'
      | cons a b => simp [h, hr a List.mem_cons_self]
  rw [List.cons_append, lenS_cons, if_neg (by rw [h1]; simp), if_pos h2, span_app digB r s hr (hs.imp id dig_var), List.length_cons, Nat.add_comm]
theorem len_text {t s : Bs} (ht : ∀ x ∈ t, (x != 34) = true) : lenS ((34 :: (t ++ [34])) ++ s) = (34 :: (t ++ [34])).length := by
  have e : (34 :: (t ++ [34])) ++ s = 34 :: (t ++ (34 :: s)) := by simp
  have hq := quo_low (c := 34) rfl
  rw [e, lenS_cons, if_neg (by rw [hq.1]; simp), if_neg (by rw [hq.2.1, hq.2.2]; simp), if_pos (show ((34 : UInt8) == 34) = true from rfl), span_app _ t (34 :: s) ht (.inr rfl)]
  rw [if_neg (by simp; omega)]
  simp
  omega
theorem len_sym {t s : Bs} (ht : t ∈ syms) (hs : t = [60] → (s.headD 0 == 61) = false) : lenS (t ++ s) = t.length := by
  simp only [syms, List.mem_cons, List.not_mem_nil, or_false] at ht
  rcases ht with rfl | rfl | rfl | rfl | rfl | rfl | rfl | rfl | rfl
  · rfl
  · rfl
  · rfl
  · rfl
  · rfl
  · rfl
  · rfl
  · cases s <;> rfl
  · have := hs rfl
    rw [List.cons_append, List.nil_append, lenS_cons]
    cases s with
    | nil => rfl
    | cons a b =>
      rw [List.headD_cons] at this
      have ha : ((61 : UInt8) == a) = false := by rw [beq_eq_false_iff_ne] at this ⊢; exact Ne.symm this
      rw [if_neg (by decide), if_neg (by simp; decide), if_neg (by decide)]
      simp [symS, syms, List.isPrefixOf, ha]
theorem pre_var {c : UInt8} (h : preB c = true) : varB c = true := by
  unfold preB preI at h; unfold varB varI
  simp at h ⊢
  rcases h with (h | h) | h <;> simp [h]
theorem eachS_cons {c : UInt8} {r : Bs} {f o : Int → Bool} (h : eachS (c :: r) f o = true) : f c.toNat = true ∧ (∀ x ∈ c :: r, o x.toNat = true) ∧ (c :: r).length ≤ 32 := by
  unfold eachS at h
  rw [Bool.and_eq_true, Bool.and_eq_true, Bool.and_eq_true, List.all_eq_true] at h
  exact ⟨h.1.2, h.2, by simpa using h.1.1.2⟩
theorem eachS_ne {s : Bs} {f o : Int → Bool} (h : eachS s f o = true) : s ≠ [] := by
  rintro rfl
  unfold eachS at h
  simp at h
theorem len_pred {s t : Bs} (h : predS s = true) (ht : Stop t) : lenS (s ++ t) = s.length ∧ s ≠ [] ∧ (s.headD 0 == 32) = false := by
  unfold predS at h
  rw [Bool.and_eq_true] at h
  cases s with
  | nil => exact absurd rfl (eachS_ne h.2)
  | cons c r =>
    have := eachS_cons h.2
    have hl : lowB c = true := this.1
    refine ⟨len_word (by rw [hl]; rfl) (fun x hx => pre_var (this.2.1 x (List.mem_cons_of_mem _ hx))) ht, by simp, ?_⟩
    rw [List.headD_cons, beq_eq_false_iff_ne]
    rintro rfl
    exact absurd hl (by decide)
theorem natDig_dig (f n : Nat) : allDig (natDig f n) := by
  induction f generalizing n with
  | zero => intro c hc; cases hc
  | succ f ih =>
    rw [natDig]
    have hd : ∀ k, k < 10 → digB (48 + k).toUInt8 = true := by decide
    split
    · rename_i h
      intro c hc
      rw [List.mem_singleton.1 hc]
      exact hd n h
    · intro c hc
      rcases List.mem_append.1 hc with h1 | h1
      · exact ih _ c h1
      · rw [List.mem_singleton.1 h1]; exact hd _ (Nat.mod_lt _ (by omega))
theorem natDig_ne (f n : Nat) : natDig (f + 1) n ≠ [] := by rw [natDig]; split <;> simp
theorem natDig_back (f : Nat) : ∀ n, n < 10 ^ f → decN 0 (natDig f n) = n := by
  induction f with
  | zero => intro n h; simp at h; subst h; rfl
  | succ f ih =>
    intro n h
    have hd : ∀ k, k < 10 → (48 + k).toUInt8.toNat - 48 = k := by decide
    rw [natDig]
    split
    · rename_i hn
      rw [decN_cons, decN_nil, hd n hn]; omega
    · rw [decN_app, ih (n / 10) (by rw [Nat.pow_succ] at h; omega), hd _ (Nat.mod_lt _ (by omega))]
      omega
theorem itoa_sg (v : Int) (h : v.natAbs < 10 ^ 20) : ∃ neg d, itoaS v = sgB neg ++ d ∧ allDig d ∧ d ≠ [] ∧ sg neg (decN 0 d) = v := by
  unfold itoaS
  by_cases hv : v < 0
  · refine ⟨true, natDig 20 v.natAbs, by rw [if_pos hv]; rfl, natDig_dig _ _, natDig_ne _ _, ?_⟩
    rw [natDig_back 20 _ h]
    unfold sg
    rw [if_pos rfl]
    omega
  · refine ⟨false, natDig 20 v.natAbs, by rw [if_neg hv]; rfl, natDig_dig _ _, natDig_ne _ _, ?_⟩
    rw [natDig_back 20 _ h]
    unfold sg
    rw [if_neg (by simp)]
    omega
theorem arg_tok {a : Arg} (h : formedS a = true) : argOf (prArg a) = a ∧ prArg a ≠ [] ∧ ((prArg a).headD 0 == 32) = false ∧ (∀ s, Stop s → lenS (prArg a ++ s) = (prArg a).length) ∧ (∀ t ∈ opsL, prArg a ≠ t) ∧ prArg a ≠ sNot ∧ (lowB ((prArg a).headD 0) = false) ∧ ∀ c ∈ prArg a, c ≠ 10 := by
  obtain ⟨k, t, n⟩ := a
  unfold formedS at h
  simp only at h
  split at h
  · rename_i hk
    subst hk
    rw [Bool.and_eq_true, beq_iff_eq] at h
    obtain ⟨rfl, h⟩ := h
    have hp : prArg ⟨1, t, 0⟩ = t := rfl
    rw [hp]
    unfold varS at h
    cases t with
    | nil => exact absurd rfl (eachS_ne h)
    | cons c r =>
      have he := eachS_cons h
      have hu : uppB c = true := he.1
      have hn := uppI_not hu
      have h34 : ¬ (c = 34) := by have := hn.2.2.2; rw [beq_eq_false_iff_ne] at this; exact this
      have e2 : argOf (c :: r) = if c = 34 then ⟨2, ((c :: r).drop 1).take ((c :: r).length - 2), 0⟩ else if uppB c then ⟨1, c :: r, 0⟩ else match numS (c :: r) with | some n => ⟨3, [], n⟩ | none => default := rfl
      refine ⟨by rw [e2, if_neg h34, if_pos hu], by simp, ?_, fun s hs => len_word (by rw [hu]; simp) (fun x hx => he.2.1 x (List.mem_cons_of_mem _ hx)) hs, ?_, ?_, hn.1, ?_⟩
      · rw [List.headD_cons, beq_eq_false_iff_ne]; rintro rfl; exact absurd hu (by decide)
      · intro t ht e
        have key : ∀ t ∈ opsL, uppB (t.headD 0) = false := by decide
        have := key t ht
        rw [← e, List.headD_cons, hu] at this
        cases this
      · intro e
        have : uppB (sNot.headD 0) = false := by decide
        rw [← e, List.headD_cons, hu] at this
        cases this
      · rintro x hx rfl
        exact absurd (he.2.1 _ hx) (by decide)
  · split at h
    · rename_i hk
      subst hk
      rw [Bool.and_eq_true, beq_iff_eq] at h
      obtain ⟨rfl, h⟩ := h
      have hp : prArg ⟨2, t, 0⟩ = 34 :: (t ++ [34]) := rfl
      rw [hp]
      unfold conS at h
      rw [Bool.and_eq_true, List.all_eq_true] at h
      have hc : ∀ x ∈ t, (x != 34) = true := by
        intro x hx
        have := h.2 x hx
        rw [bne_iff_ne]
        rintro rfl
        exact absurd this (by decide)
      refine ⟨?_, by simp, rfl, fun s hs => len_text hc, ?_, (by intro e; injection e with e _; exact absurd e (by decide)), rfl, ?_⟩
      · have : argOf (34 :: (t ++ [34])) = ⟨2, ((34 :: (t ++ [34])).drop 1).take ((34 :: (t ++ [34])).length - 2), 0⟩ := rfl
        rw [this]
        congr 1
        simp
      · intro s hs e
        have key : ∀ t ∈ opsL, (t.headD 0 == 34) = false := by decide
        have := key s hs
        rw [← e] at this
        cases this
      · intro x hx
        rcases List.mem_cons.1 hx with rfl | hx
        · decide
        · rcases List.mem_append.1 hx with hx | hx
          · rintro rfl; exact absurd (h.2 _ hx) (by decide)
          · rw [List.mem_singleton.1 hx]; decide
    · split at h
      · rename_i hk
        subst hk
        rw [Bool.and_eq_true, Bool.and_eq_true, decide_eq_true_eq, decide_eq_true_eq] at h
        have ht : t = [] := by cases t with | nil => rfl | cons a b => exact absurd h.1.1 (by simp)
        subst ht
        have hp : prArg ⟨3, [], n⟩ = itoaS n := rfl
        rw [hp]
        have hab : n.natAbs < 10 ^ 20 := by omega
        obtain ⟨neg, d, hi, hd, hne, hsg⟩ := itoa_sg n hab
        have hnum : numS (itoaS n) = some n := by
          rw [hi, numS_of neg d hd hne, hsg, if_pos ⟨by omega, by omega, hi⟩]
        have hcons : ∃ c r, itoaS n = c :: r ∧ allDig r ∧ (digB c = true ∨ (c = 45 ∧ r ≠ [])) := by
          rw [hi]
          cases neg
          · cases d with
            | nil => exact absurd rfl hne
            | cons c r => exact ⟨c, r, rfl, hd.tail, .inl (hd c List.mem_cons_self)⟩
          · exact ⟨45, d, rfl, hd, .inr ⟨rfl, hne⟩⟩
        obtain ⟨c, r, hcr, hr, hc⟩ := hcons
        rw [hcr] at hnum ⊢
        have hlu : (lowB c || uppB c) = false := by
          rcases hc with h | h
          · exact dig_low h
          · exact min_low (by rw [h.1]; rfl)
        rw [Bool.or_eq_false_iff] at hlu
        have h34 : ¬ (c = 34) := by
          rintro rfl
          rcases hc with h | h
          · exact absurd h (by decide)
          · exact absurd h.1 (by decide)
        have h45 : c = 45 ∨ digB c = true := hc.elim .inr fun h => .inl h.1
        have e2 : argOf (c :: r) = if c = 34 then ⟨2, ((c :: r).drop 1).take ((c :: r).length - 2), 0⟩ else if uppB c then ⟨1, c :: r, 0⟩ else match numS (c :: r) with | some n => ⟨3, [], n⟩ | none => default := rfl
        refine ⟨by rw [e2, if_neg h34, if_neg (by rw [hlu.2]; simp), hnum], by simp, ?_, fun s hs => len_num hr hc hs, ?_, ?_, hlu.1, ?_⟩
        · rw [List.headD_cons, beq_eq_false_iff_ne]; rintro rfl; rcases h45 with h | h; exact absurd h (by decide); exact absurd h (by decide)
        · intro t ht e
          have key : ∀ t ∈ opsL, (t.headD 0 == 45) = false ∧ digB (t.headD 0) = false := by decide
          have := key t ht
          rw [← e, List.headD_cons] at this
          rcases h45 with h | h
          · rw [h] at this; exact absurd this.1 (by decide)
          · rw [h] at this; cases this.2
        · intro e
          have : lowB (sNot.headD 0) = true := by decide
          rw [← e, List.headD_cons, hlu.1] at this
          cases this
        · intro x hx
          rcases List.mem_cons.1 hx with rfl | hx
          · rintro rfl; rcases h45 with h | h; exact absurd h (by decide); exact absurd h (by decide)
          · rintro rfl; exact absurd (hr _ hx) (by decide)
      · cases h
def tkArgs : List Arg → List Bs
  | [] => []
  | [a] => [prArg a]
  | a :: b :: r => prArg a :: [44] :: tkArgs (b :: r)
def tkAtom (a : Atm) : List Bs := if a.args.length = 0 then [a.name] else a.name :: [40] :: (tkArgs a.args ++ [[41]])
theorem stop_of (c : UInt8) (r : Bs) (h : varB c = false) : Stop (c :: r) := .inr h
theorem sym_spell {t s : Bs} {ts : List Bs} (h : Sp s ts) (ht : t ∈ syms) (hs : t = [60] → (s.headD 0 == 61) = false) : Sp (t ++ s) (t :: ts) := by
  have key : ∀ t ∈ syms, t ≠ [] ∧ (t.headD 0 == 32) = false := by decide
  exact h.tok (key t ht).1 (key t ht).2 (len_sym ht hs)
theorem join_spell (l : List Arg) (hl : ∀ a ∈ l, formedS a = true) {s : Bs} {ts : List Bs} (h : Sp s ts) (hs : Stop s) (hne : l ≠ []) : Sp (joinS (l.map prArg) ++ s) (tkArgs l ++ ts) := by
  induction l with
  | nil => exact absurd rfl hne
  | cons a r ih =>
    have ha := arg_tok (hl a List.mem_cons_self)
    cases r with
    | nil =>
      simp only [List.map_cons, List.map_nil, joinS, tkArgs]
      exact h.tok ha.2.1 ha.2.2.1 (ha.2.2.2.1 s hs)
    | cons b t =>
      have := ih (fun x hx => hl x (List.mem_cons_of_mem _ hx)) (by simp)
      simp only [List.map_cons] at this
      simp only [List.map_cons, joinS, tkArgs, List.cons_append]
      have e : prArg a ++ [44, 32] ++ joinS (prArg b :: t.map prArg) ++ s = prArg a ++ ([44] ++ (32 :: (joinS (prArg b :: t.map prArg) ++ s))) := by simp
      rw [e]
      refine Sp.tok (sym_spell this.blank (by decide) (by simp)) ha.2.1 ha.2.2.1 (ha.2.2.2.1 _ (stop_of _ _ (by decide)))
theorem atom_spell {a : Atm} (ha : atomS a = true) {s : Bs} {ts : List Bs} (h : Sp s ts) (hs : Stop s) : Sp (prAtom a ++ s) (tkAtom a ++ ts) := by
  unfold atomS argsS at ha
  rw [Bool.and_eq_true, Bool.and_eq_true, List.all_eq_true] at ha
  unfold prAtom tkAtom
  by_cases h0 : a.args.length = 0
  · rw [if_pos h0, if_pos h0]
    have := len_pred ha.1.1 hs
    exact h.tok this.2.1 this.2.2 this.1
  · rw [if_neg h0, if_neg h0]
    have hj := join_spell a.args ha.2 (sym_spell (t := [41]) h (by decide) (by simp)) (stop_of _ _ (by decide)) (by intro e; rw [e] at h0; exact h0 rfl)
    have h1 := sym_spell (t := [40]) hj (by decide) (by simp)
    have := len_pred (t := [40] ++ (joinS (a.args.map prArg) ++ ([41] ++ s))) ha.1.1 (stop_of _ _ (by decide))
    have h2 := h1.tok this.2.1 this.2.2 this.1
    have e1 : a.name ++ [40] ++ joinS (a.args.map prArg) ++ [41] ++ s = a.name ++ ([40] ++ (joinS (a.args.map prArg) ++ ([41] ++ s))) := by simp
    have e2 : a.name :: [40] :: (tkArgs a.args ++ [[41]]) ++ ts = a.name :: [40] :: (tkArgs a.args ++ ([41] :: ts)) := by simp
    rw [e1, e2]
    exact h2
theorem arg_read {a : Arg} (h : formedS a = true) (rest : List Bs) : argP (prArg a :: rest, false) = (a, (rest, false)) := by
  have ha := arg_tok h
  have hne : (prArg a).isEmpty = false := by cases hp : prArg a with | nil => exact absurd hp ha.2.1 | cons x y => rfl
  have e : nextS (prArg a :: rest, false) = (prArg a, (rest, false)) := by unfold nextS peekS; simp [hne]
  unfold argP
  rw [e]
  simp only [ha.1, h]
  rfl
theorem take_hit (t : Bs) (rest : List Bs) (h : t.isEmpty = false) : takeS (t :: rest, false) t = (true, (rest, false)) := by
  have : peekS (t :: rest, false) = t := rfl
  unfold takeS
  rw [this, if_neg (by simp)]
  unfold nextS
  rw [this, h]
  rfl
theorem take_miss (p : KSt) (t : Bs) (h : peekS p ≠ t) : takeS p t = (false, p) := by
  unfold takeS; rw [if_pos (by simpa using h)]
theorem more_read (l : List Arg) (hl : ∀ a ∈ l, formedS a = true) (rest : List Bs) (hr : peekS (rest, false) ≠ [44]) : ∀ (f : Nat) (out : List Arg), l.length < f →
    moreP f ((l.flatMap fun a => [[44], prArg a]) ++ rest, false) out = (out ++ l, (rest, false)) := by
  induction l with
  | nil =>
    intro f out hf
    obtain ⟨g, rfl⟩ : ∃ k, f = k + 1 := ⟨f - 1, by omega⟩
    simp only [List.flatMap_nil, List.nil_append, List.append_nil]
    rw [moreP, take_miss _ _ hr]
    rfl
  | cons a r ih =>
    intro f out hf
    obtain ⟨g, rfl⟩ : ∃ k, f = k + 1 := ⟨f - 1, by omega⟩
    rw [List.flatMap_cons]
    simp only [List.cons_append, List.nil_append]
    rw [moreP, take_hit _ _ rfl]
    simp only [Bool.not_false, Bool.true_and, if_true]
    rw [arg_read (hl a List.mem_cons_self)]
    simp only
    rw [ih (fun x hx => hl x (List.mem_cons_of_mem _ hx)) g _ (by simp at hf; omega)]
    simp
theorem tkArgs_cons (a : Arg) (r : List Arg) : tkArgs (a :: r) = prArg a :: (r.flatMap fun a => [[44], prArg a]) := by
  induction r generalizing a with
  | nil => rfl
  | cons b t ih => rw [tkArgs, ih b, List.flatMap_cons]; rfl
theorem flat_len {α : Type} (f : α → Bs) (r : List α) : r.length ≤ (r.flatMap fun a => [[44], f a]).length := by
  induction r with
  | nil => simp
  | cons a t ih => rw [List.flatMap_cons, List.length_append, List.length_cons]; simp only [List.length_cons, List.length_nil]; omega
theorem atom_read {a : Atm} (ha : atomS a = true) (rest : List Bs) (hr : peekS (rest, false) ≠ [40]) : atomP (tkAtom a ++ rest, false) = (a, (rest, false)) := by
  have ha' := ha
  unfold atomS argsS at ha
  rw [Bool.and_eq_true, Bool.and_eq_true, List.all_eq_true] at ha
  have hne := (len_pred (t := []) ha.1.1 (.inl rfl)).2.1
  have hem : a.name.isEmpty = false := by cases hp : a.name with | nil => exact absurd hp hne | cons x y => rfl
  have hnx : ∀ l, nextS (a.name :: l, false) = (a.name, (l, false)) := fun l => by unfold nextS peekS; simp [hem]
  unfold tkAtom
  by_cases h0 : a.args.length = 0
  · have hnil : a.args = [] := List.eq_nil_of_length_eq_zero h0
    have hae : (⟨a.name, []⟩ : Atm) = a := by cases a; simp only at hnil; subst hnil; rfl
    rw [if_pos h0, List.cons_append, List.nil_append]
    unfold atomP
    rw [hnx]
    simp only
    rw [take_miss _ _ hr]
    simp only [Bool.false_eq_true, if_false, hae, ha']
    rfl
  · rw [if_neg h0]
    cases hx : a.args with
    | nil => rw [hx] at h0; exact absurd rfl h0
    | cons x r =>
      have hae : (⟨a.name, x :: r⟩ : Atm) = a := by cases a; simp only at hx; subst hx; rfl
      rw [hx] at ha
      have hfx := ha.2 x List.mem_cons_self
      have hfr : ∀ y ∈ r, formedS y = true := fun y hy => ha.2 y (List.mem_cons_of_mem _ hy)
      rw [tkArgs_cons]
      have e : a.name :: [40] :: ((prArg x :: (r.flatMap fun a => [[44], prArg a])) ++ [[41]]) ++ rest = a.name :: [40] :: (prArg x :: ((r.flatMap fun a => [[44], prArg a]) ++ ([41] :: rest))) := by simp
      rw [e]
      unfold atomP
      rw [hnx]
      simp only
      rw [take_hit _ _ rfl]
      simp only [if_true]
      rw [arg_read hfx]
      simp only
      have hlen : r.length < (prArg x :: ((r.flatMap fun a => [[44], prArg a]) ++ ([41] :: rest))).length + 1 := by
        have := flat_len (fun a => prArg a) r
        simp only [List.length_cons, List.length_append]
        omega
      rw [more_read r hfr ([41] :: rest) (by show ([41] : Bs) ≠ [44]; decide) _ _ hlen]
      simp only [Bool.false_eq_true, if_false]
      rw [take_hit _ _ rfl]
      have hla : [x] ++ r = x :: r := rfl
      rw [hla, hae]
      simp [ha']
theorem trip_atom (a : Atm) (h : (printAtomS a).2 = 0) (hlen : (printAtomS a).1.length ≤ 4096) : parseAtomS (printAtomS a).1 = (a, 0) := by
  unfold printAtomS at h hlen ⊢
  cases ha : atomS a
  · rw [ha] at h; cases h
  · rw [ha] at hlen
    simp only [Bool.not_true, Bool.false_eq_true, if_false] at hlen ⊢
    have hs := atom_spell ha Sp.nil (.inl rfl)
    rw [List.append_nil, List.append_nil] at hs
    have hr := atom_read ha [] (by decide)
    rw [List.append_nil] at hr
    unfold parseAtomS
    rw [hs.tokens]
    simp only
    rw [hr]
    have : ¬ (4096 < (prAtom a).length) := by omega
    simp [this]
end Go.Proofs.YtkjoaodoioicpaaGreatDoor
namespace Go.Proofs.YtkjoaodoioicpaaGreatDoor
theorem natDig_lenP (f : Nat) : ∀ n, (natDig f n).length ≤ f := by
  induction f with
  | zero => intro n; simp [natDig]
  | succ f ih =>
    intro n
    unfold natDig
    split
    · simp
    · have := ih (n / 10); simp; omega
theorem itoa_len (n : Int) : (itoaS n).length ≤ 21 := by
  unfold itoaS
  split
  · have := natDig_lenP 20 n.natAbs; simp; omega
  · have := natDig_lenP 20 n.natAbs; omega
theorem prArg_len {a : Arg} (h : formedS a = true) : (prArg a).length ≤ 130 := by
  unfold formedS at h
  unfold prArg
  split at h
  · rename_i hk
    rw [hk]
    simp only [varS, eachS, Bool.and_eq_true, decide_eq_true_eq] at h
    rw [if_neg (by decide), if_neg (by decide)]
    omega
  · split at h
    · rename_i _ hk
      rw [hk]
      simp only [conS, Bool.and_eq_true, decide_eq_true_eq] at h
      rw [if_neg (by decide), if_pos rfl]
      simp
      omega
    · split at h
      · rename_i _ _ hk
        rw [if_pos hk]
        have := itoa_len a.num
        omega
      · cases h
theorem join_len (l : List Arg) (h : ∀ a ∈ l, formedS a = true) : (joinS (l.map prArg)).length ≤ 132 * l.length := by
  induction l with
  | nil => simp [joinS]
  | cons a r ih =>
    have h1 := prArg_len (h a List.mem_cons_self)
    have h2 := ih (fun x hx => h x (List.mem_cons_of_mem _ hx))
    cases r with
    | nil => simp [joinS]; omega
    | cons b t =>
      simp only [List.map_cons, joinS] at h2 ⊢
      simp only [List.length_append, List.length_cons, List.length_nil] at h2 ⊢
      omega
theorem atomS_parts {a : Atm} (h : atomS a = true) : a.name.length ≤ 32 ∧ a.args.length ≤ 6 ∧ ∀ x ∈ a.args, formedS x = true := by
  unfold atomS at h
  rw [Bool.and_eq_true, Bool.and_eq_true, decide_eq_true_eq] at h
  obtain ⟨⟨h1, h2⟩, h3⟩ := h
  unfold predS eachS at h1
  simp only [Bool.and_eq_true, decide_eq_true_eq] at h1
  exact ⟨h1.2.1.1.2, h2, List.all_eq_true.1 h3⟩
theorem prAtom_len {a : Atm} (h : atomS a = true) : (prAtom a).length ≤ 830 := by
  obtain ⟨h1, h2, h3⟩ := atomS_parts h
  unfold prAtom
  split
  · omega
  · have := join_len a.args h3
    simp only [List.length_append, List.length_cons, List.length_nil]
    omega
end Go.Proofs.YtkjoaodoioicpaaGreatDoor
namespace Go.Proofs.YtkjoaodoioicpaaGreatDoor
theorem natDig_lib (f : Nat) : ∀ n, n < 10 ^ (f + 1) → natDig (f + 1) n = Lib.decDigits n := by
  induction f with
  | zero =>
    intro n hn
    have hn : n < 10 := by simpa using hn
    rw [natDig, if_pos hn, Lib.decDigits, dif_pos hn]
  | succ f ih =>
    intro n hn
    rw [natDig, Lib.decDigits]
    by_cases h : n < 10
    · rw [if_pos h, dif_pos h]
    · rw [if_neg h, dif_neg h, ih (n / 10) (by rw [Nat.pow_succ] at hn; omega)]
theorem itoa_lib (n : Int) (h0 : -9223372036854775808 ≤ n) (h1 : n ≤ 9223372036854775807) : Lib.itoa n = itoaS n := by
  unfold Lib.itoa itoaS
  have hb : n.natAbs < 10 ^ 20 := by omega
  rw [natDig_lib 19 _ hb]
  by_cases h : n < 0
  · rw [if_pos h, if_pos h]
  · rw [if_neg h, if_neg h]
    congr 1
    omega
end Go.Proofs.YtkjoaodoioicpaaGreatDoor
namespace Go.Proofs.YtkjoaodoioicpaaGreatDoor
theorem join_lib (l : List Bs) : Lib.join l [44, 32] = joinS l := by
  induction l with
  | nil => rfl
  | cons a r ih =>
    cases r with
    | nil => rw [Lib.join_one]; rfl
    | cons b t =>
      rw [Lib.join_cons] at ih ⊢
      show a ++ Lib.joinTail [44, 32] (b :: t) = a ++ [44, 32] ++ joinS (b :: t)
      rw [← ih]
      simp [Lib.joinTail]
end Go.Proofs.YtkjoaodoioicpaaGreatDoor
