/- Tokens: what the functions of the packages token and licitref05 compute, as plain functions on lists of bytes; no program in sight. -/
import Derived.Test.YtchdpjgncojhaaaBase
set_option linter.unusedVariables false
set_option linter.unusedSimpArgs false
namespace Go.Proofs.Ytchdpjgncojhaaa

abbrev Bs := List UInt8
def letr (c : Int) : Bool := (decide (97 ≤ c) && decide (c ≤ 122)) || c == 95
def digt (c : Int) : Bool := decide (48 ≤ c) && decide (c ≤ 57)
def nameB (c : UInt8) : Bool := letr c.toNat || digt c.toNat
def digB (c : UInt8) : Bool := digt c.toNat
def form (s : Bs) : Bool := decide (1 ≤ s.length) && decide (s.length ≤ 32) && letr (s.headD 0).toNat && s.all nameB

def kws : List Bs := [[108, 101, 116], [115, 101, 116], [105, 102], [101, 108, 115, 101], [119, 104, 105, 108, 101], [114, 101, 116, 117, 114, 110], [100, 111], [111, 117, 116], [115, 116, 111, 114, 101], [108, 111, 97, 100], [105, 110], [105, 110, 99, 108, 117, 100, 101], [100, 101, 102, 105, 110, 101], [117, 110, 100, 101, 102], [119, 104, 101, 110], [117, 110, 108, 101, 115, 115], [110, 111, 116, 101], [101, 120, 116, 101, 114, 110], [101, 120, 112, 111, 114, 116], [119, 101, 97, 107], [102, 110], [100, 97, 116, 97]]
def name5 (s : Bs) : Bool := form s && !kws.contains s

/-- The loop of licitref05.Number. -/
def num5 : Bs → Nat → Bool → Nat × Int
  | [], n, large => if large then (0, 3) else (n, 0)
  | c :: r, n, large => if !digB c then (0, 4) else
      if 4294967295 < 10 * n + (c.toNat - 48) then num5 r 4294967296 true else num5 r (10 * n + (c.toNat - 48)) large
def bad0 (s : Bs) : Bool := s.isEmpty || (decide (1 < s.length) && s.headD 0 == 48)
def number5 (s : Bs) : Nat × Int := if bad0 s then (0, 4) else num5 s 0 false

/-- The loop of token.Number. -/
def tnum : Bs → Nat → Nat × Int
  | [], n => (n, 0)
  | c :: r, n => if 4294967295 < 10 * n + (c.toNat - 48) then (0, 3) else tnum r (10 * n + (c.toNat - 48))
def number (s : Bs) : Nat × Int := if bad0 s || !s.all digB then (0, 4) else tnum s 0

theorem num5_large (s : Bs) (h : s.all digB = true) (n : Nat) : num5 s n true = (0, 3) := by
  induction s generalizing n with
  | nil => rfl
  | cons c r ih =>
    simp only [List.all_cons, Bool.and_eq_true] at h
    unfold num5
    simp only [h.1, Bool.not_true, if_false, Bool.false_eq_true]
    split <;> exact ih h.2 _
theorem num5_bad (s : Bs) (h : s.all digB = false) (n : Nat) (b : Bool) : num5 s n b = (0, 4) := by
  induction s generalizing n b with
  | nil => simp at h
  | cons c r ih =>
    unfold num5
    by_cases hc : digB c
    · simp only [List.all_cons, hc, Bool.true_and] at h
      simp only [hc, Bool.not_true, if_false, Bool.false_eq_true]
      split <;> exact ih h _ _
    · simp [hc]
theorem num5_tnum (s : Bs) (h : s.all digB = true) (n : Nat) : num5 s n false = tnum s n := by
  induction s generalizing n with
  | nil => rfl
  | cons c r ih =>
    simp only [List.all_cons, Bool.and_eq_true] at h
    unfold num5 tnum
    simp only [h.1, Bool.not_true, if_false, Bool.false_eq_true]
    split
    · exact num5_large r h.2 _
    · exact ih h.2 _
theorem number_eq (s : Bs) : number5 s = number s := by
  unfold number5 number
  by_cases hb : bad0 s
  · simp [hb]
  · by_cases hd : s.all digB
    · simp only [hb, hd, num5_tnum s hd, Bool.not_true, Bool.or_false, Bool.false_eq_true, if_false]
    · simp only [Bool.not_eq_true] at hd
      simp only [hb, hd, num5_bad s hd, Bool.not_false, Bool.or_true, if_true, Bool.false_eq_true, if_false]

def syms : List Bs := [[124, 124], [38, 38], [61, 61], [33, 61], [60, 61], [62, 61], [60, 60], [62, 62], [124], [94], [38], [60], [62], [43], [45], [42], [47], [37], [126], [33], [40], [41], [44], [61]]
def syms2 : List Bs := [[124, 124], [38, 38], [61, 61], [33, 61], [60, 61], [62, 61], [60, 60], [62, 62]]
def syms1 : Bs := [124, 94, 38, 60, 62, 43, 45, 42, 47, 37, 126, 33, 40, 41, 44, 61]
/-- licitref05.next's last loop. -/
def sym5 (s : Bs) : Bs := (syms.find? (fun x => x.isPrefixOf s)).getD []
/-- token.symbol. -/
def symT (s : Bs) : Bs := if decide (1 < s.length) && syms2.contains (s.take 2) then s.take 2 else if !s.isEmpty && syms1.contains (s.headD 0) then s.take 1 else []

def nextOf (sym : Bs → Bs) (s : Bs) : Tok × Int :=
  if letr (s.headD 0).toNat then
    let n := (s.takeWhile nameB).length
    if 32 < n then (⟨0, []⟩, 2) else (⟨1, s.take n⟩, 0)
  else if digt (s.headD 0).toNat then
    let n := (s.takeWhile digB).length
    if (number (s.take n)).2 ≠ 0 then (⟨0, []⟩, (number (s.take n)).2)
    else if decide (n < s.length) && letr ((s.drop n).headD 0).toNat then (⟨0, []⟩, 4) else (⟨2, s.take n⟩, 0)
  else if (sym s).isEmpty then (⟨0, []⟩, 4) else (⟨3, sym s⟩, 0)

def validT (t : Tok) : Bool := !t.text.isEmpty && ((nextOf symT t.text).2 == 0 && (nextOf symT t.text).1 == t)
def valid5 (t : Tok) : Bool := if t.kind = 1 then form t.text else if t.kind = 2 then (number t.text).2 == 0 else if t.kind = 3 then syms.contains t.text else false
def nameT (s : Bs) : Bool := !kws.contains s && validT ⟨1, s⟩

theorem find_beq (l : List Bs) (y : Bs) : l.find? (fun x => x == y) = if l.contains y then some y else none := by
  induction l with
  | nil => rfl
  | cons a r ih =>
    rw [List.find?_cons]
    by_cases h : a = y
    · subst h; simp
    · have h1 : (a == y) = false := by simpa using h
      have h2 : (y == a) = false := by simpa using fun e => h e.symm
      simp only [h1, ih, List.contains_cons, h2, Bool.false_or]
theorem find_congr {α : Type} (l : List α) (p q : α → Bool) (h : ∀ x, x ∈ l → p x = q x) : l.find? p = l.find? q := by
  induction l with
  | nil => rfl
  | cons a r ih => rw [List.find?_cons, List.find?_cons, h a (by simp), ih (fun x hx => h x (by simp [hx]))]
theorem find_one (l : Bs) (a : UInt8) (r : Bs) : (l.map (fun c => [c])).find? (fun x => x.isPrefixOf (a :: r)) = if l.contains a then some [a] else none := by
  induction l with
  | nil => rfl
  | cons c t ih =>
    rw [List.map_cons, List.find?_cons]
    by_cases h : c = a
    · subst h; simp [List.isPrefixOf]
    · have h1 : (c == a) = false := by simpa using h
      have h2 : (a == c) = false := by simpa using fun e => h e.symm
      simp only [List.isPrefixOf, h1, Bool.false_and, ih, List.contains_cons, h2, Bool.false_or]
theorem sym_eq (s : Bs) : symT s = sym5 s := by
  have hs : syms = syms2 ++ syms1.map (fun c => [c]) := rfl
  unfold symT sym5
  rw [hs, List.find?_append]
  match s with
  | [] => rfl
  | [a] =>
    have h2 : syms2.find? (fun x => x.isPrefixOf [a]) = none := by simp [syms2, List.isPrefixOf]
    rw [h2, find_one]
    by_cases h : a ∈ syms1 <;> simp [h]
  | a :: b :: r =>
    have h2 : syms2.find? (fun x => x.isPrefixOf (a :: b :: r)) = syms2.find? (fun x => x == [a, b]) :=
      find_congr _ _ _ (by intro x hx; simp only [syms2, List.mem_cons, List.not_mem_nil, or_false] at hx; rcases hx with rfl | rfl | rfl | rfl | rfl | rfl | rfl | rfl <;> simp [List.isPrefixOf])
    rw [h2, find_beq, find_one]
    by_cases h : syms2.contains [a, b]
    · simp only [List.take, h, if_true, List.length_cons, Option.some_or, Option.getD_some, Bool.and_true]
      rw [if_pos (by simp)]
    · by_cases h' : syms1.contains a <;> simp only [List.take, h, List.length_cons, h', Bool.and_false, if_false, Bool.false_eq_true, List.isEmpty_cons, Bool.not_false, List.headD, Bool.and_true, if_true, Option.none_or, Option.getD_some, Option.getD_none]

/-- The loop of licitref05.Tokens. -/
def toks5 : Nat → Bs → List Tok → List Tok × Int
  | 0, _, out => (out, 0)
  | _ + 1, [], out => (out, 0)
  | f + 1, c :: r, out => if c = 32 then toks5 f r out else if out.length = 256 then ([], 10) else
      if (nextOf sym5 (c :: r)).2 ≠ 0 then ([], (nextOf sym5 (c :: r)).2) else toks5 f ((c :: r).drop (nextOf sym5 (c :: r)).1.text.length) (out ++ [(nextOf sym5 (c :: r)).1])
def tokens5 (s : Bs) : List Tok × Int := if 65536 < s.length then ([], 10) else toks5 (s.length + 1) s []

theorem takeWhile_pos {p : UInt8 → Bool} {s : Bs} (h0 : 0 < s.length) (h : p (s.headD 0) = true) : 0 < (s.takeWhile p).length := by
  cases s with
  | nil => simp at h0
  | cons a r => simp only [List.headD_cons] at h; rw [List.takeWhile_cons, if_pos h]; simp
theorem sym5_len (s : Bs) : (sym5 s).length ≤ s.length := by
  unfold sym5
  cases h : syms.find? (fun x => x.isPrefixOf s) with
  | none => simp
  | some x =>
    have := List.find?_some h
    simp only [List.isPrefixOf_iff_prefix] at this
    exact this.length_le
theorem next_len (s : Bs) (h0 : 0 < s.length) (he : (nextOf sym5 s).2 = 0) : 1 ≤ (nextOf sym5 s).1.text.length ∧ (nextOf sym5 s).1.text.length ≤ s.length := by
  unfold nextOf at he ⊢
  by_cases h1 : letr (s.headD 0).toNat
  · simp only [h1, if_true] at he ⊢
    split at he
    · simp at he
    · rename_i h
      simp only [h, if_false]
      have := takeWhile_pos (p := nameB) h0 (by unfold nameB; rw [h1]; rfl)
      have h2 : (s.takeWhile nameB).length ≤ s.length := (List.takeWhile_sublist _).length_le
      simp only [List.length_take]; omega
  · simp only [h1, if_false, Bool.false_eq_true] at he ⊢
    by_cases h2 : digt (s.headD 0).toNat
    · simp only [h2, if_true] at he ⊢
      split at he
      · rename_i h; exact absurd he h
      · rename_i h
        split at he
        · simp at he
        · rename_i h'
          simp only [h, h', if_false, Bool.false_eq_true]
          have := takeWhile_pos (p := digB) h0 h2
          have h2 : (s.takeWhile digB).length ≤ s.length := (List.takeWhile_sublist _).length_le
          simp only [List.length_take]; omega
    · simp only [h2, if_false, Bool.false_eq_true] at he ⊢
      split at he
      · simp at he
      · rename_i h
        simp only [h, if_false, Bool.false_eq_true]
        refine ⟨?_, sym5_len s⟩
        cases hs : sym5 s with
        | nil => rw [hs] at h; simp at h
        | cons a r => simp

/-- licitref05.Text. -/
def textGo : List Tok → Bool → Bs → Bs
  | [], _, out => out
  | t :: r, first, out => textGo r false ((if first then out else out ++ [32]) ++ t.text)
def text5 (l : List Tok) : Bs := textGo l true []
theorem textGo_le (l : List Tok) (b : Bool) (out : Bs) : out.length ≤ (textGo l b out).length := by
  induction l generalizing b out with
  | nil => exact Nat.le_refl _
  | cons t r ih =>
    unfold textGo
    refine Nat.le_trans ?_ (ih _ _)
    cases b <;> simp <;> omega

theorem tw_step {p : UInt8 → Bool} {s : Bs} {k : Nat} (h : (s.takeWhile p).length = k + ((s.drop k).takeWhile p).length) (hk : k < s.length) (hp : p s[k] = true) : (s.takeWhile p).length = (k + 1) + ((s.drop (k + 1)).takeWhile p).length := by
  rw [h, drop_get hk, List.takeWhile_cons, if_pos hp, List.length_cons]; omega
theorem tw_stop {p : UInt8 → Bool} {s : Bs} {k : Nat} (h : (s.takeWhile p).length = k + ((s.drop k).takeWhile p).length) (hk : k < s.length) (hp : p s[k] = false) : (s.takeWhile p).length = k := by
  rw [h, drop_get hk, List.takeWhile_cons, if_neg (by rw [hp]; simp)]; rfl
theorem tw_end {p : UInt8 → Bool} {s : Bs} {k : Nat} (h : (s.takeWhile p).length = k + ((s.drop k).takeWhile p).length) (hk : ¬ k < s.length) : (s.takeWhile p).length = k := by
  rw [h, drop_end hk]; rfl
theorem tw_le {p : UInt8 → Bool} {s : Bs} : (s.takeWhile p).length ≤ s.length := (List.takeWhile_sublist p).length_le

/-- What 'return token, error' hands back. -/
def TokRes (v : Tok × Int) : Value := .tuple #[.agg #[.int .i64 v.1.kind, .string ⟨v.1.text.toArray⟩], .int .i64 v.2]
theorem ret_tok {v : Tok × Int} {k e : Int} {t : Bs} (h : v = (⟨k, t⟩, e)) : Ending.returned (.tuple #[.agg #[.int .i64 k, .string ⟨t.toArray⟩], .int .i64 e]) = .returned (TokRes v) := by rw [h]; rfl

theorem next_letr (sym : Bs → Bs) {s : Bs} (h0 : 0 < s.length) (h : letr s[0].toNat = true) : nextOf sym s = if 32 < (s.takeWhile nameB).length then (⟨0, []⟩, 2) else (⟨1, s.take (s.takeWhile nameB).length⟩, 0) := by
  unfold nextOf
  rw [headD_get h0, if_pos h]
theorem next_digt (sym : Bs → Bs) {s : Bs} (h0 : 0 < s.length) (h : letr s[0].toNat = false) (h' : digt s[0].toNat = true) : nextOf sym s =
    (let n := (s.takeWhile digB).length
    if (number (s.take n)).2 ≠ 0 then (⟨0, []⟩, (number (s.take n)).2)
    else if decide (n < s.length) && letr ((s.drop n).headD 0).toNat then (⟨0, []⟩, 4) else (⟨2, s.take n⟩, 0)) := by
  unfold nextOf
  rw [headD_get h0, if_neg (by rw [h]; simp), if_pos h']
theorem next_symb (sym : Bs → Bs) {s : Bs} (h0 : 0 < s.length) (h : letr s[0].toNat = false) (h' : digt s[0].toNat = false) : nextOf sym s =
    if (sym s).isEmpty then (⟨0, []⟩, 4) else (⟨3, sym s⟩, 0) := by
  unfold nextOf
  rw [headD_get h0, if_neg (by rw [h]; simp), if_neg (by rw [h']; simp)]

theorem byte_le (c : UInt8) : (c.toNat : Int) ≤ 255 := by have := UInt8.toNat_lt c; omega
end Go.Proofs.Ytchdpjgncojhaaa
