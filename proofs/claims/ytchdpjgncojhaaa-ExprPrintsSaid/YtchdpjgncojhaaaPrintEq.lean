/- licitref08.Print as a plain function; it answers as expr.Print does. Plain. -/
import Derived.Test.YtchdpjgncojhaaaExprSpec3
set_option linter.unusedVariables false
set_option linter.unusedSimpArgs false
namespace Go.Proofs.Ytchdpjgncojhaaa

def text8S (o : Opn) (args : List Txt) : Txt :=
  if o.kind = 1 then ⟨[numTok o.n], 12⟩
  else if o.kind = 2 then ⟨[⟨1, o.text⟩], 12⟩
  else if o.kind = 3 then ⟨callS o.text args, 12⟩
  else if o.kind = 4 then ⟨callS [108, 111, 97, 100] args, 12⟩
  else if o.kind = 5 then ⟨callS [105, 110] [], 12⟩
  else if o.kind = 6 then ⟨[symK o.text] ++ atS (args.getD 0 default) 11, 11⟩
  else ⟨atS (args.getD 0 default) (level o.text) ++ [symK o.text] ++ atS (args.getD 1 default) ((level o.text : Int) + 1), level o.text⟩
def print8Go : List Opn → List Txt → List Txt
  | [], st => st
  | o :: r, st => print8Go r (st.take (st.length - nd o) ++ [text8S o (st.drop (st.length - nd o))])
def print8S (f : List Opn) : List Tok × Int :=
  if checkS f ≠ 0 then ([], checkS f)
  else if 256 < ((print8Go f []).getD 0 default).toks.length then ([], 10)
  else (((print8Go f []).getD 0 default).toks, 0)

structure LvR (a b : Txt) : Prop where
  toks : a.toks = b.toks
  lev : a.lev = b.lev ∨ a.lev = 11 ∧ b.lev = 12
inductive LvL : List Txt → List Txt → Prop
  | nil : LvL [] []
  | cons {a b : Txt} {r s : List Txt} (h : LvR a b) (t : LvL r s) : LvL (a :: r) (b :: s)
theorem LvL.len {a b : List Txt} (h : LvL a b) : a.length = b.length := by induction h with | nil => rfl | cons _ _ ih => simp [ih]
theorem LvL.take {a b : List Txt} (h : LvL a b) (k : Nat) : LvL (a.take k) (b.take k) := by
  induction h generalizing k with
  | nil => simpa using LvL.nil
  | cons h _ ih => cases k with
    | zero => exact LvL.nil
    | succ k => exact LvL.cons h (ih k)
theorem LvL.drop {a b : List Txt} (h : LvL a b) (k : Nat) : LvL (a.drop k) (b.drop k) := by
  induction h generalizing k with
  | nil => simpa using LvL.nil
  | cons h t ih => cases k with
    | zero => exact LvL.cons h t
    | succ k => exact ih k
theorem LvL.push {a b : List Txt} (h : LvL a b) {x y : Txt} (hx : LvR x y) : LvL (a ++ [x]) (b ++ [y]) := by
  induction h with
  | nil => exact LvL.cons hx LvL.nil
  | cons h t ih => exact LvL.cons h ih
theorem LvL.get {a b : List Txt} (h : LvL a b) (i : Nat) : LvR (a.getD i default) (b.getD i default) := by
  induction h generalizing i with
  | nil => exact ⟨rfl, .inl rfl⟩
  | cons h t ih => cases i with
    | zero => exact h
    | succ i => exact ih i
theorem LvL.args {a b : List Txt} (h : LvL a b) (f : Bool) : argsGo a f = argsGo b f := by
  induction h generalizing f with
  | nil => rfl
  | cons h t ih => rw [argsGo, argsGo, ih, h.toks]
theorem LvR.at {a b : Txt} (h : LvR a b) {l : Int} (hl : l ≤ 11) : atS a l = atS b l := by
  unfold atS
  rw [h.toks]
  rcases h.lev with e | ⟨e1, e2⟩
  · rw [e]
  · rw [if_pos (by omega), if_pos (by omega)]
theorem text_rel {o : Opn} {a b : List Txt} (h : LvL a b) (h5 : o.kind = 5 → a = []) : LvR (textS o a) (text8S o b) := by
  have hl : (level o.text : Int) + 1 ≤ 11 := by have := level_le o.text; omega
  unfold textS text8S
  by_cases h1 : o.kind = 1
  · simp only [h1, if_true]; exact ⟨rfl, .inr ⟨rfl, rfl⟩⟩
  by_cases h2 : o.kind = 2
  · simp [h2]; exact ⟨rfl, .inr ⟨rfl, rfl⟩⟩
  by_cases h3 : o.kind = 3
  · simp [h3]; exact ⟨by simp only [callS]; rw [h.args], .inr ⟨rfl, rfl⟩⟩
  by_cases h4 : o.kind = 4
  · simp [h4]; exact ⟨by simp only [callS]; rw [h.args], .inr ⟨rfl, rfl⟩⟩
  by_cases h5' : o.kind = 5
  · rw [h5 h5']; simp [h5']; exact ⟨rfl, .inr ⟨rfl, rfl⟩⟩
  by_cases h6 : o.kind = 6
  · simp only [h6]; simp only [show ¬ (6 : Int) = 1 by decide, show ¬ (6 : Int) = 2 by decide, show ¬ (6 : Int) = 3 by decide, show ¬ (6 : Int) = 4 by decide, show ¬ (6 : Int) = 5 by decide, if_false, if_true]
    exact ⟨by show _ ++ _ = _ ++ _; rw [(h.get 0).at (by omega)], .inl rfl⟩
  · simp only [h1, h2, h3, h4, h5', h6, if_false]
    exact ⟨by show _ ++ _ = _ ++ _; rw [(h.get 0).at (by omega), (h.get 1).at hl], .inl rfl⟩
theorem print_rel (f : List Opn) (a b : List Txt) (h : LvL a b) : LvL (printGo f a) (print8Go f b) := by
  induction f generalizing a b with
  | nil => exact h
  | cons o r ih =>
    rw [printGo, print8Go, ← h.len]
    refine ih _ _ ((h.take _).push (text_rel (h.drop _) (fun hk => ?_)))
    have : nd o = 0 := by
      unfold nd needsS
      simp only [hk]
      simp only [show ¬ (5 : Int) = 1 by decide, show ¬ (5 : Int) = 2 by decide, show ¬ (5 : Int) = 3 by decide, show ¬ (5 : Int) = 4 by decide, if_false, if_true]
      split <;> rfl
    rw [this]
    simp
theorem print8_eq (f : List Opn) : print8S f = exprPrintS f := by
  unfold print8S exprPrintS
  have h := (print_rel f [] [] LvL.nil).get 0
  rw [← h.toks]
end Go.Proofs.Ytchdpjgncojhaaa
