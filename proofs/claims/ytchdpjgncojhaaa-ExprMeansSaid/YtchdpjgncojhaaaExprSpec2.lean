/- Expressions: what Check, Fold, Value, Print compute, as plain functions. -/
import Derived.Test.YtchdpjgncojhaaaExprSpec
set_option linter.unusedVariables false
set_option linter.unusedSimpArgs false
namespace Go.Proofs.Ytchdpjgncojhaaa
open Go.RowKit

def needsS (o : Opn) : Int :=
  if o.kind = 1 then (if o.text.isEmpty then 0 else -1)
  else if o.kind = 2 then (if nameT o.text && o.n == 0 then 0 else -1)
  else if o.kind = 3 then (if nameT o.text && decide (o.n ≤ 8) then o.n else -1)
  else if o.kind = 4 then (if o.text.isEmpty && o.n == 0 then 1 else -1)
  else if o.kind = 5 then (if o.text.isEmpty && o.n == 0 then 0 else -1)
  else if o.kind = 6 then (if isUn o.text && o.n == 0 then 1 else -1)
  else if o.kind = 7 then (if decide (0 < level o.text) && o.n == 0 then 2 else -1)
  else -1
theorem needsS_le (o : Opn) : needsS o ≤ 8 := by
  unfold needsS
  repeat' split
  all_goals (first | omega | (rename_i h; simp at h; omega))
theorem needsS_ge (o : Opn) (hn : 0 ≤ o.n) : -1 ≤ needsS o := by
  unfold needsS
  repeat' split
  all_goals omega

/-- The loop of Check: the number of values, or the error. -/
def checkGo : List Opn → Int → Int
  | [], values => if values = 1 then 0 else 1
  | o :: r, values => if needsS o < 0 ∨ values < needsS o then 1 else checkGo r (values + (1 - needsS o))
def checkS (f : List Opn) : Int := if 256 < f.length then 10 else checkGo f 0

/-- The loop of Fold; out: what has been made. -/
def foldGo : List Opn → List Opn → List Opn
  | [], out => out
  | o :: r, out =>
    if o.kind = 6 ∧ 1 ≤ out.length ∧ (out.getD (out.length - 1) default).kind = 1 then
      foldGo r (out.set (out.length - 1) { out.getD (out.length - 1) default with n := (unS o.text (out.getD (out.length - 1) default).n).1 })
    else if o.kind = 7 ∧ 2 ≤ out.length ∧ (out.getD (out.length - 1) default).kind = 1 ∧ (out.getD (out.length - 2) default).kind = 1 then
      foldGo r ((out.set (out.length - 2) { out.getD (out.length - 2) default with n := (binS o.text (out.getD (out.length - 2) default).n (out.getD (out.length - 1) default).n).1 }).take (out.length - 1))
    else foldGo r (out ++ [o])
def foldS (f : List Opn) : List Opn × Int := if checkS f ≠ 0 then ([], checkS f) else (foldGo f [], 0)
def valueS (f : List Opn) : Int × Bool :=
  if (foldS f).2 ≠ 0 ∨ (foldS f).1.length ≠ 1 ∨ ((foldS f).1.getD 0 default).kind ≠ 1 then (0, false) else (((foldS f).1.getD 0 default).n, true)
/-- The formulas that a statement speaks of: what their numbers and texts are. -/
def OkF (f : List Opn) : Prop := ∀ o ∈ f, o.text.length ≤ 9223372036854775807 ∧ 0 ≤ o.n ∧ o.n ≤ 4294967295
end Go.Proofs.Ytchdpjgncojhaaa
