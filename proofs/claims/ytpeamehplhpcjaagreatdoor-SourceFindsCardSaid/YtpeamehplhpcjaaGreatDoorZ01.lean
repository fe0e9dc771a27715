/- A part of the proofs of the laws of one package; see the law's own text, which comes last in 'order'. No conditions of its own. -/
import Derived.Test.YtpeamehplhpcjaaGreatDoorRows
set_option linter.unusedVariables false
set_option linter.unusedSimpArgs false
namespace Go.Proofs.YtpeamehplhpcjaaGreatDoor
structure Tok where
  kind : Int
  text : List UInt8
  deriving DecidableEq, Repr, Inhabited
theorem drop_get {α : Type} {l : List α} {k : Nat} (h : k < l.length) : l.drop k = l[k] :: l.drop (k + 1) := List.drop_eq_getElem_cons h
theorem drop_end {α : Type} {l : List α} {k : Nat} (h' : ¬ k < l.length) : l.drop k = [] := List.drop_of_length_le (by omega)
theorem headD_get {l : List UInt8} (h : 0 < l.length) : l.headD 0 = l[0] := by cases l with | nil => simp at h | cons c r => rfl
end Go.Proofs.YtpeamehplhpcjaaGreatDoor
