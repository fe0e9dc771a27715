/-
  No cell of these rows narrows 'for every input' (looked for: loops, veiled, ifaces, maps, wideKeys, modest, calm, conditions, laid).
  DERIVED. THE GIVEN ROWS OF THIS SEAT. 7 by the template 'for every input the law returns true; each argument reads behind the call as it read before'; 0 by the template 'total and deterministic' (their statements: YtchdpjgncojhaaaTotals.lean).
  GIVEN WITH THE SEED: the statements are not yours to turn. If you find one false, say at which input.
  Laid BY PROGRAM, IN A SANDBOX (cutbox-rows.mjs): the forced cells as the released guide's own fill.sh prints them over the translation a54a859531932e24… (all of the seat's roots in one cut). By AI agents, Wed Nov 11 2026. No macro, syntax, notation, axiom, sorry.
-/
import Derived.Test.YtchdpjgncojhaaaChecked
import GoSem.Claim
import GoSem.ClaimJoined
import GoSem.ClaimMapViews
import Derived.JoinedTies
import Derived.KernelRfl
namespace Go.Proofs.Ytchdpjgncojhaaa
/- THE CELL 'sum', in the pinned program and in every row, IS THE sha256 OF THE DUMP (.gsa) THAT YtchdpjgncojhaaaProg.lean LOADS. Nothing in Lean hashes anything: it is a label: what it is worth is what the hold of that sum in a sandbox is worth. -/
noncomputable def Try.pinned : Pinned := { name := "ytchdpjgncojhaaa", sum := "a54a859531932e2435029fe9bd2e535ca7551ab9b7633d9c5e31fc431c11dbc8", checked := Try.checked }
namespace Rows
def none {H : Type} : Left H := { results := [], args := [] }

/-- 'licitlaw08.ExprParses': WHATEVER THE INPUT: true; the input reads as it did. -/
def exprParsesSpec : ChangeSpec := { name := "exprParses", fn := fun _ => fun
  | [d] => { results := [.lit (.bool true)], args := [d] }
  | _ => none }
def exprParsesRow : OpenClaim := { program := "ytchdpjgncojhaaa", sum := "a54a859531932e2435029fe9bd2e535ca7551ab9b7633d9c5e31fc431c11dbc8", func := "licit/licitlaw08.ExprParses", spec := "exprParses", inPlace := ["internal/bytealg.IndexByteString", "internal/abi.NoEscape", "internal/bytealg.MakeNoZero"], unfollowed := true, recurses := true, apart := false }
def ExprParsesSaid : Prop := exprParsesRow.holds Try.pinned (OpenSpec.ofChange exprParsesSpec)

/-- ITS FALSE NEIGHBOUR: 'it returns false'. Refute it at one input. -/
def exprParsesWrong : ChangeSpec := { name := "exprParses", fn := fun _ => fun
  | [d] => { results := [.lit (.bool false)], args := [d] }
  | _ => none }
def ExprParsesWrongFalsely : Prop := exprParsesRow.holds Try.pinned (OpenSpec.ofChange exprParsesWrong)

/-- 'licitlaw08.ExprPrints': WHATEVER THE INPUT: true; the input reads as it did. -/
def exprPrintsSpec : ChangeSpec := { name := "exprPrints", fn := fun _ => fun
  | [d] => { results := [.lit (.bool true)], args := [d] }
  | _ => none }
def exprPrintsRow : OpenClaim := { program := "ytchdpjgncojhaaa", sum := "a54a859531932e2435029fe9bd2e535ca7551ab9b7633d9c5e31fc431c11dbc8", func := "licit/licitlaw08.ExprPrints", spec := "exprPrints", inPlace := ["internal/bytealg.IndexByteString", "internal/abi.NoEscape", "internal/bytealg.MakeNoZero"], unfollowed := true, recurses := true, apart := false }
def ExprPrintsSaid : Prop := exprPrintsRow.holds Try.pinned (OpenSpec.ofChange exprPrintsSpec)

/-- ITS FALSE NEIGHBOUR: 'it returns false'. Refute it at one input. -/
def exprPrintsWrong : ChangeSpec := { name := "exprPrints", fn := fun _ => fun
  | [d] => { results := [.lit (.bool false)], args := [d] }
  | _ => none }
def ExprPrintsWrongFalsely : Prop := exprPrintsRow.holds Try.pinned (OpenSpec.ofChange exprPrintsWrong)

/-- 'licitlaw08.ExprFolds': WHATEVER THE INPUT: true; the input reads as it did. -/
def exprFoldsSpec : ChangeSpec := { name := "exprFolds", fn := fun _ => fun
  | [d] => { results := [.lit (.bool true)], args := [d] }
  | _ => none }
def exprFoldsRow : OpenClaim := { program := "ytchdpjgncojhaaa", sum := "a54a859531932e2435029fe9bd2e535ca7551ab9b7633d9c5e31fc431c11dbc8", func := "licit/licitlaw08.ExprFolds", spec := "exprFolds", inPlace := ["internal/bytealg.IndexByteString", "internal/abi.NoEscape", "internal/bytealg.MakeNoZero"], unfollowed := true, recurses := true, apart := false }
def ExprFoldsSaid : Prop := exprFoldsRow.holds Try.pinned (OpenSpec.ofChange exprFoldsSpec)

/-- ITS FALSE NEIGHBOUR: 'it returns false'. Refute it at one input. -/
def exprFoldsWrong : ChangeSpec := { name := "exprFolds", fn := fun _ => fun
  | [d] => { results := [.lit (.bool false)], args := [d] }
  | _ => none }
def ExprFoldsWrongFalsely : Prop := exprFoldsRow.holds Try.pinned (OpenSpec.ofChange exprFoldsWrong)

/-- 'licitlaw08.ExprOperates': WHATEVER THE INPUT: true; the input reads as it did. -/
def exprOperatesSpec : ChangeSpec := { name := "exprOperates", fn := fun _ => fun
  | [d1, d2, d3] => { results := [.lit (.bool true)], args := [d1, d2, d3] }
  | _ => none }
def exprOperatesRow : OpenClaim := { program := "ytchdpjgncojhaaa", sum := "a54a859531932e2435029fe9bd2e535ca7551ab9b7633d9c5e31fc431c11dbc8", func := "licit/licitlaw08.ExprOperates", spec := "exprOperates", inPlace := ["internal/bytealg.IndexByteString", "internal/abi.NoEscape", "internal/bytealg.MakeNoZero"], unfollowed := true, recurses := true, apart := false }
def ExprOperatesSaid : Prop := exprOperatesRow.holds Try.pinned (OpenSpec.ofChange exprOperatesSpec)

/-- ITS FALSE NEIGHBOUR: 'it returns false'. Refute it at one input. -/
def exprOperatesWrong : ChangeSpec := { name := "exprOperates", fn := fun _ => fun
  | [d1, d2, d3] => { results := [.lit (.bool false)], args := [d1, d2, d3] }
  | _ => none }
def ExprOperatesWrongFalsely : Prop := exprOperatesRow.holds Try.pinned (OpenSpec.ofChange exprOperatesWrong)

/-- 'licitlaw08.ExprReturns': WHATEVER THE INPUT: true; the input reads as it did. -/
def exprReturnsSpec : ChangeSpec := { name := "exprReturns", fn := fun _ => fun
  | [d] => { results := [.lit (.bool true)], args := [d] }
  | _ => none }
def exprReturnsRow : OpenClaim := { program := "ytchdpjgncojhaaa", sum := "a54a859531932e2435029fe9bd2e535ca7551ab9b7633d9c5e31fc431c11dbc8", func := "licit/licitlaw08.ExprReturns", spec := "exprReturns", inPlace := ["internal/bytealg.IndexByteString", "internal/abi.NoEscape", "internal/bytealg.MakeNoZero"], unfollowed := true, recurses := true, apart := false }
def ExprReturnsSaid : Prop := exprReturnsRow.holds Try.pinned (OpenSpec.ofChange exprReturnsSpec)

/-- ITS FALSE NEIGHBOUR: 'it returns false'. Refute it at one input. -/
def exprReturnsWrong : ChangeSpec := { name := "exprReturns", fn := fun _ => fun
  | [d] => { results := [.lit (.bool false)], args := [d] }
  | _ => none }
def ExprReturnsWrongFalsely : Prop := exprReturnsRow.holds Try.pinned (OpenSpec.ofChange exprReturnsWrong)

/-- 'licitlaw08.ExprArithmetic': WHATEVER THE INPUT: true; the input reads as it did. -/
def exprArithmeticSpec : ChangeSpec := { name := "exprArithmetic", fn := fun _ => fun
  | [d1, d2] => { results := [.lit (.bool true)], args := [d1, d2] }
  | _ => none }
def exprArithmeticRow : OpenClaim := { program := "ytchdpjgncojhaaa", sum := "a54a859531932e2435029fe9bd2e535ca7551ab9b7633d9c5e31fc431c11dbc8", func := "licit/licitlaw08.ExprArithmetic", spec := "exprArithmetic", inPlace := ["internal/bytealg.IndexByteString", "internal/abi.NoEscape", "internal/bytealg.MakeNoZero"], unfollowed := true, recurses := true, apart := false }
def ExprArithmeticSaid : Prop := exprArithmeticRow.holds Try.pinned (OpenSpec.ofChange exprArithmeticSpec)

/-- ITS FALSE NEIGHBOUR: 'it returns false'. Refute it at one input. -/
def exprArithmeticWrong : ChangeSpec := { name := "exprArithmetic", fn := fun _ => fun
  | [d1, d2] => { results := [.lit (.bool false)], args := [d1, d2] }
  | _ => none }
def ExprArithmeticWrongFalsely : Prop := exprArithmeticRow.holds Try.pinned (OpenSpec.ofChange exprArithmeticWrong)

/-- 'licitlaw08.ExprMeans': WHATEVER THE INPUT: true; the input reads as it did. -/
def exprMeansSpec : ChangeSpec := { name := "exprMeans", fn := fun _ => fun
  | [d] => { results := [.lit (.bool true)], args := [d] }
  | _ => none }
def exprMeansRow : OpenClaim := { program := "ytchdpjgncojhaaa", sum := "a54a859531932e2435029fe9bd2e535ca7551ab9b7633d9c5e31fc431c11dbc8", func := "licit/licitlaw08.ExprMeans", spec := "exprMeans", inPlace := ["internal/bytealg.IndexByteString", "internal/abi.NoEscape", "internal/bytealg.MakeNoZero"], unfollowed := true, recurses := true, apart := false }
def ExprMeansSaid : Prop := exprMeansRow.holds Try.pinned (OpenSpec.ofChange exprMeansSpec)

/-- ITS FALSE NEIGHBOUR: 'it returns false'. Refute it at one input. -/
def exprMeansWrong : ChangeSpec := { name := "exprMeans", fn := fun _ => fun
  | [d] => { results := [.lit (.bool false)], args := [d] }
  | _ => none }
def ExprMeansWrongFalsely : Prop := exprMeansRow.holds Try.pinned (OpenSpec.ofChange exprMeansWrong)

/- THE SECOND FORM. 'bulk': how many values and letters a reading holds, each counted each time it is reached (what is shared counts as often as it is met; a slice's spare places count too). A statement '..UptoSaid' is the law's where the arguments, and the package variables that the reading takes, are together of bulk at most 1048576: NARROWER than '..Said'. Prove '..Said' where nothing that the law and all that it calls make is longer than what came in: it says more and counts as full. Else prove '..UptoSaid'. A law counts once. -/
mutual
def uptoBulk {H : Type} : DataW H → Nat
  | .lit (.string bytes) => bytes.length + 1
  | .lit _ => 1
  | .nil => 1
  | .ptr d => uptoBulk d + 1
  | .slice elems spare => uptoBulkAll elems + uptoBulkAll spare + 1
  | .agg parts => uptoBulkAll parts + 1
  | .iface _ d => uptoBulk d + 1
  | .map entries => uptoBulkEntries entries + 1
  | .held _ => 1
def uptoBulkAll {H : Type} : List (DataW H) → Nat
  | [] => 0
  | d :: r => uptoBulk d + uptoBulkAll r
def uptoBulkEntries {H : Type} : List (Lit × DataW H) → Nat
  | [] => 0
  | x :: r => uptoBulkEntry x + uptoBulkEntries r
def uptoBulkEntry {H : Type} : Lit × DataW H → Nat
  | (.string bytes, d) => bytes.length + uptoBulk d + 1
  | (_, d) => uptoBulk d + 1
 end
def uptoSmall : (H : Type) → List (DataW H) → Bool := fun _ ds => decide (uptoBulkAll ds ≤ 1048576)
def OpenSpec.upto (s : _root_.Go.ChangeSpec) : _root_.Go.OpenSpec := { _root_.Go.OpenSpec.ofChange s with cond := some uptoSmall }

/-- 'licitlaw08.ExprParses', WHERE WHAT IT READS IS OF BULK AT MOST 1048576: true; the input reads as it did. -/
def exprParsesUptoRow : OpenClaim := { program := "ytchdpjgncojhaaa", sum := "a54a859531932e2435029fe9bd2e535ca7551ab9b7633d9c5e31fc431c11dbc8", func := "licit/licitlaw08.ExprParses", spec := "exprParses", inPlace := ["internal/bytealg.IndexByteString", "internal/abi.NoEscape", "internal/bytealg.MakeNoZero"], unfollowed := true, recurses := true, apart := false, narrowed := true }
def ExprParsesUptoSaid : Prop := exprParsesUptoRow.holds Try.pinned (OpenSpec.upto exprParsesSpec)

/-- 'licitlaw08.ExprPrints', WHERE WHAT IT READS IS OF BULK AT MOST 1048576: true; the input reads as it did. -/
def exprPrintsUptoRow : OpenClaim := { program := "ytchdpjgncojhaaa", sum := "a54a859531932e2435029fe9bd2e535ca7551ab9b7633d9c5e31fc431c11dbc8", func := "licit/licitlaw08.ExprPrints", spec := "exprPrints", inPlace := ["internal/bytealg.IndexByteString", "internal/abi.NoEscape", "internal/bytealg.MakeNoZero"], unfollowed := true, recurses := true, apart := false, narrowed := true }
def ExprPrintsUptoSaid : Prop := exprPrintsUptoRow.holds Try.pinned (OpenSpec.upto exprPrintsSpec)

/-- 'licitlaw08.ExprFolds', WHERE WHAT IT READS IS OF BULK AT MOST 1048576: true; the input reads as it did. -/
def exprFoldsUptoRow : OpenClaim := { program := "ytchdpjgncojhaaa", sum := "a54a859531932e2435029fe9bd2e535ca7551ab9b7633d9c5e31fc431c11dbc8", func := "licit/licitlaw08.ExprFolds", spec := "exprFolds", inPlace := ["internal/bytealg.IndexByteString", "internal/abi.NoEscape", "internal/bytealg.MakeNoZero"], unfollowed := true, recurses := true, apart := false, narrowed := true }
def ExprFoldsUptoSaid : Prop := exprFoldsUptoRow.holds Try.pinned (OpenSpec.upto exprFoldsSpec)

/-- 'licitlaw08.ExprOperates', WHERE WHAT IT READS IS OF BULK AT MOST 1048576: true; the input reads as it did. -/
def exprOperatesUptoRow : OpenClaim := { program := "ytchdpjgncojhaaa", sum := "a54a859531932e2435029fe9bd2e535ca7551ab9b7633d9c5e31fc431c11dbc8", func := "licit/licitlaw08.ExprOperates", spec := "exprOperates", inPlace := ["internal/bytealg.IndexByteString", "internal/abi.NoEscape", "internal/bytealg.MakeNoZero"], unfollowed := true, recurses := true, apart := false, narrowed := true }
def ExprOperatesUptoSaid : Prop := exprOperatesUptoRow.holds Try.pinned (OpenSpec.upto exprOperatesSpec)

/-- 'licitlaw08.ExprReturns', WHERE WHAT IT READS IS OF BULK AT MOST 1048576: true; the input reads as it did. -/
def exprReturnsUptoRow : OpenClaim := { program := "ytchdpjgncojhaaa", sum := "a54a859531932e2435029fe9bd2e535ca7551ab9b7633d9c5e31fc431c11dbc8", func := "licit/licitlaw08.ExprReturns", spec := "exprReturns", inPlace := ["internal/bytealg.IndexByteString", "internal/abi.NoEscape", "internal/bytealg.MakeNoZero"], unfollowed := true, recurses := true, apart := false, narrowed := true }
def ExprReturnsUptoSaid : Prop := exprReturnsUptoRow.holds Try.pinned (OpenSpec.upto exprReturnsSpec)

/-- 'licitlaw08.ExprArithmetic', WHERE WHAT IT READS IS OF BULK AT MOST 1048576: true; the input reads as it did. -/
def exprArithmeticUptoRow : OpenClaim := { program := "ytchdpjgncojhaaa", sum := "a54a859531932e2435029fe9bd2e535ca7551ab9b7633d9c5e31fc431c11dbc8", func := "licit/licitlaw08.ExprArithmetic", spec := "exprArithmetic", inPlace := ["internal/bytealg.IndexByteString", "internal/abi.NoEscape", "internal/bytealg.MakeNoZero"], unfollowed := true, recurses := true, apart := false, narrowed := true }
def ExprArithmeticUptoSaid : Prop := exprArithmeticUptoRow.holds Try.pinned (OpenSpec.upto exprArithmeticSpec)

/-- 'licitlaw08.ExprMeans', WHERE WHAT IT READS IS OF BULK AT MOST 1048576: true; the input reads as it did. -/
def exprMeansUptoRow : OpenClaim := { program := "ytchdpjgncojhaaa", sum := "a54a859531932e2435029fe9bd2e535ca7551ab9b7633d9c5e31fc431c11dbc8", func := "licit/licitlaw08.ExprMeans", spec := "exprMeans", inPlace := ["internal/bytealg.IndexByteString", "internal/abi.NoEscape", "internal/bytealg.MakeNoZero"], unfollowed := true, recurses := true, apart := false, narrowed := true }
def ExprMeansUptoSaid : Prop := exprMeansUptoRow.holds Try.pinned (OpenSpec.upto exprMeansSpec)

end Rows
end Go.Proofs.Ytchdpjgncojhaaa
