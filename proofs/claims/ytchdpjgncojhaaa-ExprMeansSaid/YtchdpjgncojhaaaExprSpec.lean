/- Expressions: what the functions of the packages expr and licitref08 compute, as plain functions; no program in sight. -/
import Derived.Test.YtchdpjgncojhaaaTokSpec2
set_option linter.unusedVariables false
set_option linter.unusedSimpArgs false
namespace Go.Proofs.Ytchdpjgncojhaaa
open Go.RowKit

def yes (b : Bool) : Int := if b then 1 else 0
def unS (op : Bs) (x : Int) : Int × Bool :=
  if op = [45] then (-x % 4294967296, true) else if op = [126] then (bits .xor .u32 IntKind.u32.max x, true) else if op = [33] then (yes (x == 0), true) else (0, false)
def isUn (op : Bs) : Bool := op == [45] || op == [126] || op == [33]
theorem unS_is (op : Bs) (x : Int) : (unS op x).2 = isUn op := by
  unfold unS isUn
  by_cases h1 : op = [45]
  · simp [h1]
  · by_cases h2 : op = [126]
    · simp [h2]
    · by_cases h3 : op = [33] <;> simp [h1, h2, h3]
def binS (op : Bs) (x y : Int) : Int × Bool :=
  if op = [124, 124] then (yes (x != 0 || y != 0), true)
  else if op = [38, 38] then (yes (x != 0 && y != 0), true)
  else if op = [124] then (bits .or .u32 x y, true)
  else if op = [94] then (bits .xor .u32 x y, true)
  else if op = [38] then (bits .and .u32 x y, true)
  else if op = [61, 61] then (yes (x == y), true)
  else if op = [33, 61] then (yes (x != y), true)
  else if op = [60] then (yes (decide (wrap32 x < wrap32 y)), true)
  else if op = [60, 61] then (yes (decide (wrap32 x ≤ wrap32 y)), true)
  else if op = [62] then (yes (decide (wrap32 y < wrap32 x)), true)
  else if op = [62, 61] then (yes (decide (wrap32 y ≤ wrap32 x)), true)
  else if op = [60, 60] then (x * 2 ^ (y % 32).toNat % 4294967296, true)
  else if op = [62, 62] then (wrap32 x / 2 ^ (y % 32).toNat % 4294967296, true)
  else if op = [43] then ((x + y) % 4294967296, true)
  else if op = [45] then ((x - y) % 4294967296, true)
  else if op = [42] then (x * y % 4294967296, true)
  else if op = [47] then (if y = 0 then 0 else wrap32 ((wrap32 x).tdiv (wrap32 y)) % 4294967296, true)
  else if op = [37] then (if y = 0 then x else (wrap32 x).tmod (wrap32 y) % 4294967296, true)
  else (0, false)
def binOps : List Bs := [[124, 124], [38, 38], [124], [94], [38], [61, 61], [33, 61], [60], [60, 61], [62], [62, 61], [60, 60], [62, 62], [43], [45], [42], [47], [37]]
def levels : List (List Bs) := [[[124, 124]], [[38, 38]], [[124]], [[94]], [[38]], [[61, 61], [33, 61]], [[60], [60, 61], [62], [62, 61]], [[60, 60], [62, 62]], [[43], [45]], [[42], [47], [37]]]
def levelGo : List (List Bs) → Nat → Bs → Nat
  | [], _, _ => 0
  | l :: r, k, op => if l.contains op then k else levelGo r (k + 1) op
def level (op : Bs) : Nat := levelGo levels 1 op

theorem isUn_iff (op : Bs) : isUn op = true ↔ op = [45] ∨ op = [126] ∨ op = [33] := by unfold isUn; simp [or_assoc]
theorem binS_none (op : Bs) (x y : Int) (h : op ∉ binOps) : binS op x y = (0, false) := by
  simp only [binOps, List.mem_cons, List.not_mem_nil, or_false, not_or] at h
  unfold binS
  simp [h]

/- The parser. -/
structure PSt where
  rest : List Tok
  depth : Int
  out : List Opn
  err : Int
  deriving DecidableEq, Repr, Inhabited

def pfail (st : PSt) (e : Int) : Bool × PSt := (false, if st.err = 0 then { st with err := e } else st)
def pput (st : PSt) (k : Int) (t : Bs) (n : Int) : Bool × PSt := (true, { st with out := st.out ++ [⟨k, t, n⟩] })
def pnext (st : PSt) (s : Bs) : Bool := match st.rest with | [] => false | t :: _ => decide (t = ⟨3, s⟩)
def ptake (st : PSt) (s : Bs) : Bool × PSt := if pnext st s then (true, { st with rest := st.rest.tail }) else pfail st 4
end Go.Proofs.Ytchdpjgncojhaaa
