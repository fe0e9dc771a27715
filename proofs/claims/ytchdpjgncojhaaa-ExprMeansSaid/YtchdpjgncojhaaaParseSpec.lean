/- Expressions: the parser of the package expr as a plain function with fuel. -/
import Derived.Test.YtchdpjgncojhaaaExprSpec
set_option linter.unusedVariables false
set_option linter.unusedSimpArgs false
namespace Go.Proofs.Ytchdpjgncojhaaa

inductive PTag where
  | bin (l : Nat) | loop (l : Nat) | single | nothing | args (n : Int) | more (n : Int)
  deriving DecidableEq, Repr, Inhabited

abbrev PRes := Option (Bool × PSt × Int)
def pdown (r : PRes) : PRes := r.map fun x => (x.1, { x.2.1 with depth := x.2.1.depth - 1 }, x.2.2)
/-- within: one deeper; the token that leads there is next. -/
def pwithin (part : PSt → PRes) (st : PSt) : PRes :=
  if 24 < st.depth then some ((pfail st 11).1, (pfail st 11).2, 0) else pdown (part { st with depth := st.depth + 1, rest := st.rest.tail })
def pclose (r : PRes) : PRes := r.map fun x => if x.1 then ((ptake x.2.1 [41]).1, (ptake x.2.1 [41]).2, x.2.2) else x
def pparens (part : PSt → PRes) (st : PSt) : PRes :=
  if pnext st [40] then pwithin (fun s => pclose (part s)) st else some ((pfail st 4).1, (pfail st 4).2, 0)
/-- 'part && put(..)' -/
def pthen (r : PRes) (k : Int) (t : Bs) : PRes := r.map fun x => if x.1 then (true, (pput x.2.1 k t x.2.2).2, 0) else (false, x.2.1, 0)
def pzero (r : PRes) : PRes := r.map fun x => (x.1, x.2.1, 0)

def pr : Nat → PTag → PSt → PRes
  | 0, _, _ => none
  | _ + 1, .nothing, st => some (true, st, 0)
  | f + 1, .bin l, st => if l = 11 then pr f .single st else (pr f (.bin (l + 1)) st).bind fun x => if x.1 then pr f (.loop l) x.2.1 else some (false, x.2.1, 0)
  | f + 1, .loop l, st => match st.rest with
    | [] => some (true, st, 0)
    | t :: r => if t.kind = 3 ∧ level t.text = l then (pr f (.bin (l + 1)) { st with rest := r }).bind fun x => if x.1 then pr f (.loop l) (pput x.2.1 7 t.text 0).2 else some (false, x.2.1, 0)
      else some (true, st, 0)
  | f + 1, .args n, st => if pnext st [41] then some (true, st, n) else pr f (.more n) st
  | f + 1, .more n, st => (pr f (.bin 1) st).bind fun x =>
      if x.1 then
        if pnext x.2.1 [44] then
          if n + 1 = 8 then some ((pfail x.2.1 10).1, (pfail x.2.1 10).2, n + 1) else pr f (.more (n + 1)) { x.2.1 with rest := x.2.1.rest.tail }
        else some (true, x.2.1, n + 1)
      else some (false, x.2.1, n)
  | f + 1, .single, st => match st.rest with
    | [] => some ((pfail st 4).1, (pfail st 4).2, 0)
    | t :: r =>
      if t.kind = 2 then some (true, (pput { st with rest := r } 1 [] (number t.text).1).2, 0)
      else if t.kind = 3 then
        if isUn t.text then pthen (pzero (pwithin (pr f (.bin 11)) st)) 6 t.text else pzero (pparens (pr f (.bin 1)) st)
      else if t.text = [108, 111, 97, 100] then pthen (pzero (pparens (pr f (.bin 1)) { st with rest := r })) 4 []
      else if t.text = [105, 110] then pthen (pzero (pparens (pr f .nothing) { st with rest := r })) 5 []
      else if nameT t.text then
        if pnext { st with rest := r } [40] then pthen (pparens (pr f (.args 0)) { st with rest := r }) 3 t.text
        else some (true, (pput { st with rest := r } 2 t.text 0).2, 0)
      else some ((pfail st 4).1, (pfail st 4).2, 0)

def parseE (l : List Tok) : List Opn × Int :=
  if printT l ≠ 0 then ([], printT l) else
  match pr (16 * l.length + 20) (.bin 1) ⟨l, 0, [], 0⟩ with
  | none => ([], 0)
  | some (b, s, _) =>
    let s := if b && !s.rest.isEmpty then (pfail s 4).2 else s
    if s.err ≠ 0 then ([], s.err) else (s.out, 0)
end Go.Proofs.Ytchdpjgncojhaaa
