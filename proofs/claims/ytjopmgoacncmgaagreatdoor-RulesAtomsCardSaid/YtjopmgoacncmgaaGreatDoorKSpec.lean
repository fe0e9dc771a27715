/- Rules: what the functions of the package rules compute, as plain functions on lists of bytes; no program in sight. -/
import Derived.Test.YtjopmgoacncmgaaGreatDoorKB
set_option linter.unusedVariables false
set_option linter.unusedSimpArgs false
namespace Go.Proofs.YtjopmgoacncmgaaGreatDoor

abbrev Bs := List UInt8
structure Arg where
  kind : Int
  text : Bs
  num : Int
  deriving DecidableEq, Repr, Inhabited
structure Atm where
  name : Bs
  args : List Arg
  deriving DecidableEq, Repr, Inhabited
structure Ltl where
  neg : Bool
  op : Bs
  atom : Atm
  deriving DecidableEq, Repr, Inhabited
structure Rul where
  head : Atm
  body : List Ltl
  deriving DecidableEq, Repr, Inhabited

def lowI (c : Int) : Bool := decide (97 ≤ c) && decide (c ≤ 122)
def uppI (c : Int) : Bool := decide (65 ≤ c) && decide (c ≤ 90)
def digI (c : Int) : Bool := decide (48 ≤ c) && decide (c ≤ 57)
def lowB (c : UInt8) : Bool := lowI c.toNat
def uppB (c : UInt8) : Bool := uppI c.toNat
def digB (c : UInt8) : Bool := digI c.toNat
/-- The bytes behind the first one of a predicate; of a variable, a word. -/
def preI (c : Int) : Bool := lowI c || digI c || c == 95
def varI (c : Int) : Bool := lowI c || uppI c || digI c || c == 95
def preB (c : UInt8) : Bool := preI c.toNat
def varB (c : UInt8) : Bool := varI c.toNat
def eachS (s : Bs) (f o : Int → Bool) : Bool := decide (1 ≤ s.length) && decide (s.length ≤ 32) && f (s.headD 0).toNat && s.all fun c => o c.toNat
def sNot : Bs := [110, 111, 116]
def predS (s : Bs) : Bool := s != sNot && eachS s lowI preI
def varS (s : Bs) : Bool := eachS s uppI varI
def conI (c : Int) : Bool := decide (32 ≤ c) && decide (c ≤ 126) && c != 34 && c != 92
def conS (s : Bs) : Bool := decide (s.length ≤ 128) && s.all fun c => conI c.toNat
def formedS (a : Arg) : Bool :=
  if a.kind = 1 then a.num == 0 && varS a.text
  else if a.kind = 2 then a.num == 0 && conS a.text
  else if a.kind = 3 then a.text.isEmpty && decide (-1000000000 ≤ a.num) && decide (a.num ≤ 1000000000)
  else false
def argsS (l : List Arg) : Bool := l.all formedS
def atomS (a : Atm) : Bool := predS a.name && decide (a.args.length ≤ 6) && argsS a.args
def compsS (l : Ltl) : Bool := !l.op.isEmpty
def opsL : List Bs := [[61], [33, 61], [60], [60, 61]]
def ltlS (l : Ltl) : Bool := if !compsS l then atomS l.atom else opsL.contains l.op && !l.neg && l.atom.name.isEmpty && l.atom.args.length == 2 && argsS l.atom.args
def addV (out : List Bs) : List Arg → List Bs
  | [] => out
  | a :: r => addV (if a.kind = 1 ∧ out.contains a.text = false then out ++ [a.text] else out) r
def addB (out : List Bs) : List Ltl → List Bs
  | [] => out
  | l :: r => addB (addV out l.atom.args) r
def varsS (r : Rul) : List Bs := addB (addV [] r.head.args) r.body
def ruleS (r : Rul) : Bool := atomS r.head && decide (r.body.length ≤ 4) && r.body.all ltlS && decide ((varsS r).length ≤ 6)

/- Printing. -/
def natDig : Nat → Nat → Bs
  | 0, _ => []
  | f + 1, n => if n < 10 then [(48 + n).toUInt8] else natDig f (n / 10) ++ [(48 + n % 10).toUInt8]
def itoaS (n : Int) : Bs := if n < 0 then 45 :: natDig 20 n.natAbs else natDig 20 n.natAbs
def prArg (a : Arg) : Bs := if a.kind = 3 then itoaS a.num else if a.kind = 2 then [34] ++ a.text ++ [34] else a.text
def joinS : List Bs → Bs
  | [] => []
  | [a] => a
  | a :: b :: r => a ++ [44, 32] ++ joinS (b :: r)
def prAtom (a : Atm) : Bs := if a.args.length = 0 then a.name else a.name ++ [40] ++ joinS (a.args.map prArg) ++ [41]
def prLtl (l : Ltl) : Bs :=
  if compsS l then prArg (l.atom.args.getD 0 default) ++ [32] ++ l.op ++ [32] ++ prArg (l.atom.args.getD 1 default)
  else if l.neg then sNot ++ [32] ++ prAtom l.atom else prAtom l.atom
def prBody (out : Bs) : List Ltl → Bool → Bs
  | [], _ => out
  | l :: r, first => prBody (out ++ ((if first then [32, 58, 45, 32] else [44, 32]) ++ prLtl l)) r false
def prRules (out : Bs) : List Rul → Bs
  | [] => out
  | r :: t => prRules (prBody (out ++ prAtom r.head) r.body true ++ [46, 10]) t
def printS (l : List Rul) : Bs × Int := if 64 < l.length || !l.all ruleS then ([], 1) else (prRules [] l, 0)
def printAtomS (a : Atm) : Bs × Int := if !atomS a then ([], 1) else (prAtom a, 0)

/- Tokens. -/
def syms : List Bs := [[58, 45], [33, 61], [60, 61], [40], [41], [44], [46], [61], [60]]
def symS : List Bs → Bs → Nat
  | [], _ => 0
  | t :: r, s => if t.isPrefixOf s then t.length else symS r s
def spanS (p : UInt8 → Bool) (s : Bs) : Nat := (s.takeWhile p).length
def lenS (s : Bs) : Nat :=
  let c := s.headD 0; let r := s.drop 1
  if lowB c || uppB c then 1 + spanS varB r
  else if digB c || (c == 45 && decide (1 < s.length) && digB (r.headD 0)) then 1 + spanS digB r
  else if c == 34 then (if 1 + spanS (fun c => c != 34) r = s.length then 0 else 1 + spanS (fun c => c != 34) r + 1)
  else symS syms s
def trimS (s : Bs) : Bs := s.dropWhile (· == 32)
/-- The loop of tokens; s: trimmed. -/
def tokGo : Nat → Bs → List Bs → List Bs × Bool
  | 0, _, out => (out, true)
  | f + 1, s, out => if s.isEmpty then (out, true) else if lenS s = 0 then ([], false) else tokGo f (trimS (s.drop (lenS s))) (out ++ [s.take (lenS s)])
def tokensS (s : Bs) : List Bs × Bool := tokGo (s.length + 1) (trimS s) []

/- The parser: the tokens that are left, and whether something was wrong. -/
abbrev KSt := List Bs × Bool
def peekS (p : KSt) : Bs := p.1.headD []
def nextS (p : KSt) : Bs × KSt := if (peekS p).isEmpty then ([], (p.1, true)) else (peekS p, (p.1.drop 1, p.2))
def takeS (p : KSt) (s : Bs) : Bool × KSt := if peekS p != s then (false, p) else (true, (nextS p).2)
/-- The number that a text without superfluous zeros spells. -/
def digVal (n : Nat) : Bs → Option Nat
  | [] => some n
  | c :: r => if digB c then digVal (10 * n + (c.toNat - 48)) r else none
def numS (s : Bs) : Option Int :=
  let d := if s.headD 0 = 45 then s.drop 1 else s
  match digVal 0 d with
  | none => none
  | some n => let v : Int := if s.headD 0 = 45 then -(n : Int) else n
    if -9223372036854775808 ≤ v ∧ v ≤ 9223372036854775807 ∧ itoaS v = s then some v else none
def argOf (s : Bs) : Arg :=
  if s.isEmpty then default
  else if s.headD 0 = 34 then ⟨2, (s.drop 1).take (s.length - 2), 0⟩
  else if uppB (s.headD 0) then ⟨1, s, 0⟩
  else match numS s with | some n => ⟨3, [], n⟩ | none => default
def argP (p : KSt) : Arg × KSt :=
  let x := nextS p
  (argOf x.1, (x.2.1, x.2.2 || !formedS (argOf x.1)))
def moreP : Nat → KSt → List Arg → List Arg × KSt
  | 0, p, out => (out, p)
  | f + 1, p, out => if !p.2 && (takeS p [44]).1 then (let a := argP (takeS p [44]).2; moreP f a.2 (out ++ [a.1])) else (out, p)
def atomP (p : KSt) : Atm × KSt :=
  let x := nextS p
  let t := takeS x.2 [40]
  if t.1 then
    let a := argP t.2
    let m := moreP (t.2.1.length + 1) a.2 [a.1]
    let c := if m.2.2 then (true, m.2) else (!(takeS m.2 [41]).1, (takeS m.2 [41]).2)
    let q : KSt := (c.2.1, m.2.2 || c.1)
    let r : Atm := ⟨x.1, m.1⟩
    (r, (q.1, q.2 || !atomS r))
  else (⟨x.1, []⟩, (t.2.1, t.2.2 || !atomS ⟨x.1, []⟩))
def ltlP (p : KSt) : Ltl × KSt :=
  let s := peekS p
  if s = sNot then (let a := atomP (nextS p).2; (⟨true, [], a.1⟩, a.2))
  else if !s.isEmpty && lowB (s.headD 0) then (let a := atomP p; (⟨false, [], a.1⟩, a.2))
  else
    let a := argP p
    let o := nextS a.2
    let b := argP o.2
    let l : Ltl := ⟨false, o.1, ⟨[], [a.1, b.1]⟩⟩
    (l, (b.2.1, b.2.2 || (o.1.isEmpty || !ltlS l)))
def moreL : Nat → KSt → List Ltl → List Ltl × KSt
  | 0, p, out => (out, p)
  | f + 1, p, out => if !p.2 && (takeS p [44]).1 then (let a := ltlP (takeS p [44]).2; moreL f a.2 (out ++ [a.1])) else (out, p)
def ruleP (p : KSt) : Rul × Bool :=
  let h := atomP p
  let t := takeS h.2 [58, 45]
  let m : List Ltl × KSt := if t.1 then (let a := ltlP t.2; moreL (t.2.1.length + 1) a.2 [a.1]) else ([], t.2)
  let r : Rul := ⟨h.1, m.1⟩
  let d := takeS m.2 [46]
  let ok := d.1 && d.2.1.isEmpty && !d.2.2
  (r, ok && ruleS r)
def splitGo (cur : Bs) : Bs → List Bs
  | [] => [cur]
  | c :: r => if c == 10 then cur :: splitGo [] r else splitGo (cur ++ [c]) r
def splitS (s : Bs) : List Bs := splitGo [] s
def parseGo : List Bs → Nat → List Rul → List Rul × Int × Int
  | [], _, out => (out, 0, 0)
  | line :: r, i, out =>
    if (trimS line).isEmpty || (trimS line).headD 0 == 37 then parseGo r (i + 1) out
    else
      let t := tokensS line
      let x := ruleP (t.1, false)
      if !t.2 || !x.2 then ([], (i : Int) + 1, 4)
      else if out.length = 64 then ([], (i : Int) + 1, 10)
      else parseGo r (i + 1) (out ++ [x.1])
def parseS (s : Bs) : List Rul × Int × Int := if 65536 < s.length then ([], 0, 10) else parseGo (splitS s) 0 []
def parseAtomS (s : Bs) : Atm × Int :=
  let t := tokensS s
  if decide (4096 < s.length) || !t.2 then (default, 4)
  else
    let a := atomP (t.1, false)
    if a.2.2 || decide (0 < a.2.1.length) then (default, 4) else (a.1, 0)

/- Checks. -/
def posS (l : Ltl) : Bool := !compsS l && !l.neg
def boundS (r : Rul) : List Bs := addB [] (r.body.filter posS)
def safeS (r : Rul) : Bool := (varsS r).all fun s => (boundS r).contains s
def atomsS (r : Rul) : List Atm := r.head :: (r.body.filter fun l => !compsS l).map (·.atom)
def firstBad : List Rul → Int → Option (Int × Int)
  | [], _ => none
  | r :: t, i => if !ruleS r then some (i, 1) else if !safeS r then some (i, 8) else firstBad t (i + 1)
abbrev KMap := List (Bs × Int)
def getK (m : KMap) (s : Bs) : Option Int := (m.find? fun p => p.1 == s).map (·.2)
def setK : KMap → Bs → Int → KMap
  | [], s, v => [(s, v)]
  | p :: r, s, v => if p.1 == s then (s, v) :: r else p :: setK r s v
def arGo (m : KMap) : List Atm → Option KMap
  | [] => some m
  | a :: r => match getK m a.name with
    | some n => if n ≠ a.args.length then none else arGo (setK m a.name a.args.length) r
    | none => arGo (setK m a.name a.args.length) r
def arRules (m : KMap) : List Rul → Int → Option Int
  | [], _ => none
  | r :: t, i => match arGo m (atomsS r) with | none => some i | some m' => arRules m' t (i + 1)
def check0S (l : List Rul) : Int × Int :=
  if 64 < l.length then (-1, 10) else match firstBad l 0 with
  | some e => e
  | none => match arRules [] l 0 with | some i => (i, 9) | none => (-1, 0)
end Go.Proofs.YtjopmgoacncmgaaGreatDoor
