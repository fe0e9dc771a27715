/- Rules: levels, Check, Strata of the program; strata, Check, Strata of the reference, as plain functions; no program in sight. -/
import Derived.Test.YtjopmgoacncmgaaGreatDoorKSpec
set_option linter.unusedVariables false
set_option linter.unusedSimpArgs false
namespace Go.Proofs.YtjopmgoacncmgaaGreatDoor

def getV (m : KMap) (s : Bs) : Int := (getK m s).getD 0
def initA (m : KMap) : List Atm → KMap
  | [] => m
  | a :: r => initA (setK m a.name 0) r
def initR (m : KMap) : List Rul → KMap
  | [] => m
  | r :: t => initR (initA m (atomsS r)) t
def lvX (h : Bs) (m : KMap) (again : Bool) : List Ltl → Option (KMap × Bool)
  | [] => some (m, again)
  | x :: t =>
    if compsS x then lvX h m again t
    else
      let n := getV m x.atom.name + (if x.neg then 1 else 0)
      let c : KMap × Bool := if getV m h < n then (setK m h n, true) else (m, again)
      if n > c.1.length then none else lvX h c.1 c.2 t
def lvR (m : KMap) (again : Bool) : List Rul → Option (KMap × Bool)
  | [] => some (m, again)
  | r :: t => match lvX r.head.name m again r.body with
    | none => none
    | some (m', a') => lvR m' a' t
def lvGo (l : List Rul) : Nat → KMap → Option KMap
  | 0, _ => none
  | f + 1, m => match lvR m false l with
    | none => none
    | some (m', again) => if again then lvGo l f m' else some m'
def lvFuel (m : KMap) : Nat := m.length * (m.length + 1) + 2
def levelsS (l : List Rul) : Option KMap := lvGo l (lvFuel (initR [] l)) (initR [] l)
def checkS53 (l : List Rul) : Int × Int :=
  let c := check0S l
  if c.2 ≠ 0 then c else match levelsS l with | none => (-1, 12) | some _ => (-1, 0)
/-- Strings in the order of their bytes. -/
def ltB : Bs → Bs → Bool
  | [], [] => false
  | [], _ :: _ => true
  | _ :: _, [] => false
  | a :: r, b :: t => if a = b then ltB r t else decide (a.toNat < b.toNat)
def insB (s : Bs) : List Bs → List Bs
  | [] => [s]
  | a :: r => if ltB a s then a :: insB s r else if a == s then a :: r else s :: a :: r
def sortB : List Bs → List Bs
  | [] => []
  | a :: r => insB a (sortB r)
def strGo (m : KMap) : List (List Bs) → List Bs → List (List Bs)
  | out, [] => out
  | out, s :: r =>
    let k := (getV m s).toNat
    let o := out ++ List.replicate (k + 1 - out.length) []
    strGo m (o.set k (o.getD k [] ++ [s])) r
def strataS (l : List Rul) : List (List Bs) × Int × Int :=
  let c := checkS53 l
  if c.2 ≠ 0 then ([], c.1, c.2) else match levelsS l with
    | none => ([], -1, 0)
    | some m => (strGo m [] (sortB (m.map (·.1))), -1, 0)

/- The reference. -/
def seenBad (seen : List Atm) (a : Atm) : Bool := seen.any fun b => b.name == a.name && b.args.length != a.args.length
def rarA (seen : List Atm) : List Atm → Option (List Atm)
  | [] => some seen
  | a :: r => if seenBad seen a then none else rarA (seen ++ [a]) r
def rarR (seen : List Atm) : List Rul → Int → Option Int
  | [], _ => none
  | r :: t, i => match rarA seen (atomsS r) with | none => some i | some s' => rarR s' t (i + 1)
/-- The index of a text in a list. -/
def atS (s : Bs) : List Bs → Nat → Int
  | [], _ => -1
  | a :: r, i => if a == s then (i : Int) else atS s r (i + 1)
def insNames (names : List Bs) : List Rul → List Bs
  | [] => names
  | r :: t => insNames ((atomsS r).foldl (fun n a => insB a.name n) names) t
def rlX (names : List Bs) (h : Nat) (lv : List Int) (ch : Bool) : List Ltl → Option (List Int × Bool)
  | [] => some (lv, ch)
  | x :: t =>
    if compsS x then rlX names h lv ch t
    else
      let n := lv.getD (atS x.atom.name names 0).toNat 0 + (if x.neg then 1 else 0)
      if n > names.length then none
      else if lv.getD h 0 < n then rlX names h (lv.set h n) true t else rlX names h lv ch t
def rlR (names : List Bs) (lv : List Int) (ch : Bool) : List Rul → Option (List Int × Bool)
  | [] => some (lv, ch)
  | r :: t => match rlX names (atS r.head.name names 0).toNat lv ch r.body with
    | none => none
    | some (lv', c') => rlR names lv' c' t
def rlGo (names : List Bs) (l : List Rul) : Nat → List Int → Option (List Int)
  | 0, _ => none
  | f + 1, lv => match rlR names lv false l with
    | none => none
    | some (lv', ch) => if ch then rlGo names l f lv' else some lv'
/-- The names of a level. -/
def oneL (lv : List Int) (n : Int) : List Bs → Nat → List Bs
  | [], _ => []
  | s :: r, i => if lv.getD i 0 = n then s :: oneL lv n r (i + 1) else oneL lv n r (i + 1)
def outL (names : List Bs) (lv : List Int) : Nat → Nat → List (List Bs)
  | 0, _ => []
  | f + 1, n => if (oneL lv n names 0).isEmpty then outL names lv f (n + 1) else oneL lv n names 0 :: outL names lv f (n + 1)
def rstrata (l : List Rul) : Option (List (List Bs)) :=
  let names := insNames [] l
  match rlGo names l (names.length * (names.length + 1) + 2) (List.replicate names.length 0) with
  | none => none
  | some lv => some (outL names lv (names.length + 1) 0)
def rcheckS (l : List Rul) : Int × Int :=
  if 64 < l.length then (-1, 10) else match firstBad l 0 with
  | some e => e
  | none => match rarR [] l 0 with
    | some i => (i, 9)
    | none => match rstrata l with | none => (-1, 12) | some _ => (-1, 0)
def rstrataS (l : List Rul) : List (List Bs) × Int × Int :=
  let c := rcheckS l
  if c.2 ≠ 0 then ([], c.1, c.2) else match rstrata l with
    | none => ([], -1, 0)
    | some s => (s, -1, 0)
end Go.Proofs.YtjopmgoacncmgaaGreatDoor
