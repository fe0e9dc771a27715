/- A part of the proofs of the laws of one package; see the law's own text, which comes last in 'order'. No conditions of its own. -/
import Derived.Test.YtpeamehplhpcjaaGreatDoorWC01
set_option linter.unusedVariables false
set_option linter.unusedSimpArgs false
namespace Go.Proofs.YtpeamehplhpcjaaGreatDoor
abbrev Bs := List UInt8
def letr (c : Int) : Bool := (decide (97 ≤ c) && decide (c ≤ 122)) || c == 95
def digt (c : Int) : Bool := decide (48 ≤ c) && decide (c ≤ 57)
def nameB (c : UInt8) : Bool := letr c.toNat || digt c.toNat
def digB (c : UInt8) : Bool := digt c.toNat
def kws : List Bs := [[108, 101, 116], [115, 101, 116], [105, 102], [101, 108, 115, 101], [119, 104, 105, 108, 101], [114, 101, 116, 117, 114, 110], [100, 111], [111, 117, 116], [115, 116, 111, 114, 101], [108, 111, 97, 100], [105, 110], [105, 110, 99, 108, 117, 100, 101], [100, 101, 102, 105, 110, 101], [117, 110, 100, 101, 102], [119, 104, 101, 110], [117, 110, 108, 101, 115, 115], [110, 111, 116, 101], [101, 120, 116, 101, 114, 110], [101, 120, 112, 111, 114, 116], [119, 101, 97, 107], [102, 110], [100, 97, 116, 97]]
def bad0 (s : Bs) : Bool := s.isEmpty || (decide (1 < s.length) && s.headD 0 == 48)
def tnum : Bs → Nat → Nat × Int
  | [], n => (n, 0)
  | c :: r, n => if 4294967295 < 10 * n + (c.toNat - 48) then (0, 3) else tnum r (10 * n + (c.toNat - 48))
def number (s : Bs) : Nat × Int := if bad0 s || !s.all digB then (0, 4) else tnum s 0
def syms2 : List Bs := [[124, 124], [38, 38], [61, 61], [33, 61], [60, 61], [62, 61], [60, 60], [62, 62]]
def syms1 : Bs := [124, 94, 38, 60, 62, 43, 45, 42, 47, 37, 126, 33, 40, 41, 44, 61]
def symT (s : Bs) : Bs := if decide (1 < s.length) && syms2.contains (s.take 2) then s.take 2 else if !s.isEmpty && syms1.contains (s.headD 0) then s.take 1 else []
def nextOf (sym : Bs → Bs) (s : Bs) : Tok × Int :=
  if letr (s.headD 0).toNat then
    let n := (s.takeWhile nameB).length
    if 32 < n then (⟨0, []⟩, 2) else (⟨1, s.take n⟩, 0)
  else if digt (s.headD 0).toNat then
    let n := (s.takeWhile digB).length
    if (number (s.take n)).2 ≠ 0 then (⟨0, []⟩, (number (s.take n)).2)
    else if decide (n < s.length) && letr ((s.drop n).headD 0).toNat then (⟨0, []⟩, 4) else (⟨2, s.take n⟩, 0)
  else if (sym s).isEmpty then (⟨0, []⟩, 4) else (⟨3, sym s⟩, 0)
def validT (t : Tok) : Bool := !t.text.isEmpty && ((nextOf symT t.text).2 == 0 && (nextOf symT t.text).1 == t)
def nameT (s : Bs) : Bool := !kws.contains s && validT ⟨1, s⟩
theorem next_letr (sym : Bs → Bs) {s : Bs} (h0 : 0 < s.length) (h : letr s[0].toNat = true) : nextOf sym s = if 32 < (s.takeWhile nameB).length then (⟨0, []⟩, 2) else (⟨1, s.take (s.takeWhile nameB).length⟩, 0) := by
  unfold nextOf
  rw [headD_get h0, if_pos h]
theorem next_digt (sym : Bs → Bs) {s : Bs} (h0 : 0 < s.length) (h : letr s[0].toNat = false) (h' : digt s[0].toNat = true) : nextOf sym s =
    (let n := (s.takeWhile digB).length
    if (number (s.take n)).2 ≠ 0 then (⟨0, []⟩, (number (s.take n)).2)
    else if decide (n < s.length) && letr ((s.drop n).headD 0).toNat then (⟨0, []⟩, 4) else (⟨2, s.take n⟩, 0)) := by
  unfold nextOf
  rw [headD_get h0, if_neg (by rw [h]; simp), if_pos h']
theorem next_symb (sym : Bs → Bs) {s : Bs} (h0 : 0 < s.length) (h : letr s[0].toNat = false) (h' : digt s[0].toNat = false) : nextOf sym s =
    if (sym s).isEmpty then (⟨0, []⟩, 4) else (⟨3, sym s⟩, 0) := by
  unfold nextOf
  rw [headD_get h0, if_neg (by rw [h]; simp), if_neg (by rw [h']; simp)]
theorem byte_le (c : UInt8) : (c.toNat : Int) ≤ 255 := by have := UInt8.toNat_lt c; omega
end Go.Proofs.YtpeamehplhpcjaaGreatDoor
namespace Go.Proofs.YtpeamehplhpcjaaGreatDoor
def splitS (c : UInt8) : Bs → List Bs
  | [] => [[]]
  | x :: r => if x = c then [] :: splitS c r else
      match splitS c r with
      | [] => [[x]]
      | y :: t => (x :: y) :: t
def partC (x : UInt8) : Bool := decide (97 ≤ x.toNat ∧ x.toNat ≤ 122) || decide (48 ≤ x.toNat ∧ x.toNat ≤ 57) || x == 46 || x == 95 || x == 45
def partS (s : Bs) : Bool := !s.isEmpty && decide (s.length ≤ 32) && s.headD 0 != 46 && s.headD 0 != 45 && s.all partC
def pathS (s : Bs) : Bool := decide (s.length ≤ 128) && decide ((splitS 47 s).length ≤ 8) && (splitS 47 s).all partS
structure Fil where
  path : Bs
  data : Bs
  deriving DecidableEq, Repr, Inhabited
structure Ln where
  path : Bs
  n : Int
  deriving DecidableEq, Repr, Inhabited
structure Spn where
  path : Bs
  fr : Int
  tu : Int
  deriving DecidableEq, Repr, Inhabited
structure Hd where
  word : Int
  mode : Int
  name : Bs
  params : List Bs
  n : Int
  deriving DecidableEq, Repr, Inhabited
structure Mac where
  name : Bs
  params : List Bs
  body : Spn
  deriving DecidableEq, Repr, Inhabited
structure Itm where
  name : Bs
  kind : Int
  mode : Int
  params : List Bs
  body : Spn
  deriving DecidableEq, Repr, Inhabited
structure Unt where
  path : Bs
  flags : List Bs
  macros : List Mac
  items : List Itm
  heads : List Spn
  files : List Bs
  deriving DecidableEq, Repr, Inhabited
structure Flt where
  err : Int
  pkg : Int
  step : Int
  ln : Ln
  deriving DecidableEq, Repr, Inhabited
def ltS : Bs → Bs → Bool
  | [], [] => false
  | [], _ :: _ => true
  | _ :: _, [] => false
  | a :: r, b :: t => if a = b then ltS r t else decide (a.toNat < b.toNat)
def underS (p d : Bs) : Bool := (d ++ [47]).isPrefixOf p
def checkT : List Fil → List Fil → Int
  | _, [] => 0
  | before, f :: r =>
    if !pathS f.path then 2 else if 65536 < f.data.length then 10
    else if (match before.getLast? with | some g => !ltS g.path f.path | none => false) then 5
    else if before.any (fun g => underS f.path g.path) then 6 else checkT (before ++ [f]) r
def treeS (t : List Fil) : Int := if 64 < t.length then 10 else checkT [] t
def findT (t : List Fil) (p : Bs) : Option Bs := (t.find? fun f => f.path == p).map (·.data)
def linesS (d : Bs) : List Bs × Int := if 65536 < d.length then ([], 10) else if 1024 ≤ d.count 10 then ([], 10) else (splitS 10 d, 0)
def digC (x : UInt8) : Bool := decide (48 ≤ x.toNat ∧ x.toNat ≤ 57)
def valN : Bs → Nat → Nat
  | [], n => n
  | x :: r, n => valN r (10 * n + (x.toNat - 48))
def numberS (s : Bs) : Int := if s.isEmpty || !s.all digC || (decide (1 < s.length) && s.headD 0 == 48) then -1 else if 9 < s.length then 1073741824 else valN s 0
def isRefS (s : Bs) : Bool :=
  match s with
  | 64 :: r => pathS r && r.contains 47
  | _ => pathS s
def wExport : Bs := [101, 120, 112, 111, 114, 116]
def wWeak : Bs := [119, 101, 97, 107]
def wFn : Bs := [102, 110]
def wData : Bs := [100, 97, 116, 97]
def words : List Bs := [[], [105, 110, 99, 108, 117, 100, 101], [100, 101, 102, 105, 110, 101], [117, 110, 100, 101, 102], [119, 104, 101, 110], [117, 110, 108, 101, 115, 115], [110, 111, 116, 101], [101, 120, 116, 101, 114, 110], wFn, wData]
def wordS (s : Bs) : Int := match words.findIdx? (· == s) with | some i => (i : Int) | none => -1
def modeS (w : List Bs) : Int × List Bs :=
  match w with
  | a :: b :: r => if (a = wExport ∨ a = wWeak) ∧ (b = wFn ∨ b = wData) then (if a = wWeak then 2 else 1, b :: r) else (0, w)
  | _ => (0, w)
def shapeS (w0 : List Bs) : Hd × Bool :=
  let m := modeS w0
  let w := m.2
  match w with
  | a :: b :: r =>
    let k := wordS a
    if k < 1 then (⟨0, m.1, [], [], 0⟩, false)
    else if k = 1 ∨ k = 3 ∨ k = 7 then (⟨k, m.1, b, [], 0⟩, r.isEmpty)
    else if k = 6 then (⟨k, m.1, [], [], numberS b⟩, r.isEmpty && decide (0 ≤ numberS b))
    else
      let l := (b :: r).getLastD []
      (⟨k, m.1, b, r.take (r.length - 1), numberS l⟩, !r.isEmpty && decide (0 ≤ numberS l) && (decide (k = 2 ∨ k = 8) || decide (r.length = 1)))
  | _ => (⟨0, m.1, [], [], 0⟩, false)
def dupS : List Bs → List Bs → Bool
  | _, [] => false
  | before, p :: r => before.contains p || dupS (before ++ [p]) r
def headE (h : Hd) : Int :=
  if h.word = 1 ∧ isRefS h.name = false then 2
  else if h.word ≠ 1 ∧ h.word ≠ 6 ∧ nameT h.name = false then 2
  else if h.params.any (fun p => !nameT p) then 2
  else if dupS [] h.params then 6
  else if 8 < h.params.length then 10
  else if 1024 < h.n then 3
  else 0
def noHd : Hd := ⟨0, 0, [], [], 0⟩
def parseH (s : Bs) : Hd × Int :=
  if s.isEmpty then (noHd, 0)
  else
    let w := splitS 32 s
    let h := shapeS w
    if !h.2 || w.contains [] then (noHd, 4)
    else if headE h.1 ≠ 0 then (noHd, headE h.1) else (h.1, 0)
def refS (name ref : Bs) : Bs × Int :=
  if name.contains 47 || !pathS name || !isRefS ref then ([], 2)
  else
    match ref with
    | 64 :: r => if pathS r then (r, 0) else ([], 2)
    | _ => if pathS (name ++ 47 :: ref) then (name ++ 47 :: ref, 0) else ([], 2)
section maps
variable {κ ν : Type} [DecidableEq κ]
def delM (m : List (κ × ν)) (k : κ) : List (κ × ν) := m.filter fun p => p.1 != k
def hasM (m : List (κ × ν)) (k : κ) : Bool := m.any fun p => p.1 == k
def getM (m : List (κ × ν)) (k : κ) : Option ν := (m.find? fun p => p.1 == k).map (·.2)
def setM : List (κ × ν) → κ → ν → List (κ × ν)
  | [], k, v => [(k, v)]
  | p :: r, k, v => if p.1 = k then (k, v) :: r else p :: setM r k v
end maps
structure Sst where
  flags : List (Bs × Bool)
  macros : List (Bs × Mac)
  items : List Itm
  heads : List (Ln × Bool)
  files : List (Bs × Bool)
  opn : List Bs
  count : Nat
  fault : Flt
  deriving DecidableEq, Repr, Inhabited
def flt0 : Flt := ⟨0, 0, 0, ⟨[], 0⟩⟩
def failS (s : Sst) (p : Bs) (n : Int) (e : Int) : Bool × Sst := (false, { s with fault := ⟨e, -1, -1, ⟨p, n⟩⟩ })
def definedS (s : Sst) (x : Bs) : Bool := hasM s.macros x || (getM s.flags x).getD false
abbrev Grp := Bs → List Bs → Nat → Nat → Sst → Bool × Sst
def fileS (g : Grp) (p : Bs) (lines : List Bs) (s : Sst) : Bool × Sst :=
  let r := g p lines 0 lines.length { s with files := setM s.files p true, opn := s.opn ++ [p] }
  (r.1, { r.2 with opn := r.2.opn.take (r.2.opn.length - 1) })
def inclS (t : List Fil) (nest : Option Grp) (p : Bs) (n : Int) (ref : Bs) (s : Sst) : Bool × Sst :=
  let q := refS ((splitS 47 p).headD []) ref
  if q.2 ≠ 0 then failS s p n q.2
  else if s.opn.contains q.1 then failS s p n 12
  else match findT t q.1 with
    | none => failS s p n 7
    | some d =>
      let l := linesS d
      if l.2 ≠ 0 then failS s p n l.2
      else match nest with
        | none => failS s p n 11
        | some g => fileS g q.1 l.1 s
def itemS (p : Bs) (n : Int) (x : Itm) (s : Sst) : Bool × Sst :=
  if s.items.any (fun y => y.name == x.name) then failS s p n 6
  else if s.items.length = 128 then failS s p n 10
  else (true, { s with items := s.items ++ [x] })
def spn0 : Spn := ⟨[], 0, 0⟩
def doHead (t : List Fil) (nest : Option Grp) (p : Bs) (lines : List Bs) (i : Nat) (h : Hd) (s : Sst) : Bool × Sst :=
  let body : Spn := ⟨p, (i : Int) + 1, (i : Int) + 1 + h.n⟩
  if h.word = 1 then inclS t nest p i h.name s
  else if h.word = 2 then
    if definedS s h.name then failS s p i 6
    else if s.macros.length = 128 then failS s p i 10
    else (true, { s with macros := setM s.macros h.name ⟨h.name, h.params, body⟩ })
  else if h.word = 3 then
    if definedS s h.name then (true, { s with macros := delM s.macros h.name, flags := delM s.flags h.name }) else failS s p i 7
  else if h.word = 4 ∨ h.word = 5 then
    if definedS s h.name != decide (h.word = 4) then (true, s)
    else match nest with
      | none => failS s p i 11
      | some g => g p lines (i + 1) (i + 1 + h.n.toNat) s
  else if h.word = 7 then itemS p i ⟨h.name, 3, 3, h.params, spn0⟩ s
  else if h.word = 8 then itemS p i ⟨h.name, 1, h.mode, h.params, body⟩ s
  else if h.word = 9 then itemS p i ⟨h.name, 2, h.mode, h.params, body⟩ s
  else (true, s)
def loopS (t : List Fil) (nest : Option Grp) (p : Bs) (lines : List Bs) (tu : Nat) : Nat → Nat → Sst → Bool × Sst
  | 0, _, s => (true, s)
  | f + 1, i, s =>
    if tu ≤ i then (true, s)
    else if s.count = 2048 then failS s p i 10
    else
      let s := { s with count := s.count + 1, heads := setM s.heads ⟨p, i⟩ true }
      let h := parseH (lines.getD i [])
      if h.2 ≠ 0 then failS s p i h.2
      else if (tu : Int) - i - 1 < h.1.n then failS s p i 13
      else
        let r := doHead t nest p lines i h.1 s
        if !r.1 then (false, r.2) else loopS t nest p lines tu f (i + 1 + h.1.n.toNat) r.2
def groupS (t : List Fil) : Nat → Grp
  | 0 => fun p lines fr tu s => loopS t none p lines tu (tu - fr) fr s
  | d + 1 => fun p lines fr tu s => loopS t (some (groupS t d)) p lines tu (tu - fr) fr s
def st0 (flags : List Bs) : Sst := ⟨flags.foldl (fun m f => setM m f true) [], [], [], [], [], [], 0, flt0⟩
def startS (t : List Fil) (p : Bs) (flags : List Bs) : List Bs × Ln × Int :=
  if treeS t ≠ 0 then ([], ⟨[], -1⟩, 1)
  else if !pathS p || !p.contains 47 || flags.any (fun f => !nameT f) then ([], ⟨[], -1⟩, 2)
  else if dupS [] flags then ([], ⟨[], -1⟩, 6)
  else if 128 < flags.length then ([], ⟨[], -1⟩, 10)
  else match findT t p with
    | none => ([], ⟨p, -1⟩, 7)
    | some d => ((linesS d).1, ⟨p, -1⟩, (linesS d).2)
def ltLn (a b : Ln) : Bool := ltS a.path b.path || (a.path == b.path && decide (a.n < b.n))
def insG {α : Type} (lt : α → α → Bool) (x : α) : List α → List α
  | [] => [x]
  | y :: r => if lt y x then y :: insG lt x r else if lt x y then x :: y :: r else y :: r
def sortG {α : Type} (lt : α → α → Bool) (l : List α) : List α := l.foldr (insG lt) []
def ltMac (a b : Mac) : Bool := ltS a.name b.name
def joinLn : List Spn → List Ln → List Spn
  | out, [] => out
  | out, l :: r =>
    match out.getLast? with
    | some k => if k.path = l.path ∧ k.tu = l.n then joinLn (out.dropLast ++ [⟨k.path, k.fr, k.tu + 1⟩]) r else joinLn (out ++ [⟨l.path, l.n, l.n + 1⟩]) r
    | none => joinLn [⟨l.path, l.n, l.n + 1⟩] r
def spansS (l : List Ln) : List Spn := joinLn [] (sortG ltLn l)
def unt0 : Unt := ⟨[], [], [], [], [], []⟩
def untS (p : Bs) (s : Sst) : Unt := ⟨p, sortG ltS (s.flags.map (·.1)), sortG ltMac (s.macros.map (·.2)), s.items, spansS (s.heads.map (·.1)), sortG ltS (s.files.map (·.1))⟩
def scanS (t : List Fil) (p : Bs) (flags : List Bs) : Unt × Flt :=
  let b := startS t p flags
  if b.2.2 ≠ 0 then (unt0, ⟨b.2.2, -1, -1, b.2.1⟩)
  else
    let r := fileS (groupS t 24) p b.1 (st0 flags)
    if !r.1 then (unt0, r.2.fault) else (untS p r.2, flt0)
def itm0 : Itm := ⟨[], 0, 0, [], spn0⟩
def findI (u : Unt) (x : Bs) : Itm × Bool := match u.items.find? (fun y => y.name == x) with | some y => (y, true) | none => (itm0, false)
end Go.Proofs.YtpeamehplhpcjaaGreatDoor
