/- A part of the proofs of the laws of one package; see the law's own text, which comes last in 'order'. No conditions of its own. -/
import Derived.WideKeyEntry
import Derived.Maps.OwnOps
import Derived.Maps.OwnSet
import Derived.DeepKeys4
import Derived.Test.YtpeamehplhpcjaaGreatDoorZ01
import Derived.Test.YtpeamehplhpcjaaGreatDoorZ02
set_option linter.unusedVariables false
set_option linter.unusedSimpArgs false
namespace Go.Proofs.YtpeamehplhpcjaaGreatDoor
abbrev Bs := List UInt8
def letr (c : Int) : Bool := (decide (97 ≤ c) && decide (c ≤ 122)) || c == 95
def digt (c : Int) : Bool := decide (48 ≤ c) && decide (c ≤ 57)
def nameB (c : UInt8) : Bool := letr c.toNat || digt c.toNat
def digB (c : UInt8) : Bool := digt c.toNat
def form (s : Bs) : Bool := decide (1 ≤ s.length) && decide (s.length ≤ 32) && letr (s.headD 0).toNat && s.all nameB
def kws : List Bs := [[108, 101, 116], [115, 101, 116], [105, 102], [101, 108, 115, 101], [119, 104, 105, 108, 101], [114, 101, 116, 117, 114, 110], [100, 111], [111, 117, 116], [115, 116, 111, 114, 101], [108, 111, 97, 100], [105, 110], [105, 110, 99, 108, 117, 100, 101], [100, 101, 102, 105, 110, 101], [117, 110, 100, 101, 102], [119, 104, 101, 110], [117, 110, 108, 101, 115, 115], [110, 111, 116, 101], [101, 120, 116, 101, 114, 110], [101, 120, 112, 111, 114, 116], [119, 101, 97, 107], [102, 110], [100, 97, 116, 97]]
def name5 (s : Bs) : Bool := form s && !kws.contains s
def bad0 (s : Bs) : Bool := s.isEmpty || (decide (1 < s.length) && s.headD 0 == 48)
def tnum : Bs → Nat → Nat × Int
  | [], n => (n, 0)
  | c :: r, n => if 4294967295 < 10 * n + (c.toNat - 48) then (0, 3) else tnum r (10 * n + (c.toNat - 48))
def number (s : Bs) : Nat × Int := if bad0 s || !s.all digB then (0, 4) else tnum s 0
def syms2 : List Bs := [[124, 124], [38, 38], [61, 61], [33, 61], [60, 61], [62, 61], [60, 60], [62, 62]]
def syms1 : Bs := [124, 94, 38, 60, 62, 43, 45, 42, 47, 37, 126, 33, 40, 41, 44, 61]
def symT (s : Bs) : Bs := if decide (1 < s.length) && syms2.contains (s.take 2) then s.take 2 else if !s.isEmpty && syms1.contains (s.headD 0) then s.take 1 else []
def nextOf (sym : Bs → Bs) (s : Bs) : Tok × Int :=
  if letr (s.headD 0).toNat then
    let n := (s.takeWhile nameB).length
    if 32 < n then (⟨0, []⟩, 2) else (⟨1, s.take n⟩, 0)
  else if digt (s.headD 0).toNat then
    let n := (s.takeWhile digB).length
    if (number (s.take n)).2 ≠ 0 then (⟨0, []⟩, (number (s.take n)).2)
    else if decide (n < s.length) && letr ((s.drop n).headD 0).toNat then (⟨0, []⟩, 4) else (⟨2, s.take n⟩, 0)
  else if (sym s).isEmpty then (⟨0, []⟩, 4) else (⟨3, sym s⟩, 0)
def validT (t : Tok) : Bool := !t.text.isEmpty && ((nextOf symT t.text).2 == 0 && (nextOf symT t.text).1 == t)
def nameT (s : Bs) : Bool := !kws.contains s && validT ⟨1, s⟩
theorem tw_le {p : UInt8 → Bool} {s : Bs} : (s.takeWhile p).length ≤ s.length := (List.takeWhile_sublist p).length_le
theorem next_letr (sym : Bs → Bs) {s : Bs} (h0 : 0 < s.length) (h : letr s[0].toNat = true) : nextOf sym s = if 32 < (s.takeWhile nameB).length then (⟨0, []⟩, 2) else (⟨1, s.take (s.takeWhile nameB).length⟩, 0) := by
  unfold nextOf
  rw [headD_get h0, if_pos h]
theorem next_digt (sym : Bs → Bs) {s : Bs} (h0 : 0 < s.length) (h : letr s[0].toNat = false) (h' : digt s[0].toNat = true) : nextOf sym s =
    (let n := (s.takeWhile digB).length
    if (number (s.take n)).2 ≠ 0 then (⟨0, []⟩, (number (s.take n)).2)
    else if decide (n < s.length) && letr ((s.drop n).headD 0).toNat then (⟨0, []⟩, 4) else (⟨2, s.take n⟩, 0)) := by
  unfold nextOf
  rw [headD_get h0, if_neg (by rw [h]; simp), if_pos h']
theorem next_symb (sym : Bs → Bs) {s : Bs} (h0 : 0 < s.length) (h : letr s[0].toNat = false) (h' : digt s[0].toNat = false) : nextOf sym s =
    if (sym s).isEmpty then (⟨0, []⟩, 4) else (⟨3, sym s⟩, 0) := by
  unfold nextOf
  rw [headD_get h0, if_neg (by rw [h]; simp), if_neg (by rw [h']; simp)]
theorem byte_le (c : UInt8) : (c.toNat : Int) ≤ 255 := by have := UInt8.toNat_lt c; omega
end Go.Proofs.YtpeamehplhpcjaaGreatDoor
namespace Go.Proofs.YtpeamehplhpcjaaGreatDoor
def splitS (c : UInt8) : Bs → List Bs
  | [] => [[]]
  | x :: r => if x = c then [] :: splitS c r else
      match splitS c r with
      | [] => [[x]]
      | y :: t => (x :: y) :: t
def partC (x : UInt8) : Bool := decide (97 ≤ x.toNat ∧ x.toNat ≤ 122) || decide (48 ≤ x.toNat ∧ x.toNat ≤ 57) || x == 46 || x == 95 || x == 45
def partS (s : Bs) : Bool := !s.isEmpty && decide (s.length ≤ 32) && s.headD 0 != 46 && s.headD 0 != 45 && s.all partC
def pathS (s : Bs) : Bool := decide (s.length ≤ 128) && decide ((splitS 47 s).length ≤ 8) && (splitS 47 s).all partS
structure Fil where
  path : Bs
  data : Bs
  deriving DecidableEq, Repr, Inhabited
structure Ln where
  path : Bs
  n : Int
  deriving DecidableEq, Repr, Inhabited
structure Spn where
  path : Bs
  fr : Int
  tu : Int
  deriving DecidableEq, Repr, Inhabited
structure Hd where
  word : Int
  mode : Int
  name : Bs
  params : List Bs
  n : Int
  deriving DecidableEq, Repr, Inhabited
structure Mac where
  name : Bs
  params : List Bs
  body : Spn
  deriving DecidableEq, Repr, Inhabited
structure Itm where
  name : Bs
  kind : Int
  mode : Int
  params : List Bs
  body : Spn
  deriving DecidableEq, Repr, Inhabited
structure Unt where
  path : Bs
  flags : List Bs
  macros : List Mac
  items : List Itm
  heads : List Spn
  files : List Bs
  deriving DecidableEq, Repr, Inhabited
structure Flt where
  err : Int
  pkg : Int
  step : Int
  ln : Ln
  deriving DecidableEq, Repr, Inhabited
def ltS : Bs → Bs → Bool
  | [], [] => false
  | [], _ :: _ => true
  | _ :: _, [] => false
  | a :: r, b :: t => if a = b then ltS r t else decide (a.toNat < b.toNat)
def underS (p d : Bs) : Bool := (d ++ [47]).isPrefixOf p
def checkT : List Fil → List Fil → Int
  | _, [] => 0
  | before, f :: r =>
    if !pathS f.path then 2 else if 65536 < f.data.length then 10
    else if (match before.getLast? with | some g => !ltS g.path f.path | none => false) then 5
    else if before.any (fun g => underS f.path g.path) then 6 else checkT (before ++ [f]) r
def treeS (t : List Fil) : Int := if 64 < t.length then 10 else checkT [] t
def findT (t : List Fil) (p : Bs) : Option Bs := (t.find? fun f => f.path == p).map (·.data)
def linesS (d : Bs) : List Bs × Int := if 65536 < d.length then ([], 10) else if 1024 ≤ d.count 10 then ([], 10) else (splitS 10 d, 0)
def digC (x : UInt8) : Bool := decide (48 ≤ x.toNat ∧ x.toNat ≤ 57)
def valN : Bs → Nat → Nat
  | [], n => n
  | x :: r, n => valN r (10 * n + (x.toNat - 48))
def numberS (s : Bs) : Int := if s.isEmpty || !s.all digC || (decide (1 < s.length) && s.headD 0 == 48) then -1 else if 9 < s.length then 1073741824 else valN s 0
def isRefS (s : Bs) : Bool :=
  match s with
  | 64 :: r => pathS r && r.contains 47
  | _ => pathS s
def wExport : Bs := [101, 120, 112, 111, 114, 116]
def wWeak : Bs := [119, 101, 97, 107]
def wFn : Bs := [102, 110]
def wData : Bs := [100, 97, 116, 97]
def words : List Bs := [[], [105, 110, 99, 108, 117, 100, 101], [100, 101, 102, 105, 110, 101], [117, 110, 100, 101, 102], [119, 104, 101, 110], [117, 110, 108, 101, 115, 115], [110, 111, 116, 101], [101, 120, 116, 101, 114, 110], wFn, wData]
def wordS (s : Bs) : Int := match words.findIdx? (· == s) with | some i => (i : Int) | none => -1
def modeS (w : List Bs) : Int × List Bs :=
  match w with
  | a :: b :: r => if (a = wExport ∨ a = wWeak) ∧ (b = wFn ∨ b = wData) then (if a = wWeak then 2 else 1, b :: r) else (0, w)
  | _ => (0, w)
def shapeS (w0 : List Bs) : Hd × Bool :=
  let m := modeS w0
  let w := m.2
  match w with
  | a :: b :: r =>
    let k := wordS a
    if k < 1 then (⟨0, m.1, [], [], 0⟩, false)
    else if k = 1 ∨ k = 3 ∨ k = 7 then (⟨k, m.1, b, [], 0⟩, r.isEmpty)
    else if k = 6 then (⟨k, m.1, [], [], numberS b⟩, r.isEmpty && decide (0 ≤ numberS b))
    else
      let l := (b :: r).getLastD []
      (⟨k, m.1, b, r.take (r.length - 1), numberS l⟩, !r.isEmpty && decide (0 ≤ numberS l) && (decide (k = 2 ∨ k = 8) || decide (r.length = 1)))
  | _ => (⟨0, m.1, [], [], 0⟩, false)
def dupS : List Bs → List Bs → Bool
  | _, [] => false
  | before, p :: r => before.contains p || dupS (before ++ [p]) r
def headE (h : Hd) : Int :=
  if h.word = 1 ∧ isRefS h.name = false then 2
  else if h.word ≠ 1 ∧ h.word ≠ 6 ∧ nameT h.name = false then 2
  else if h.params.any (fun p => !nameT p) then 2
  else if dupS [] h.params then 6
  else if 8 < h.params.length then 10
  else if 1024 < h.n then 3
  else 0
def noHd : Hd := ⟨0, 0, [], [], 0⟩
def parseH (s : Bs) : Hd × Int :=
  if s.isEmpty then (noHd, 0)
  else
    let w := splitS 32 s
    let h := shapeS w
    if !h.2 || w.contains [] then (noHd, 4)
    else if headE h.1 ≠ 0 then (noHd, headE h.1) else (h.1, 0)
def refS (name ref : Bs) : Bs × Int :=
  if name.contains 47 || !pathS name || !isRefS ref then ([], 2)
  else
    match ref with
    | 64 :: r => if pathS r then (r, 0) else ([], 2)
    | _ => if pathS (name ++ 47 :: ref) then (name ++ 47 :: ref, 0) else ([], 2)
section maps
variable {κ ν : Type} [DecidableEq κ]
def delM (m : List (κ × ν)) (k : κ) : List (κ × ν) := m.filter fun p => p.1 != k
def hasM (m : List (κ × ν)) (k : κ) : Bool := m.any fun p => p.1 == k
def getM (m : List (κ × ν)) (k : κ) : Option ν := (m.find? fun p => p.1 == k).map (·.2)
def setM : List (κ × ν) → κ → ν → List (κ × ν)
  | [], k, v => [(k, v)]
  | p :: r, k, v => if p.1 = k then (k, v) :: r else p :: setM r k v
end maps
structure Sst where
  flags : List (Bs × Bool)
  macros : List (Bs × Mac)
  items : List Itm
  heads : List (Ln × Bool)
  files : List (Bs × Bool)
  opn : List Bs
  count : Nat
  fault : Flt
  deriving DecidableEq, Repr, Inhabited
def flt0 : Flt := ⟨0, 0, 0, ⟨[], 0⟩⟩
def failS (s : Sst) (p : Bs) (n : Int) (e : Int) : Bool × Sst := (false, { s with fault := ⟨e, -1, -1, ⟨p, n⟩⟩ })
def definedS (s : Sst) (x : Bs) : Bool := hasM s.macros x || (getM s.flags x).getD false
abbrev Grp := Bs → List Bs → Nat → Nat → Sst → Bool × Sst
def fileS (g : Grp) (p : Bs) (lines : List Bs) (s : Sst) : Bool × Sst :=
  let r := g p lines 0 lines.length { s with files := setM s.files p true, opn := s.opn ++ [p] }
  (r.1, { r.2 with opn := r.2.opn.take (r.2.opn.length - 1) })
def inclS (t : List Fil) (nest : Option Grp) (p : Bs) (n : Int) (ref : Bs) (s : Sst) : Bool × Sst :=
  let q := refS ((splitS 47 p).headD []) ref
  if q.2 ≠ 0 then failS s p n q.2
  else if s.opn.contains q.1 then failS s p n 12
  else match findT t q.1 with
    | none => failS s p n 7
    | some d =>
      let l := linesS d
      if l.2 ≠ 0 then failS s p n l.2
      else match nest with
        | none => failS s p n 11
        | some g => fileS g q.1 l.1 s
def itemS (p : Bs) (n : Int) (x : Itm) (s : Sst) : Bool × Sst :=
  if s.items.any (fun y => y.name == x.name) then failS s p n 6
  else if s.items.length = 128 then failS s p n 10
  else (true, { s with items := s.items ++ [x] })
def spn0 : Spn := ⟨[], 0, 0⟩
def doHead (t : List Fil) (nest : Option Grp) (p : Bs) (lines : List Bs) (i : Nat) (h : Hd) (s : Sst) : Bool × Sst :=
  let body : Spn := ⟨p, (i : Int) + 1, (i : Int) + 1 + h.n⟩
  if h.word = 1 then inclS t nest p i h.name s
  else if h.word = 2 then
    if definedS s h.name then failS s p i 6
    else if s.macros.length = 128 then failS s p i 10
    else (true, { s with macros := setM s.macros h.name ⟨h.name, h.params, body⟩ })
  else if h.word = 3 then
    if definedS s h.name then (true, { s with macros := delM s.macros h.name, flags := delM s.flags h.name }) else failS s p i 7
  else if h.word = 4 ∨ h.word = 5 then
    if definedS s h.name != decide (h.word = 4) then (true, s)
    else match nest with
      | none => failS s p i 11
      | some g => g p lines (i + 1) (i + 1 + h.n.toNat) s
  else if h.word = 7 then itemS p i ⟨h.name, 3, 3, h.params, spn0⟩ s
  else if h.word = 8 then itemS p i ⟨h.name, 1, h.mode, h.params, body⟩ s
  else if h.word = 9 then itemS p i ⟨h.name, 2, h.mode, h.params, body⟩ s
  else (true, s)
def loopS (t : List Fil) (nest : Option Grp) (p : Bs) (lines : List Bs) (tu : Nat) : Nat → Nat → Sst → Bool × Sst
  | 0, _, s => (true, s)
  | f + 1, i, s =>
    if tu ≤ i then (true, s)
    else if s.count = 2048 then failS s p i 10
    else
      let s := { s with count := s.count + 1, heads := setM s.heads ⟨p, i⟩ true }
      let h := parseH (lines.getD i [])
      if h.2 ≠ 0 then failS s p i h.2
      else if (tu : Int) - i - 1 < h.1.n then failS s p i 13
      else
        let r := doHead t nest p lines i h.1 s
        if !r.1 then (false, r.2) else loopS t nest p lines tu f (i + 1 + h.1.n.toNat) r.2
def groupS (t : List Fil) : Nat → Grp
  | 0 => fun p lines fr tu s => loopS t none p lines tu (tu - fr) fr s
  | d + 1 => fun p lines fr tu s => loopS t (some (groupS t d)) p lines tu (tu - fr) fr s
def st0 (flags : List Bs) : Sst := ⟨flags.foldl (fun m f => setM m f true) [], [], [], [], [], [], 0, flt0⟩
def startS (t : List Fil) (p : Bs) (flags : List Bs) : List Bs × Ln × Int :=
  if treeS t ≠ 0 then ([], ⟨[], -1⟩, 1)
  else if !pathS p || !p.contains 47 || flags.any (fun f => !nameT f) then ([], ⟨[], -1⟩, 2)
  else if dupS [] flags then ([], ⟨[], -1⟩, 6)
  else if 128 < flags.length then ([], ⟨[], -1⟩, 10)
  else match findT t p with
    | none => ([], ⟨p, -1⟩, 7)
    | some d => ((linesS d).1, ⟨p, -1⟩, (linesS d).2)
def ltLn (a b : Ln) : Bool := ltS a.path b.path || (a.path == b.path && decide (a.n < b.n))
def insG {α : Type} (lt : α → α → Bool) (x : α) : List α → List α
  | [] => [x]
  | y :: r => if lt y x then y :: insG lt x r else if lt x y then x :: y :: r else y :: r
def sortG {α : Type} (lt : α → α → Bool) (l : List α) : List α := l.foldr (insG lt) []
def ltMac (a b : Mac) : Bool := ltS a.name b.name
def joinLn : List Spn → List Ln → List Spn
  | out, [] => out
  | out, l :: r =>
    match out.getLast? with
    | some k => if k.path = l.path ∧ k.tu = l.n then joinLn (out.dropLast ++ [⟨k.path, k.fr, k.tu + 1⟩]) r else joinLn (out ++ [⟨l.path, l.n, l.n + 1⟩]) r
    | none => joinLn [⟨l.path, l.n, l.n + 1⟩] r
def spansS (l : List Ln) : List Spn := joinLn [] (sortG ltLn l)
def unt0 : Unt := ⟨[], [], [], [], [], []⟩
def untS (p : Bs) (s : Sst) : Unt := ⟨p, sortG ltS (s.flags.map (·.1)), sortG ltMac (s.macros.map (·.2)), s.items, spansS (s.heads.map (·.1)), sortG ltS (s.files.map (·.1))⟩
def scanS (t : List Fil) (p : Bs) (flags : List Bs) : Unt × Flt :=
  let b := startS t p flags
  if b.2.2 ≠ 0 then (unt0, ⟨b.2.2, -1, -1, b.2.1⟩)
  else
    let r := fileS (groupS t 24) p b.1 (st0 flags)
    if !r.1 then (unt0, r.2.fault) else (untS p r.2, flt0)
def itm0 : Itm := ⟨[], 0, 0, [], spn0⟩
def findI (u : Unt) (x : Bs) : Itm × Bool := match u.items.find? (fun y => y.name == x) with | some y => (y, true) | none => (itm0, false)
end Go.Proofs.YtpeamehplhpcjaaGreatDoor
namespace Go.Proofs.YtpeamehplhpcjaaGreatDoor
open Go.RowKit Go.ChangeShapes Go.WideShapes Go.MapKept Go.ChangeMaps
open Go.WideMaps (KeyLaw)
section plain
variable {κ ν : Type} [DecidableEq κ]
theorem getM_cons (p : κ × ν) (r : List (κ × ν)) (k : κ) : getM (p :: r) k = if p.1 = k then some p.2 else getM r k := by
  unfold getM
  rw [List.find?_cons]
  by_cases h : p.1 = k
  · simp [h]
  · have : (p.1 == k) = false := by simpa using h
    rw [this, if_neg h]
theorem getM_none {m : List (κ × ν)} {k : κ} (h : ∀ p ∈ m, p.1 ≠ k) : getM m k = none := by
  induction m with
  | nil => rfl
  | cons p r ih => rw [getM_cons, if_neg (h p List.mem_cons_self), ih fun q hq => h q (List.mem_cons_of_mem _ hq)]
theorem setM_none {m : List (κ × ν)} {k : κ} (v : ν) (h : ∀ p ∈ m, p.1 ≠ k) : setM m k v = m ++ [(k, v)] := by
  induction m with
  | nil => rfl
  | cons p r ih => rw [setM, if_neg (h p List.mem_cons_self), ih fun q hq => h q (List.mem_cons_of_mem _ hq)]; rfl
theorem getM_at {m : List (κ × ν)} (hn : (m.map (·.1)).Nodup) {j : Nat} {k : κ} {v : ν} (h : m[j]? = some (k, v)) : getM m k = some v := by
  induction m generalizing j with
  | nil => simp at h
  | cons p r ih =>
    rw [List.map_cons, List.nodup_cons] at hn
    cases j with
    | zero =>
      simp only [List.getElem?_cons_zero, Option.some.injEq] at h
      rw [getM_cons, h, if_pos rfl]
    | succ j =>
      simp only [List.getElem?_cons_succ] at h
      have hm : (k, v) ∈ r := List.mem_of_getElem? h
      rw [getM_cons, if_neg, ih hn.2 h]
      intro e
      exact hn.1 (List.mem_map.2 ⟨_, hm, e.symm⟩)
theorem setM_at {m : List (κ × ν)} (hn : (m.map (·.1)).Nodup) {j : Nat} {k : κ} {v0 : ν} (v : ν) (h : m[j]? = some (k, v0)) : setM m k v = m.set j (k, v) := by
  induction m generalizing j with
  | nil => simp at h
  | cons p r ih =>
    rw [List.map_cons, List.nodup_cons] at hn
    cases j with
    | zero =>
      simp only [List.getElem?_cons_zero, Option.some.injEq] at h
      rw [setM, h, if_pos rfl]
      rfl
    | succ j =>
      simp only [List.getElem?_cons_succ] at h
      have hm : (k, v0) ∈ r := List.mem_of_getElem? h
      rw [setM, if_neg, ih hn.2 h]
      · rfl
      · intro e
        exact hn.1 (List.mem_map.2 ⟨_, hm, e.symm⟩)
end plain
structure KeyT (κ : Type) where
  K : TypeId
  kv : κ → Value
  law : KeyLaw Tryz.prog K
  ok : κ → Prop
  lit : ∀ k, ok k → ∃ l, keyOf Tryz.prog K (kv k) = some l
  inj : ∀ a b, kv a = kv b → a = b
section
variable {κ : Type} (T : KeyT κ)
def MapV (w : World) (b : Nat) (m : List (κ × Value)) : Prop :=
  ∃ es clock, w.heap[b]? = some (.map es clock) ∧ Stamped es clock ∧ es.toList.map (fun e => (e.key, e.val)) = m.map (fun p => (T.kv p.1, p.2)) ∧ ∀ p ∈ m, T.ok p.1
variable {T}
theorem MapV.lt {w : World} {b : Nat} {m : List (κ × Value)} (h : MapV T w b m) : b < w.heap.size := by
  obtain ⟨es, clock, hb, _⟩ := h
  exact (Array.getElem?_eq_some_iff.1 hb).1
theorem MapV.keep {w w' : World} {b : Nat} {m : List (κ × Value)} (h : MapV T w b m) (hk : w'.heap[b]? = w.heap[b]?) : MapV T w' b m := by
  obtain ⟨es, clock, hb, r⟩ := h
  exact ⟨es, clock, hk.trans hb, r⟩
theorem MapV.below {w w' : World} {b : Nat} {m : List (κ × Value)} (h : MapV T w b m) (hb : Below w.heap.size w w') : MapV T w' b m := h.keep (hb.block b h.lt)
theorem MapV.alloc {w : World} {b : Nat} {m : List (κ × Value)} (h : MapV T w b m) (o : Obj) : MapV T (w.alloc o) b m := h.below ((Below.refl _ _).alloc (Nat.le_refl _) _)
theorem MapV.nodup {w : World} {b : Nat} {m : List (κ × Value)} (h : MapV T w b m) : (m.map (·.1)).Nodup := by
  obtain ⟨es, clock, hb, hs, hm, _⟩ := h
  have h1 : (es.toList.map (·.key)) = m.map fun p => T.kv p.1 := by
    have := congrArg (List.map Prod.fst) hm
    simpa [List.map_map, Function.comp_def] using this
  have h2 := hs.2.2
  rw [h1] at h2
  unfold List.Nodup at *
  rw [List.pairwise_map] at h2 ⊢
  exact h2.imp fun hne e => hne (by rw [e])
section
variable {w : World} {b : Nat} {m : List (κ × Value)} {t e : TypeId}
theorem MapV.find (h : MapV T w b m) {k : κ} (hk : T.ok k) : ∃ es clock, w.heap[b]? = some (.map es clock) ∧ Stamped es clock ∧ es.toList.map (fun e => (e.key, e.val)) = m.map (fun p => (T.kv p.1, p.2)) ∧ (∀ p ∈ m, T.ok p.1) ∧
    (((Instr.findKey T.K (T.kv k) es.toList).run Tryz.prog w = .ok none w ∧ (∀ x ∈ es.toList, x.key ≠ T.kv k) ∧ ∀ p ∈ m, p.1 ≠ k) ∨
     ∃ j e0, (Instr.findKey T.K (T.kv k) es.toList).run Tryz.prog w = .ok (some (j, e0.val)) w ∧ es.toList[j]? = some e0 ∧ e0.key = T.kv k ∧ m[j]? = some (k, e0.val)) := by
  obtain ⟨es, clock, hb, hs, hm, hok⟩ := h
  refine ⟨es, clock, hb, hs, hm, hok, ?_⟩
  obtain ⟨l, hl⟩ := T.lit k hk
  have hkeys : ∀ x ∈ es.toList, ∃ l, keyOf Tryz.prog T.K x.key = some l := by
    intro x hx
    have : (x.key, x.val) ∈ m.map (fun p => (T.kv p.1, p.2)) := by rw [← hm]; exact List.mem_map.2 ⟨x, hx, rfl⟩
    obtain ⟨p, hp, he⟩ := List.mem_map.1 this
    injection he with he _
    rw [← he]
    exact T.lit p.1 (hok p hp)
  rcases T.law.find w hl es.toList hkeys with ⟨h1, h2⟩ | ⟨j, e0, h1, h2, h3⟩
  · left
    refine ⟨h1, h2, fun p hp e => ?_⟩
    have : (T.kv p.1, p.2) ∈ es.toList.map (fun e => (e.key, e.val)) := by rw [hm]; exact List.mem_map.2 ⟨p, hp, rfl⟩
    obtain ⟨x, hx, he⟩ := List.mem_map.1 this
    injection he with he _
    exact h2 x hx (by rw [he, e])
  · right
    refine ⟨j, e0, h1, h2, h3, ?_⟩
    have hj := congrArg (fun l => l[j]?) hm
    simp only [List.getElem?_map, h2, Option.map_some] at hj
    cases hmj : m[j]? with
    | none => rw [hmj] at hj; cases hj
    | some p =>
      rw [hmj] at hj
      simp only [Option.map_some, Option.some.injEq, Prod.mk.injEq] at hj
      obtain ⟨pk, pv⟩ := p
      have : k = pk := T.inj _ _ (by rw [← h3]; exact hj.1)
      rw [this, hj.2]
theorem MapV.look [DecidableEq κ] (h : MapV T w b m) (ht : Tryz.prog.underlying t = some (.map T.K e)) {z : Value} (hz : (zeroValue e).run Tryz.prog w = .ok z w) {k : κ} (hk : T.ok k) (c : Bool) :
    (Instr.lookup t (.map (some b)) (T.kv k) c).run Tryz.prog w = .ok (if c then .tuple #[(getM m k).getD z, .bool (getM m k).isSome] else (getM m k).getD z) w := by
  obtain ⟨l, hl⟩ := T.lit k hk
  have hnd := h.nodup
  obtain ⟨es, clock, hb, hs, hm, hok, h1 | h1⟩ := h.find hk
  · obtain ⟨h1, h2, h3⟩ := h1
    rw [getM_none h3]
    simp [Instr.lookup, Go.run_underlying ht, MapKept.run_getObj_map hb, T.law.check w _ hl, h1, hz, Result.andThen]
  · obtain ⟨j, e0, h1, h2, h3, h4⟩ := h1
    rw [getM_at hnd h4]
    simp [Instr.lookup, Go.run_underlying ht, MapKept.run_getObj_map hb, T.law.check w _ hl, h1, Result.andThen]
theorem MapV.update [DecidableEq κ] (h : MapV T w b m) (ht : Tryz.prog.underlying t = some (.map T.K e)) {k : κ} (hk : T.ok k) (v : Value) :
    ∃ w', (Instr.mapUpdate t (.map (some b)) (T.kv k) v).run Tryz.prog w = .ok () w' ∧ MapV T w' b (setM m k v) ∧ w.grownBy w' (some b) := by
  obtain ⟨l, hl⟩ := T.lit k hk
  have hnd := h.nodup
  have hg : ∀ (es clock es' clock'), w.heap[b]? = some (.map es clock) → w.grownBy (setBlock w b (.map es' clock')) (some b) := fun es clock es' clock' hb =>
    ⟨rfl, rfl, rfl, by simp [setBlock], fun i _ hi => heap_setBlock_other hb _ (fun e => hi (by rw [e]))⟩
  obtain ⟨es, clock, hb, hs, hm, hok, h1 | h1⟩ := h.find hk
  · obtain ⟨h1, h2, h3⟩ := h1
    refine ⟨setBlock w b (.map (es.push ⟨T.kv k, v, clock⟩) (clock + 1)), ?_, ?_, hg _ _ _ _ hb⟩
    · simp [Instr.mapUpdate, Go.run_underlying ht, MapKept.run_getObj_map hb, T.law.check w false hl, h1, MapKept.run_setObj_map _ hb, Result.andThen, setBlock]
    · refine ⟨_, _, heap_setBlock_same hb _, stamped_push hs h2, ?_, ?_⟩
      · rw [setM_none v h3, Array.toList_push, List.map_append, List.map_append, hm]; rfl
      · rw [setM_none v h3]
        intro p hp
        rcases List.mem_append.1 hp with hp | hp
        · exact hok p hp
        · rw [List.mem_singleton.1 hp]; exact hk
  · obtain ⟨j, e0, h1, h2, h3, h4⟩ := h1
    have hj : es[j]? = some e0 := by simpa using h2
    refine ⟨setBlock w b (.map (es.modify j (fun e' => { e' with key := T.kv k, val := v })) clock), ?_, ?_, hg _ _ _ _ hb⟩
    · simp [Instr.mapUpdate, Go.run_underlying ht, MapKept.run_getObj_map hb, T.law.check w false hl, h1, hj, h3, T.law.stays w hl, MapKept.run_setObj_map _ hb, Result.andThen, setBlock]
    · refine ⟨_, _, heap_setBlock_same hb _, stamped_modify hs _ _ (fun _ _ => rfl) (fun e' _ he' => by rw [hj] at he'; cases he'; exact h3.symm), ?_, ?_⟩
      · rw [setM_at hnd v h4, Array.toList_modify, Go.ChangeMaps.modify_eq_set _ _ _ _ h2, List.map_set, List.map_set, hm]
      · rw [setM_at hnd v h4]
        intro p hp
        rcases List.mem_or_eq_of_mem_set hp with hp | rfl
        · exact hok p hp
        · exact hk
theorem MapV.entry [DecidableEq κ] (h : MapV T w b m) (ht : Tryz.prog.underlying t = some (.map T.K e)) {z : Value} (hz : ∀ u : World, (zeroValue e).run Tryz.prog u = .ok z u) {k : κ} (hk : T.ok k) :
    ∃ (st : Nat) (w1 : World), (Instr.mapEntry t (.map (some b)) (T.kv k)).run Tryz.prog w = .ok (.tuple #[(getM m k).getD z, goInt st]) w1 ∧ w.grownBy w1 (some b) ∧ MapV T w1 b (setM m k ((getM m k).getD z)) ∧
      ∀ (w2 : World) (v : Value), w2.heap[b]? = w1.heap[b]? → ∃ w3, (Instr.entryStore t (.map (some b)) (goInt st) v).run Tryz.prog w2 = .ok () w3 ∧ MapV T w3 b (setM m k v) ∧ w2.grownBy w3 (some b) := by
  obtain ⟨l, hl⟩ := T.lit k hk
  have hnd := h.nodup
  have hg : ∀ (w : World) (es clock es' clock'), w.heap[b]? = some (.map es clock) → w.grownBy (setBlock w b (.map es' clock')) (some b) := fun w es clock es' clock' hb =>
    ⟨rfl, rfl, rfl, by simp [setBlock], fun i _ hi => heap_setBlock_other hb _ (fun e => hi (by rw [e]))⟩
  obtain ⟨es, clock, hb, hs, hm, hok, h1 | h1⟩ := h.find hk
  · obtain ⟨h1, h2, h3⟩ := h1
    have hmk : ∀ v : Value, ∀ (w2 : World), w2.heap[b]? = some (.map (es.push ⟨T.kv k, v, clock⟩) (clock + 1)) → MapV T w2 b (setM m k v) := by
      intro v w2 hb2
      refine ⟨_, _, hb2, stamped_push hs h2, ?_, ?_⟩
      · rw [setM_none v h3, Array.toList_push, List.map_append, List.map_append, hm]; rfl
      · rw [setM_none v h3]
        intro p hp
        rcases List.mem_append.1 hp with hp | hp
        · exact hok p hp
        · rw [List.mem_singleton.1 hp]; exact hk
    rw [getM_none h3]
    simp only [Option.getD_none]
    refine ⟨clock, setBlock w b (.map (es.push ⟨T.kv k, z, clock⟩) (clock + 1)), ?_, hg _ _ _ _ _ hb, hmk z _ (heap_setBlock_same hb _), fun w2 v hw2 => ?_⟩
    · simp [Instr.mapEntry, Go.run_underlying ht, MapKept.run_getObj_map hb, T.law.check w false hl, h1, hz, MapKept.run_setObj_map _ hb, Result.andThen, setBlock]
    · rw [heap_setBlock_same hb] at hw2
      have hst := (stamped_push (val := z) hs h2)
      have hidx : (es.push ⟨T.kv k, z, clock⟩).findIdx? (fun e => ((e.born : Nat) : Int) == ((clock : Nat) : Int)) = some es.size := by
        rw [WideElems.findIdx_arr]
        have := WideElems.findIdx_born (l := (es.push ⟨T.kv k, z, clock⟩).toList) (j := es.size) (e0 := ⟨T.kv k, z, clock⟩) hst.2.1 (by simp)
        exact this
      have hmod : (es.push ⟨T.kv k, z, clock⟩).modify es.size (fun e => { e with val := v }) = es.push ⟨T.kv k, v, clock⟩ := by
        apply Array.ext'
        rw [Array.toList_modify, Array.toList_push, Array.toList_push, ← Array.length_toList, WideElems.modify_last]
      refine ⟨setBlock w2 b (.map (es.push ⟨T.kv k, v, clock⟩) (clock + 1)), ?_, hmk v _ (heap_setBlock_same hw2 _), hg _ _ _ _ _ hw2⟩
      simp [Instr.entryStore, MapKept.run_getObj_map hw2, asInt, asIntOf, goInt, hidx, hmod, MapKept.run_setObj_map _ hw2, Result.andThen, setBlock]
  · obtain ⟨j, e0, h1, h2, h3, h4⟩ := h1
    have hj : es[j]? = some e0 := by simpa using h2
    have hsame : es.modify j (fun e => { e with key := T.kv k }) = es := by
      apply Array.ext'
      rw [Array.toList_modify, Go.ChangeMaps.modify_eq_set _ _ _ _ h2]
      have : ({ e0 with key := T.kv k } : MapEntry) = e0 := by rw [← h3]
      rw [this]
      exact WideElems.set_self _ _ _ h2
    have hset : setM m k e0.val = m := by
      rw [setM_at hnd e0.val h4]
      exact WideElems.set_self _ _ _ h4
    rw [getM_at hnd h4]
    simp only [Option.getD_some]
    refine ⟨e0.born, setBlock w b (.map es clock), ?_, hg _ _ _ _ _ hb, ?_, fun w2 v hw2 => ?_⟩
    · simp [Instr.mapEntry, Go.run_underlying ht, MapKept.run_getObj_map hb, T.law.check w false hl, h1, hj, h3, T.law.stays w hl, hsame, MapKept.run_setObj_map _ hb, Result.andThen, setBlock]
    · rw [hset]
      exact ⟨es, clock, heap_setBlock_same hb _, hs, hm, hok⟩
    · rw [heap_setBlock_same hb] at hw2
      have hidx : es.findIdx? (fun e => ((e.born : Nat) : Int) == ((e0.born : Nat) : Int)) = some j := by
        rw [WideElems.findIdx_arr]
        exact WideElems.findIdx_born hs.2.1 h2
      refine ⟨setBlock w2 b (.map (es.modify j (fun e' => { e' with val := v })) clock), ?_, ?_, hg _ _ _ _ _ hw2⟩
      · simp [Instr.entryStore, MapKept.run_getObj_map hw2, asInt, asIntOf, goInt, hidx, MapKept.run_setObj_map _ hw2, Result.andThen, setBlock]
      · refine ⟨_, _, heap_setBlock_same hw2 _, stamped_modify hs _ _ (fun _ _ => rfl) (fun e' _ he' => rfl), ?_, ?_⟩
        · rw [setM_at hnd v h4, Array.toList_modify, Go.ChangeMaps.modify_eq_set _ _ _ _ h2, List.map_set, List.map_set, hm, h3]
        · rw [setM_at hnd v h4]
          intro p hp
          rcases List.mem_or_eq_of_mem_set hp with hp | rfl
          · exact hok p hp
          · exact hk
theorem MapV.len (h : MapV T w b m) (ht : Tryz.prog.underlying t = some (.map T.K e)) (ty : TypeId) : (Builtin.len_ #[t] ty #[.map (some b)]).run Tryz.prog w = .ok (.int .i64 m.length) w := by
  obtain ⟨es, clock, hb, hs, hm, _⟩ := h
  have hl : es.size = m.length := by have := congrArg List.length hm; simpa using this
  simp [Builtin.len_, Go.run_underlying ht, MapKept.run_getObj_map hb, goInt, Result.andThen, hl]
end
end
end Go.Proofs.YtpeamehplhpcjaaGreatDoor
namespace Go.Proofs.YtpeamehplhpcjaaGreatDoor
open Go.RowKit Go.ChangeShapes Go.WideShapes
section
variable {κ : Type} [DecidableEq κ] {T : KeyT κ} {ops : Array Oper} {rest : List Oper} {o : Oper} {a : Act} {Q : Exit → Act → World → Prop} {w : World} {b : Nat} {m : List (κ × Value)} {t e : TypeId}
theorem wpList_lookVok (hg : o.guard = none) (x y : Operand) (hop : o.op = Op.lookup t x y true) (ht : Tryz.prog.underlying t = some (.map T.K e)) {z : Value} (hz : (zeroValue e).run Tryz.prog w = .ok z w) (hx : a.eval x = .map (some b)) (k : κ) (hy : a.eval y = T.kv k) (hm : MapV T w b m) (hk : T.ok k) {r : Option Value} (hr : getM m k = r) (u : Value) (hu : r.getD z = u) (c : Bool) (hc : r.isSome = c)
    (h : wpList Tryz.prog ops Q rest (a.put o.dst (.tuple #[u, .bool c])) w) : wpList Tryz.prog ops Q (o :: rest) a w := by
  refine wpList_plain hg fun K' hK' => ?_
  have hrun := hm.look ht hz hk true
  rw [hr, hu, hc] at hrun
  unfold Oper.wp
  simp [execOp, hop, hx, hy, hrun, Result.andThen]
  exact hK' _ _ h
theorem wpList_updV (hg : o.guard = none) (x y z : Operand) (hop : o.op = Op.mapUpdate t x y z) (ht : Tryz.prog.underlying t = some (.map T.K e)) (hx : a.eval x = .map (some b)) (k : κ) (hy : a.eval y = T.kv k) (v : Value) (hz : a.eval z = v) (hm : MapV T w b m) (hk : T.ok k)
    (h : ∀ w', MapV T w' b (setM m k v) → w.grownBy w' (some b) → wpList Tryz.prog ops Q rest (a.put o.dst undef) w') : wpList Tryz.prog ops Q (o :: rest) a w := by
  refine wpList_plain hg fun K' hK' => ?_
  obtain ⟨w', hrun, r1, r2⟩ := hm.update ht hk v
  unfold Oper.wp
  simp [execOp, hop, hx, hy, hz, hrun, Result.andThen]
  exact hK' _ _ (h w' r1 r2)
end
section
variable {κ : Type} [DecidableEq κ] {T : KeyT κ} {ops : Array Oper} {o : Oper} {a : Act} {K : Act → World → Prop} {Q : Exit → Act → World → Prop} {E : Prop} {w : World} {b : Nat} {m : List (κ × Value)} {t e : TypeId}
theorem step_updV (hgd : o.guard = none) (x y z : Operand) (hop : o.op = Op.mapUpdate t x y z) (ht : Tryz.prog.underlying t = some (.map T.K e)) (hx : a.eval x = .map (some b)) (k : κ) (hy : a.eval y = T.kv k) (v : Value) (hz : a.eval z = v) (hm : MapV T w b m) (hk : T.ok k)
    (h : ∀ w', MapV T w' b (setM m k v) → w.grownBy w' (some b) → K (a.put o.dst undef) w') : if Region.wanted o (yielded ops a.tmps) = true then Oper.wp Tryz.prog o a w K Q else E := by
  have hw : Region.wanted o (yielded ops a.tmps) = true := by simp [Region.wanted, hgd]
  rw [if_pos hw]
  obtain ⟨w', hrun, r1, r2⟩ := hm.update ht hk v
  unfold Oper.wp
  simp [execOp, hop, hx, hy, hz, hrun, Result.andThen]
  exact h w' r1 r2
end
def TS : KeyT Bs where
  K := 9
  kv := fun s => .string ⟨s.toArray⟩
  law := WideMaps.string_law Tryz.underlying9
  ok := fun s => s.length ≤ 9223372036854775807
  lit := fun s hs => ⟨_, WideMaps.keyOf_string_mk Tryz.underlying9 (s := ⟨s.toArray⟩) (by simpa [ByteArray.size, maxLen] using hs)⟩
  inj := fun a b h => by
    injection h with h
    injection h with h
    simpa using congrArg Array.toList h
end Go.Proofs.YtpeamehplhpcjaaGreatDoor
namespace Go.Proofs.YtpeamehplhpcjaaGreatDoor
open Go.RowKit Go.ChangeShapes Go.WideShapes Go.MapKept Go.ChangeMaps
section
variable {κ : Type} [DecidableEq κ] {T : KeyT κ} {w : World} {b : Nat} {m : List (κ × Value)} {t e : TypeId}
theorem delM_none {m : List (κ × Value)} {k : κ} (h : ∀ p ∈ m, p.1 ≠ k) : delM m k = m := by
  unfold delM
  rw [List.filter_eq_self]
  intro p hp
  simpa using h p hp
theorem delM_at {m : List (κ × Value)} (hn : (m.map (·.1)).Nodup) {j : Nat} {k : κ} {v : Value} (h : m[j]? = some (k, v)) : delM m k = m.eraseIdx j := by
  induction m generalizing j with
  | nil => simp at h
  | cons p r ih =>
    rw [List.map_cons, List.nodup_cons] at hn
    cases j with
    | zero =>
      simp only [List.getElem?_cons_zero, Option.some.injEq] at h
      subst h
      have : delM r k = r := delM_none fun q hq e => hn.1 (List.mem_map.2 ⟨q, hq, e⟩)
      unfold delM at this ⊢
      simp [this]
    | succ j =>
      simp only [List.getElem?_cons_succ] at h
      have hp : p.1 ≠ k := fun e => hn.1 (List.mem_map.2 ⟨_, List.mem_of_getElem? h, e.symm⟩)
      have := ih hn.2 h
      unfold delM at this ⊢
      rw [List.filter_cons, if_pos (by simpa using hp), this]
      rfl
theorem MapV.del (h : MapV T w b m) (ht : Tryz.prog.underlying t = some (.map T.K e)) {k : κ} (hk : T.ok k) (ty : TypeId) :
    ∃ w', (Builtin.delete_ #[t, T.K] ty #[.map (some b), T.kv k]).run Tryz.prog w = .ok (.tuple #[]) w' ∧ MapV T w' b (delM m k) ∧ w.grownBy w' (some b) := by
  obtain ⟨l, hl⟩ := T.lit k hk
  have hnd := h.nodup
  have hg : ∀ (es clock es' clock'), w.heap[b]? = some (.map es clock) → w.grownBy (setBlock w b (.map es' clock')) (some b) := fun es clock es' clock' hb =>
    ⟨rfl, rfl, rfl, by simp [setBlock], fun i _ hi => heap_setBlock_other hb _ (fun e => hi (by rw [e]))⟩
  obtain ⟨es, clock, hb, hs, hm, hok, h1 | h1⟩ := h.find hk
  · obtain ⟨h1, h2, h3⟩ := h1
    refine ⟨setBlock w b (.map es clock), ?_, ?_, hg _ _ _ _ hb⟩
    · simp [Builtin.delete_, Go.run_underlying ht, MapKept.run_getObj_map hb, T.law.check w _ hl, h1, MapKept.run_setObj_map _ hb, Result.andThen, setBlock]
    · rw [delM_none h3]
      exact ⟨es, clock, heap_setBlock_same hb _, hs, hm, hok⟩
  · obtain ⟨j, e0, h1, h2, h3, h4⟩ := h1
    have hjl : j < es.toList.length := (List.getElem?_eq_some_iff.1 h2).1
    have hjs : j < es.size := by simpa using hjl
    have hsub : (es.eraseIdxIfInBounds j).toList = es.toList.eraseIdx j := by
      unfold Array.eraseIdxIfInBounds
      rw [dif_pos hjs]
      simp
    refine ⟨setBlock w b (.map (es.eraseIdxIfInBounds j) clock), ?_, ?_, hg _ _ _ _ hb⟩
    · simp [Builtin.delete_, Go.run_underlying ht, MapKept.run_getObj_map hb, T.law.check w _ hl, h1, MapKept.run_setObj_map _ hb, Result.andThen, setBlock]
    · rw [delM_at hnd h4]
      refine ⟨_, clock, heap_setBlock_same hb _, stamped_erase hs j, ?_, fun p hp => hok p ((List.eraseIdx_sublist _ _).subset hp)⟩
      have hem : ∀ {α β : Type} (f : α → β) (l : List α) (j : Nat), (l.eraseIdx j).map f = (l.map f).eraseIdx j := by
        intro α β f l
        induction l with
        | nil => intro j; rfl
        | cons a r ih => intro j; cases j with
                         | zero => rfl
                         | succ j => simp [ih]
      rw [hsub, hem, hem, hm]
end
end Go.Proofs.YtpeamehplhpcjaaGreatDoor
