/- Rules: what the reference computes, as plain functions; no program in sight. -/
import Derived.Test.YtjopmgoacncmgaaGreatDoorKSpec
set_option linter.unusedVariables false
set_option linter.unusedSimpArgs false
namespace Go.Proofs.YtjopmgoacncmgaaGreatDoor

structure RTk where
  kind : Nat
  text : Bs
  deriving DecidableEq, Repr, Inhabited
def symR (s : Bs) : Nat :=
  if decide (2 ≤ s.length) && (s.take 2 == [58, 45] || s.take 2 == [33, 61] || s.take 2 == [60, 61]) then 2
  else if [40, 41, 44, 46, 61, 60].contains (s.headD 0) then 1 else 0
def rtok : Nat → Bs → List RTk → List RTk × Bool
  | 0, _, out => (out, true)
  | _ + 1, [], out => (out, true)
  | f + 1, c :: r, out =>
    if c == 32 then rtok f r out
    else if lowB c || uppB c then rtok f (r.drop (spanS varB r)) (out ++ [⟨119, c :: r.take (spanS varB r)⟩])
    else if digB c || (c == 45 && digB (r.headD 0)) then rtok f (r.drop (spanS digB r)) (out ++ [⟨110, c :: r.take (spanS digB r)⟩])
    else if c == 34 then (if spanS (fun c => c != 34) r = r.length then ([], false) else rtok f (r.drop (spanS (fun c => c != 34) r + 1)) (out ++ [⟨116, r.take (spanS (fun c => c != 34) r)⟩]))
    else if symR (c :: r) = 0 then ([], false) else rtok f ((c :: r).drop (symR (c :: r))) (out ++ [⟨115, (c :: r).take (symR (c :: r))⟩])
def rtokS (s : Bs) : List RTk × Bool := rtok (s.length + 1) s []
abbrev RSt := List RTk × Bool
def rnext (p : RSt) : RTk := p.1.headD ⟨0, []⟩
def ris (p : RSt) (k : Nat) (t : Bs) : Bool × RSt := if rnext p = ⟨k, t⟩ then (true, (p.1.drop 1, p.2)) else (false, p)
def decV (n : Int) : Bs → Int
  | [] => n
  | c :: r => decV (10 * n + ((c.toNat : Int) - 48)) r
def rnumS (s : Bs) : Int × Bool :=
  let neg := s.headD 0 == 45
  let d := if neg then s.drop 1 else s
  if decide (10 < d.length) || (d.headD 0 == 48 && (decide (1 < d.length) || neg)) then (0, false)
  else ((if neg then -1 else 1) * decV 0 d, true)
def rargOf (t : RTk) : Arg × Bool :=
  if t.kind = 119 then (⟨1, t.text, 0⟩, true) else if t.kind = 116 then (⟨2, t.text, 0⟩, true)
  else if t.kind = 110 then (⟨3, [], (rnumS t.text).1⟩, (rnumS t.text).2) else (default, true)
def rarg (p : RSt) : Arg × RSt :=
  let t := rnext p
  let o := rargOf t
  (o.1, ((if t.kind ≠ 0 then p.1.drop 1 else p.1), (p.2 || !o.2) || !formedS o.1))
def rmore : Nat → RSt → List Arg → List Arg × RSt
  | 0, p, out => (out, p)
  | f + 1, p, out => if !p.2 && (ris p 115 [44]).1 then (let a := rarg (ris p 115 [44]).2; rmore f a.2 (out ++ [a.1])) else (out, p)
def ratom (p : RSt) : Atm × RSt :=
  let t := rnext p
  if t.kind ≠ 119 || !predS t.text then (default, (p.1, true))
  else
    let q : RSt := (p.1.drop 1, p.2)
    let i := ris q 115 [40]
    if !i.1 then (⟨t.text, []⟩, q)
    else
      let a := rarg i.2
      let m := rmore (i.2.1.length + 1) a.2 [a.1]
      if m.2.2 then (⟨t.text, m.1⟩, m.2)
      else (⟨t.text, m.1⟩, ((ris m.2 115 [41]).2.1, !(ris m.2 115 [41]).1 || decide (6 < m.1.length)))
def rltl (p : RSt) : Ltl × RSt :=
  let n := ris p 119 sNot
  if n.1 then (let a := ratom n.2; (⟨true, [], a.1⟩, a.2))
  else if (rnext p).kind = 119 && predS (rnext p).text then (let a := ratom p; (⟨false, [], a.1⟩, a.2))
  else
    let a := rarg p
    let op := rnext a.2
    if a.2.2 || op.kind ≠ 115 || !opsL.contains op.text then (default, (a.2.1, true))
    else (let b := rarg (a.2.1.drop 1, a.2.2); (⟨false, op.text, ⟨[], [a.1, b.1]⟩⟩, b.2))
def rmoreL : Nat → RSt → List Ltl → List Ltl × RSt
  | 0, p, out => (out, p)
  | f + 1, p, out => if !p.2 && (ris p 115 [44]).1 then (let a := rltl (ris p 115 [44]).2; rmoreL f a.2 (out ++ [a.1])) else (out, p)
def rrule (p : RSt) : Rul × RSt :=
  let h := ratom p
  let t := ris h.2 115 [58, 45]
  let m : List Ltl × RSt := if !h.2.2 && t.1 then (let a := rltl t.2; rmoreL (t.2.1.length + 1) a.2 [a.1]) else ([], h.2)
  let r : Rul := ⟨h.1, m.1⟩
  if m.2.2 then (r, m.2)
  else
    let d := ris m.2 115 [46]
    (r, (d.2.1, (!d.1 || !d.2.1.isEmpty) || !ruleS r))
def rsplit (cur : Bs) : Bs → List Bs
  | [] => if cur.isEmpty then [] else [cur]
  | c :: r => if c == 10 then cur :: rsplit [] r else rsplit (cur ++ [c]) r
def commS : Bs → Bool
  | [] => true
  | c :: r => if c == 32 then commS r else c == 37
def rparseGo : List Bs → Nat → List Rul → List Rul × Int × Int
  | [], _, out => (out, 0, 0)
  | line :: r, i, out =>
    if commS line then rparseGo r (i + 1) out
    else
      let t := rtokS line
      let x := rrule (t.1, false)
      if !t.2 || x.2.2 then ([], (i : Int) + 1, 4)
      else if out.length = 64 then ([], (i : Int) + 1, 10)
      else rparseGo r (i + 1) (out ++ [x.1])
def rparseS (s : Bs) : List Rul × Int × Int := if 65536 < s.length then ([], 0, 10) else rparseGo (rsplit [] s) 0 []
def rparseAtomS (s : Bs) : Atm × Int :=
  if 4096 < s.length then (default, 4)
  else
    let t := rtokS s
    let a := ratom (t.1, false)
    if !t.2 || a.2.2 || !a.2.1.isEmpty then (default, 4) else (a.1, 0)
end Go.Proofs.YtjopmgoacncmgaaGreatDoor
