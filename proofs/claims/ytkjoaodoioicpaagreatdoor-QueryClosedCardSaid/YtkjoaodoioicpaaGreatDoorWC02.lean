/- Query (package licitlaw54): a part of the proofs of its laws; see the law's own text, which comes last in 'order'. No conditions of its own. -/
import Derived.Test.YtkjoaodoioicpaaGreatDoorWC01
set_option linter.unusedVariables false
set_option linter.unusedSimpArgs false
namespace Go.Proofs.YtkjoaodoioicpaaGreatDoor
abbrev Bs := List UInt8
structure Arg where
  kind : Int
  text : Bs
  num : Int
  deriving DecidableEq, Repr, Inhabited
structure Atm where
  name : Bs
  args : List Arg
  deriving DecidableEq, Repr, Inhabited
structure Ltl where
  neg : Bool
  op : Bs
  atom : Atm
  deriving DecidableEq, Repr, Inhabited
structure Rul where
  head : Atm
  body : List Ltl
  deriving DecidableEq, Repr, Inhabited
def lowI (c : Int) : Bool := decide (97 ≤ c) && decide (c ≤ 122)
def uppI (c : Int) : Bool := decide (65 ≤ c) && decide (c ≤ 90)
def digI (c : Int) : Bool := decide (48 ≤ c) && decide (c ≤ 57)
def lowB (c : UInt8) : Bool := lowI c.toNat
def uppB (c : UInt8) : Bool := uppI c.toNat
def digB (c : UInt8) : Bool := digI c.toNat
def preI (c : Int) : Bool := lowI c || digI c || c == 95
def varI (c : Int) : Bool := lowI c || uppI c || digI c || c == 95
def preB (c : UInt8) : Bool := preI c.toNat
def varB (c : UInt8) : Bool := varI c.toNat
def eachS (s : Bs) (f o : Int → Bool) : Bool := decide (1 ≤ s.length) && decide (s.length ≤ 32) && f (s.headD 0).toNat && s.all fun c => o c.toNat
def sNot : Bs := [110, 111, 116]
def predS (s : Bs) : Bool := s != sNot && eachS s lowI preI
def varS (s : Bs) : Bool := eachS s uppI varI
def conI (c : Int) : Bool := decide (32 ≤ c) && decide (c ≤ 126) && c != 34 && c != 92
def conS (s : Bs) : Bool := decide (s.length ≤ 128) && s.all fun c => conI c.toNat
def formedS (a : Arg) : Bool :=
  if a.kind = 1 then a.num == 0 && varS a.text
  else if a.kind = 2 then a.num == 0 && conS a.text
  else if a.kind = 3 then a.text.isEmpty && decide (-1000000000 ≤ a.num) && decide (a.num ≤ 1000000000)
  else false
def argsS (l : List Arg) : Bool := l.all formedS
def atomS (a : Atm) : Bool := predS a.name && decide (a.args.length ≤ 6) && argsS a.args
def compsS (l : Ltl) : Bool := !l.op.isEmpty
def opsL : List Bs := [[61], [33, 61], [60], [60, 61]]
def ltlS (l : Ltl) : Bool := if !compsS l then atomS l.atom else opsL.contains l.op && !l.neg && l.atom.name.isEmpty && l.atom.args.length == 2 && argsS l.atom.args
def addV (out : List Bs) : List Arg → List Bs
  | [] => out
  | a :: r => addV (if a.kind = 1 ∧ out.contains a.text = false then out ++ [a.text] else out) r
def addB (out : List Bs) : List Ltl → List Bs
  | [] => out
  | l :: r => addB (addV out l.atom.args) r
def varsS (r : Rul) : List Bs := addB (addV [] r.head.args) r.body
def ruleS (r : Rul) : Bool := atomS r.head && decide (r.body.length ≤ 4) && r.body.all ltlS && decide ((varsS r).length ≤ 6)
def natDig : Nat → Nat → Bs
  | 0, _ => []
  | f + 1, n => if n < 10 then [(48 + n).toUInt8] else natDig f (n / 10) ++ [(48 + n % 10).toUInt8]
def itoaS (n : Int) : Bs := if n < 0 then 45 :: natDig 20 n.natAbs else natDig 20 n.natAbs
def prArg (a : Arg) : Bs := if a.kind = 3 then itoaS a.num else if a.kind = 2 then [34] ++ a.text ++ [34] else a.text
def joinS : List Bs → Bs
  | [] => []
  | [a] => a
  | a :: b :: r => a ++ [44, 32] ++ joinS (b :: r)
def prAtom (a : Atm) : Bs := if a.args.length = 0 then a.name else a.name ++ [40] ++ joinS (a.args.map prArg) ++ [41]
def printAtomS (a : Atm) : Bs × Int := if !atomS a then ([], 1) else (prAtom a, 0)
def syms : List Bs := [[58, 45], [33, 61], [60, 61], [40], [41], [44], [46], [61], [60]]
def symS : List Bs → Bs → Nat
  | [], _ => 0
  | t :: r, s => if t.isPrefixOf s then t.length else symS r s
def spanS (p : UInt8 → Bool) (s : Bs) : Nat := (s.takeWhile p).length
def lenS (s : Bs) : Nat :=
  let c := s.headD 0; let r := s.drop 1
  if lowB c || uppB c then 1 + spanS varB r
  else if digB c || (c == 45 && decide (1 < s.length) && digB (r.headD 0)) then 1 + spanS digB r
  else if c == 34 then (if 1 + spanS (fun c => c != 34) r = s.length then 0 else 1 + spanS (fun c => c != 34) r + 1)
  else symS syms s
def trimS (s : Bs) : Bs := s.dropWhile (· == 32)
def tokGo : Nat → Bs → List Bs → List Bs × Bool
  | 0, _, out => (out, true)
  | f + 1, s, out => if s.isEmpty then (out, true) else if lenS s = 0 then ([], false) else tokGo f (trimS (s.drop (lenS s))) (out ++ [s.take (lenS s)])
def tokensS (s : Bs) : List Bs × Bool := tokGo (s.length + 1) (trimS s) []
abbrev KSt := List Bs × Bool
def peekS (p : KSt) : Bs := p.1.headD []
def nextS (p : KSt) : Bs × KSt := if (peekS p).isEmpty then ([], (p.1, true)) else (peekS p, (p.1.drop 1, p.2))
def takeS (p : KSt) (s : Bs) : Bool × KSt := if peekS p != s then (false, p) else (true, (nextS p).2)
def digVal (n : Nat) : Bs → Option Nat
  | [] => some n
  | c :: r => if digB c then digVal (10 * n + (c.toNat - 48)) r else none
def numS (s : Bs) : Option Int :=
  let d := if s.headD 0 = 45 then s.drop 1 else s
  match digVal 0 d with
  | none => none
  | some n => let v : Int := if s.headD 0 = 45 then -(n : Int) else n
    if -9223372036854775808 ≤ v ∧ v ≤ 9223372036854775807 ∧ itoaS v = s then some v else none
def argOf (s : Bs) : Arg :=
  if s.isEmpty then default
  else if s.headD 0 = 34 then ⟨2, (s.drop 1).take (s.length - 2), 0⟩
  else if uppB (s.headD 0) then ⟨1, s, 0⟩
  else match numS s with | some n => ⟨3, [], n⟩ | none => default
def argP (p : KSt) : Arg × KSt :=
  let x := nextS p
  (argOf x.1, (x.2.1, x.2.2 || !formedS (argOf x.1)))
def moreP : Nat → KSt → List Arg → List Arg × KSt
  | 0, p, out => (out, p)
  | f + 1, p, out => if !p.2 && (takeS p [44]).1 then (let a := argP (takeS p [44]).2; moreP f a.2 (out ++ [a.1])) else (out, p)
def atomP (p : KSt) : Atm × KSt :=
  let x := nextS p
  let t := takeS x.2 [40]
  if t.1 then
    let a := argP t.2
    let m := moreP (t.2.1.length + 1) a.2 [a.1]
    let c := if m.2.2 then (true, m.2) else (!(takeS m.2 [41]).1, (takeS m.2 [41]).2)
    let q : KSt := (c.2.1, m.2.2 || c.1)
    let r : Atm := ⟨x.1, m.1⟩
    (r, (q.1, q.2 || !atomS r))
  else (⟨x.1, []⟩, (t.2.1, t.2.2 || !atomS ⟨x.1, []⟩))
def parseAtomS (s : Bs) : Atm × Int :=
  let t := tokensS s
  if decide (4096 < s.length) || !t.2 then (default, 4)
  else
    let a := atomP (t.1, false)
    if a.2.2 || decide (0 < a.2.1.length) then (default, 4) else (a.1, 0)
def posS (l : Ltl) : Bool := !compsS l && !l.neg
def boundS (r : Rul) : List Bs := addB [] (r.body.filter posS)
def safeS (r : Rul) : Bool := (varsS r).all fun s => (boundS r).contains s
def atomsS (r : Rul) : List Atm := r.head :: (r.body.filter fun l => !compsS l).map (·.atom)
def firstBad : List Rul → Int → Option (Int × Int)
  | [], _ => none
  | r :: t, i => if !ruleS r then some (i, 1) else if !safeS r then some (i, 8) else firstBad t (i + 1)
abbrev KMap := List (Bs × Int)
def getK (m : KMap) (s : Bs) : Option Int := (m.find? fun p => p.1 == s).map (·.2)
def setK : KMap → Bs → Int → KMap
  | [], s, v => [(s, v)]
  | p :: r, s, v => if p.1 == s then (s, v) :: r else p :: setK r s v
def arGo (m : KMap) : List Atm → Option KMap
  | [] => some m
  | a :: r => match getK m a.name with
    | some n => if n ≠ a.args.length then none else arGo (setK m a.name a.args.length) r
    | none => arGo (setK m a.name a.args.length) r
def arRules (m : KMap) : List Rul → Int → Option Int
  | [], _ => none
  | r :: t, i => match arGo m (atomsS r) with | none => some i | some m' => arRules m' t (i + 1)
def check0S (l : List Rul) : Int × Int :=
  if 64 < l.length then (-1, 10) else match firstBad l 0 with
  | some e => e
  | none => match arRules [] l 0 with | some i => (i, 9) | none => (-1, 0)
end Go.Proofs.YtkjoaodoioicpaaGreatDoor
namespace Go.Proofs.YtkjoaodoioicpaaGreatDoor
open Go.RowKit
theorem lower_any (c : Int) (w : World) :
    Calls Tryz.prog 161 #[.int .u8 c] w fun e w' => e = .returned (.bool (lowI c)) ∧ w = w' := by
  go_enter Tryz.func161, Tryz.ntmps161
  go_wp2
  all_goals go_ret
  all_goals (simp_all [lowI]; try omega)
theorem upper_any (c : Int) (w : World) :
    Calls Tryz.prog 193 #[.int .u8 c] w fun e w' => e = .returned (.bool (uppI c)) ∧ w = w' := by
  go_enter Tryz.func193, Tryz.ntmps193
  go_wp2
  all_goals go_ret
  all_goals (simp_all [uppI]; try omega)
theorem digit_any (c : Int) (w : World) :
    Calls Tryz.prog 163 #[.int .u8 c] w fun e w' => e = .returned (.bool (digI c)) ∧ w = w' := by
  go_enter Tryz.func163, Tryz.ntmps163
  go_wp2
  all_goals go_ret
  all_goals (simp_all [digI]; try omega)
theorem pre1_any (c : Int) (w : World) :
    Calls Tryz.prog 162 #[.int .u8 c] w fun e w' => e = .returned (.bool (preI c)) ∧ w = w' := by
  go_enter Tryz.func162, Tryz.ntmps162
  go_wp2_with (first | (go_at_call 161; refine (lower_any _ _).mono ?_; rintro e w' ⟨rfl, rfl⟩) | (go_at_call 163; refine (digit_any _ _).mono ?_; rintro e w' ⟨rfl, rfl⟩))
  all_goals go_ret
  all_goals (simp_all [preI])
theorem var1_any (c : Int) (w : World) :
    Calls Tryz.prog 194 #[.int .u8 c] w fun e w' => e = .returned (.bool (varI c)) ∧ w = w' := by
  go_enter Tryz.func194, Tryz.ntmps194
  go_wp2_with (first | (go_at_call 161; refine (lower_any _ _).mono ?_; rintro e w' ⟨rfl, rfl⟩) | (go_at_call 193; refine (upper_any _ _).mono ?_; rintro e w' ⟨rfl, rfl⟩) | (go_at_call 163; refine (digit_any _ _).mono ?_; rintro e w' ⟨rfl, rfl⟩))
  all_goals go_ret
  all_goals (simp_all [varI])
set_option maxHeartbeats 800000 in
theorem each_any (s : Bs) (F1 F2 : Nat) (hF1 : ∀ (args : Array Value) (w : World), (callFunc F1 args).run Tryz.prog w = .ok (.enter F1 args) w) (hF2 : ∀ (args : Array Value) (w : World), (callFunc F2 args).run Tryz.prog w = .ok (.enter F2 args) w)
    (f o : Int → Bool) (h1 : ∀ c w, Calls Tryz.prog F1 #[.int .u8 c] w fun e w' => e = .returned (.bool (f c)) ∧ w = w') (h2 : ∀ c w, Calls Tryz.prog F2 #[.int .u8 c] w fun e w' => e = .returned (.bool (o c)) ∧ w = w') (w : World) (hl : s.length ≤ 9223372036854775807) :
    Calls Tryz.prog 160 #[.string ⟨s.toArray⟩, .func (.func F1) #[] #[], .func (.func F2) #[] #[]] w fun e w' => e = .returned (.bool (eachS s f o)) ∧ w = w' := by
  obtain ⟨v, hv⟩ : ∃ v, v = eachS s f o := ⟨_, rfl⟩
  rw [← hv]
  have H1 := Lib.hid h1; have H2 := Lib.hid h2; clear h1 h2
  by_cases g1 : 1 ≤ s.length
  · by_cases g2 : s.length ≤ 32
    · have hz : 0 < s.length := g1
      have hf0 := headD_get hz
      cases g3 : f s[0].toNat
      · have Hf : Hid (v = false) := by show v = _; rw [hv]; unfold eachS; rw [hf0, g3]; simp
        have H1' := H1.out s[0].toNat w
        rw [g3] at H1'
        clear hv hf0 g3
        go_enter Tryz.func160, Tryz.ntmps160
        go_wp2_with fail
        refine H1'.mono ?_
        rintro e w' ⟨rfl, rfl⟩
        go_wp2
        go_ret
        exact ⟨ret_bool Hf.out, rfl⟩
      · have Hf : Hid (v = (s.drop 0).all fun c => o c.toNat) := by show v = _; rw [hv]; unfold eachS; rw [hf0, g3]; simp [g1, g2]
        have H1' := H1.out s[0].toNat w
        rw [g3] at H1'
        clear hv hf0 g3
        go_enter Tryz.func160, Tryz.ntmps160
        go_wp2_with fail
        refine H1'.mono ?_
        rintro e w' ⟨rfl, rfl⟩
        go_wp2_with fail
        go_loop [25] (fun i => ∃ k : Nat, k ≤ s.length ∧ i = .int .i64 k ∧ Hid (v = (s.drop k).all fun c => o c.toNat)) (fun i => s.length - (intOf i).toNat)
        case atStart => exact ⟨0, by omega, rfl, Hf⟩
        case round =>
          obtain ⟨k, hk, rfl, hf⟩ := hrel
          by_cases hlt : k < s.length
          · have hd : v = (o s[k].toNat && (s.drop (k + 1)).all fun c => o c.toNat) := by rw [hf.out, drop_get hlt, List.all_cons]
            have H2' := H2.out s[k].toNat w
            generalize o s[k].toNat = b at *
            have HD := Lib.hid hd
            clear hf hd
            go_wp2_with fail
            refine H2'.mono ?_
            rintro e w' ⟨rfl, rfl⟩
            cases b
            · go_wp2
              go_ret
              exact ⟨ret_bool HD.out, rfl⟩
            · go_wp2
              go_round
              case rel => exact ⟨k + 1, by omega, by go_num, HD.out⟩
              case measure => simp [intOf]; omega
          · go_wp2
            go_ret
            exact ⟨ret_bool (by rw [hf.out, drop_end hlt]; rfl), rfl⟩
    · have Hf : Hid (v = false) := by show v = _; rw [hv]; unfold eachS; simp [g2]
      clear hv
      go_enter Tryz.func160, Tryz.ntmps160
      go_wp2
      go_ret
      exact ⟨ret_bool Hf.out, rfl⟩
  · have Hf : Hid (v = false) := by show v = _; rw [hv]; unfold eachS; simp [g1]
    clear hv
    go_enter Tryz.func160, Tryz.ntmps160
    go_wp2
    go_ret
    exact ⟨ret_bool Hf.out, rfl⟩
theorem predicate_any (s : Bs) (w : World) (hl : s.length ≤ 9223372036854775807) :
    Calls Tryz.prog 138 #[.string ⟨s.toArray⟩] w fun e w' => e = .returned (.bool (predS s)) ∧ w = w' := by
  have he := each_any s 161 162 (fun _ _ => by kernel_rfl) (fun _ _ => by kernel_rfl) lowI preI lower_any pre1_any w hl
  go_enter Tryz.func138, Tryz.ntmps138
  go_wp2_with (first | (go_at_call 160; refine he.mono ?_; rintro e w' ⟨rfl, rfl⟩))
  all_goals go_ret
  all_goals (simp_all [predS, sNot, bne])
theorem variable_any (s : Bs) (w : World) (hl : s.length ≤ 9223372036854775807) :
    Calls Tryz.prog 183 #[.string ⟨s.toArray⟩] w fun e w' => e = .returned (.bool (varS s)) ∧ w = w' := by
  have he := each_any s 193 194 (fun _ _ => by kernel_rfl) (fun _ _ => by kernel_rfl) uppI varI upper_any var1_any w hl
  go_enter Tryz.func183, Tryz.ntmps183
  go_wp2_with (first | (go_at_call 160; refine he.mono ?_; rintro e w' ⟨rfl, rfl⟩))
  all_goals go_ret
  all_goals (simp_all [varS])
set_option maxHeartbeats 800000 in
theorem constant_any (s : Bs) (w : World) (hl : s.length ≤ 9223372036854775807) :
    Calls Tryz.prog 184 #[.string ⟨s.toArray⟩] w fun e w' => e = .returned (.bool (conS s)) ∧ w = w' := by
  obtain ⟨v, hv⟩ : ∃ v, v = conS s := ⟨_, rfl⟩
  rw [← hv]
  by_cases g1 : s.length ≤ 128
  · have Hf : Hid (v = (s.drop 0).all fun c => conI c.toNat) := by show v = _; rw [hv]; unfold conS; simp [g1]
    clear hv
    go_enter Tryz.func184, Tryz.ntmps184
    go_wp2_with fail
    go_loop [9] (fun i => ∃ k : Nat, k ≤ s.length ∧ i = .int .i64 k ∧ Hid (v = (s.drop k).all fun c => conI c.toNat)) (fun i => s.length - (intOf i).toNat)
    case atStart => exact ⟨0, by omega, rfl, Hf⟩
    case round =>
      obtain ⟨k, hk, rfl, hf⟩ := hrel
      by_cases hlt : k < s.length
      · have hd : v = (conI s[k].toNat && (s.drop (k + 1)).all fun c => conI c.toNat) := by rw [hf.out, drop_get hlt, List.all_cons]
        have HD := Lib.hid hd
        clear hf hd
        go_wp2
        all_goals first
          | (go_round
             case rel => exact ⟨k + 1, by omega, by go_num, by show v = _; rw [HD.out]; simp_all [conI]⟩
             case measure => simp [intOf]; omega)
          | (go_ret; exact ⟨ret_bool (by rw [HD.out]; simp_all [conI]; try omega), rfl⟩)
      · go_wp2
        go_ret
        exact ⟨ret_bool (by rw [hf.out, drop_end hlt]; rfl), rfl⟩
  · have Hf : Hid (v = false) := by show v = _; rw [hv]; unfold conS; simp [g1]
    clear hv
    go_enter Tryz.func184, Tryz.ntmps184
    go_wp2
    go_ret
    exact ⟨ret_bool Hf.out, rfl⟩
end Go.Proofs.YtkjoaodoioicpaaGreatDoor
namespace Go.Proofs.YtkjoaodoioicpaaGreatDoor
open Go.RowKit
instance : GoT Arg where
  size := 3
  rd := fun _ _ g x => g 0 = .int .i64 x.kind ∧ g 1 = .string ⟨x.text.toArray⟩ ∧ g 2 = .int .i64 x.num
  keep := fun _ h => h
  wide := fun _ h => h
  same := fun hg h => ⟨(hg 0 (by omega)).trans h.1, (hg 1 (by omega)).trans h.2.1, (hg 2 (by omega)).trans h.2.2⟩
  one := fun h j hj => by match j, hj with
                          | 0, _ => rw [h.1]; rfl
                          | 1, _ => rw [h.2.1]; rfl
                          | 2, _ => rw [h.2.2]; rfl
instance : GoT Atm where
  size := 2
  rd := fun w S g x => g 0 = .string ⟨x.name.toArray⟩ ∧ ∃ A n c, g 1 = .slice A n c ∧ Sl w S A n c x.args
  keep := fun hk ⟨h0, A, n, c, e, h⟩ => ⟨h0, A, n, c, e, h.keep hk⟩
  wide := fun hk ⟨h0, A, n, c, e, h⟩ => ⟨h0, A, n, c, e, h.wide hk (by decide)⟩
  same := fun hg ⟨h0, A, n, c, e, h⟩ => ⟨(hg 0 (by omega)).trans h0, A, n, c, (hg 1 (by omega)).trans e, h⟩
  one := fun ⟨h0, A, n, c, e, _⟩ j hj => by match j, hj with
                                             | 0, _ => rw [h0]; rfl
                                             | 1, _ => rw [e]; rfl
instance : GoT Ltl where
  size := 4
  rd := fun w S g x => g 0 = .bool x.neg ∧ g 1 = .string ⟨x.op.toArray⟩ ∧ g 2 = .string ⟨x.atom.name.toArray⟩ ∧ ∃ A n c, g 3 = .slice A n c ∧ Sl w S A n c x.atom.args
  keep := fun hk ⟨h0, h1, h2, A, n, c, e, h⟩ => ⟨h0, h1, h2, A, n, c, e, h.keep hk⟩
  wide := fun hk ⟨h0, h1, h2, A, n, c, e, h⟩ => ⟨h0, h1, h2, A, n, c, e, h.wide hk (by decide)⟩
  same := fun hg ⟨h0, h1, h2, A, n, c, e, h⟩ => ⟨(hg 0 (by omega)).trans h0, (hg 1 (by omega)).trans h1, (hg 2 (by omega)).trans h2, A, n, c, (hg 3 (by omega)).trans e, h⟩
  one := fun ⟨h0, h1, h2, A, n, c, e, _⟩ j hj => by match j, hj with
                                                     | 0, _ => rw [h0]; rfl
                                                     | 1, _ => rw [h1]; rfl
                                                     | 2, _ => rw [h2]; rfl
                                                     | 3, _ => rw [e]; rfl
instance : GoT Rul where
  size := 3
  rd := fun w S g x => g 0 = .string ⟨x.head.name.toArray⟩ ∧ (∃ A n c, g 1 = .slice A n c ∧ Sl w S A n c x.head.args) ∧ ∃ A n c, g 2 = .slice A n c ∧ Sl w S A n c x.body
  keep := fun hk ⟨h0, ⟨A, n, c, e, h⟩, A', n', c', e', h'⟩ => ⟨h0, ⟨A, n, c, e, h.keep hk⟩, A', n', c', e', h'.keep hk⟩
  wide := fun hk ⟨h0, ⟨A, n, c, e, h⟩, A', n', c', e', h'⟩ => ⟨h0, ⟨A, n, c, e, h.wide hk (by decide)⟩, A', n', c', e', h'.wide hk (by decide)⟩
  same := fun hg ⟨h0, ⟨A, n, c, e, h⟩, A', n', c', e', h'⟩ => ⟨(hg 0 (by omega)).trans h0, ⟨A, n, c, (hg 1 (by omega)).trans e, h⟩, A', n', c', (hg 2 (by omega)).trans e', h'⟩
  one := fun ⟨h0, ⟨A, n, c, e, _⟩, A', n', c', e', _⟩ j hj => by match j, hj with
                                                                  | 0, _ => rw [h0]; rfl
                                                                  | 1, _ => rw [e]; rfl
                                                                  | 2, _ => rw [e']; rfl
section
variable {w w' : World} {S S' : Nat → Prop} {A : Option Addr} {n c k : Nat}
theorem Sl.arg {xs : List Arg} (h : Sl w S A n c xs) (hk : k < xs.length) : ∃ b o, A = some ⟨b, o, none⟩ ∧ S b ∧ b < w.heap.size ∧
    w.cell? ⟨b, o + k * 3, none⟩ = some (.int .i64 xs[k].kind) ∧ w.cell? ⟨b, o + k * 3 + 1, none⟩ = some (.string ⟨xs[k].text.toArray⟩) ∧ w.cell? ⟨b, o + k * 3 + 2, none⟩ = some (.int .i64 xs[k].num) := by
  obtain ⟨b, o, hA, hS, hb, g, hc, h0, h1, h2⟩ := h.plain (by decide) hk
  have c0 := hc 0 (by decide)
  have c1 := hc 1 (by decide)
  have c2 := hc 2 (by decide)
  rw [h0] at c0; rw [h1] at c1; rw [h2] at c2
  exact ⟨b, o, hA, hS, hb, c0, c1, c2⟩
theorem Sl.atm {xs : List Atm} (h : Sl w S A n c xs) (hk : k < xs.length) : ∃ b o, A = some ⟨b, o, none⟩ ∧ S b ∧ b < w.heap.size ∧ ∃ A1 n1 c1,
    w.cell? ⟨b, o + k * 2, none⟩ = some (.string ⟨xs[k].name.toArray⟩) ∧ w.cell? ⟨b, o + k * 2 + 1, none⟩ = some (.slice A1 n1 c1) ∧ Sl w S A1 n1 c1 xs[k].args := by
  obtain ⟨b, o, hA, hS, hb, g, hc, h0, A1, n1, c1, h1, hs⟩ := h.plain (by decide) hk
  have c0 := hc 0 (by decide)
  have d1 := hc 1 (by decide)
  rw [h0] at c0; rw [h1] at d1
  exact ⟨b, o, hA, hS, hb, A1, n1, c1, c0, d1, hs⟩
theorem Sl.ltl {xs : List Ltl} (h : Sl w S A n c xs) (hk : k < xs.length) : ∃ b o, A = some ⟨b, o, none⟩ ∧ S b ∧ b < w.heap.size ∧ ∃ A1 n1 c1,
    w.cell? ⟨b, o + k * 4, none⟩ = some (.bool xs[k].neg) ∧ w.cell? ⟨b, o + k * 4 + 1, none⟩ = some (.string ⟨xs[k].op.toArray⟩) ∧ w.cell? ⟨b, o + k * 4 + 2, none⟩ = some (.string ⟨xs[k].atom.name.toArray⟩) ∧
    w.cell? ⟨b, o + k * 4 + 3, none⟩ = some (.slice A1 n1 c1) ∧ Sl w S A1 n1 c1 xs[k].atom.args := by
  obtain ⟨b, o, hA, hS, hb, g, hc, h0, h1, h2, A1, n1, c1, h3, hs⟩ := h.plain (by decide) hk
  have c0 := hc 0 (by decide)
  have d1 := hc 1 (by decide)
  have d2 := hc 2 (by decide)
  have d3 := hc 3 (by decide)
  rw [h0] at c0; rw [h1] at d1; rw [h2] at d2; rw [h3] at d3
  exact ⟨b, o, hA, hS, hb, A1, n1, c1, c0, d1, d2, d3, hs⟩
theorem Sl.rul {xs : List Rul} (h : Sl w S A n c xs) (hk : k < xs.length) : ∃ b o, A = some ⟨b, o, none⟩ ∧ S b ∧ b < w.heap.size ∧ ∃ A1 n1 c1 A2 n2 c2,
    w.cell? ⟨b, o + k * 3, none⟩ = some (.string ⟨xs[k].head.name.toArray⟩) ∧ w.cell? ⟨b, o + k * 3 + 1, none⟩ = some (.slice A1 n1 c1) ∧ w.cell? ⟨b, o + k * 3 + 2, none⟩ = some (.slice A2 n2 c2) ∧
    Sl w S A1 n1 c1 xs[k].head.args ∧ Sl w S A2 n2 c2 xs[k].body := by
  obtain ⟨b, o, hA, hS, hb, g, hc, h0, ⟨A1, n1, c1, h1, hs1⟩, A2, n2, c2, h2, hs2⟩ := h.plain (by decide) hk
  have c0 := hc 0 (by decide)
  have d1 := hc 1 (by decide)
  have d2 := hc 2 (by decide)
  rw [h0] at c0; rw [h1] at d1; rw [h2] at d2
  exact ⟨b, o, hA, hS, hb, A1, n1, c1, A2, n2, c2, c0, d1, d2, hs1, hs2⟩
end
theorem eltArg : Elt 29 46 3 32 := .mk' (z := .agg #[.int .i64 0, .string ⟨#[]⟩, .int .i64 0]) (by kernel_rfl) (by kernel_rfl) rfl
theorem eltLtl : Elt 32 60 4 64 := .mk' (z := .agg #[.bool false, .string ⟨#[]⟩, .string ⟨#[]⟩, .slice none 0 0]) (by kernel_rfl) (by kernel_rfl) rfl
theorem eltAtm : Elt 23 31 2 40 := .mk' (z := .agg #[.string ⟨#[]⟩, .slice none 0 0]) (by kernel_rfl) (by kernel_rfl) rfl
theorem eltRul : Elt 22 34 3 64 := .mk' (z := .agg #[.string ⟨#[]⟩, .slice none 0 0, .slice none 0 0]) (by kernel_rfl) (by kernel_rfl) rfl
def vArg (x : Arg) : Value := .agg #[.int .i64 x.kind, .string ⟨x.text.toArray⟩, .int .i64 x.num]
def VAtm (w : World) (S : Nat → Prop) (v : Value) (x : Atm) : Prop := ∃ A n c, v = .agg #[.string ⟨x.name.toArray⟩, .slice A n c] ∧ Sl w S A n c x.args
def VLtl (w : World) (S : Nat → Prop) (v : Value) (x : Ltl) : Prop := ∃ A n c, v = .agg #[.bool x.neg, .string ⟨x.op.toArray⟩, .string ⟨x.atom.name.toArray⟩, .slice A n c] ∧ Sl w S A n c x.atom.args
def VRul (w : World) (S : Nat → Prop) (v : Value) (x : Rul) : Prop := ∃ A n c A' n' c', v = .agg #[.string ⟨x.head.name.toArray⟩, .slice A n c, .slice A' n' c'] ∧ Sl w S A n c x.head.args ∧ Sl w S A' n' c' x.body
def OkA (a : Arg) : Prop := a.text.length ≤ 9223372036854775807 ∧ -9223372036854775808 ≤ a.num ∧ a.num ≤ 9223372036854775807
def OkAs (l : List Arg) : Prop := ∀ a ∈ l, OkA a
def OkT (a : Atm) : Prop := a.name.length ≤ 9223372036854775807 ∧ OkAs a.args
def OkL (l : Ltl) : Prop := l.op.length ≤ 9223372036854775807 ∧ OkT l.atom
def OkR (r : Rul) : Prop := OkT r.head ∧ ∀ l ∈ r.body, OkL l
end Go.Proofs.YtkjoaodoioicpaaGreatDoor
namespace Go.Proofs.YtkjoaodoioicpaaGreatDoor
open Go.RowKit
set_option maxHeartbeats 800000 in
theorem formed_any (a : Arg) (w : World) (ha : OkA a) :
    Calls Tryz.prog 165 #[vArg a] w fun e w' => e = .returned (.bool (formedS a)) ∧ Below w.heap.size w w' := by
  obtain ⟨v, hv⟩ : ∃ v, v = formedS a := ⟨_, rfl⟩
  rw [← hv]
  obtain ⟨k, t, n⟩ := a
  have ht : t.length ≤ 9223372036854775807 := ha.1
  have hvar := fun w => variable_any t w ht
  have hcon := fun w => constant_any t w ht
  have HVA := Lib.hid hvar; have HCO := Lib.hid hcon
  clear hvar hcon ha
  unfold vArg
  unfold formedS at hv
  simp only at hv
  have Hv := Lib.hid hv; clear hv
  go_enter Tryz.func165, Tryz.ntmps165
  go_wp2_with (first | (go_at_call 183; refine (HVA.out _).mono ?_; rintro e w' ⟨rfl, rfl⟩) | (go_at_call 184; refine (HCO.out _).mono ?_; rintro e w' ⟨rfl, rfl⟩))
  all_goals go_ret
  all_goals (refine ⟨ret_bool ?_, boxed⟩; rw [Hv.out]; simp_all; try (intros; omega))
end Go.Proofs.YtkjoaodoioicpaaGreatDoor
namespace Go.Proofs.YtkjoaodoioicpaaGreatDoor
open Go.RowKit
def idxS {α : Type} (p : α → Bool) : List α → Nat → Int
  | [], _ => -1
  | x :: r, k => if p x then (k : Int) else idxS p r (k + 1)
theorem idxS_any {α : Type} (p : α → Bool) (l : List α) (k : Nat) : decide (0 ≤ idxS p l k) = l.any p := by
  induction l generalizing k with
  | nil => rfl
  | cons x r ih =>
    unfold idxS
    by_cases h : p x = true
    · simp [h]
    · simp [h, ih]
set_option maxHeartbeats 800000 in
theorem idxA_any (A : Option Addr) (n c : Nat) (w : World) (S : Nat → Prop) (xs : List Arg) (hl : Sl w S A n c xs) (F : Nat) (caps : Array Value) (hF : ∀ (args : Array Value) (w : World), (callFunc F args).run Tryz.prog w = .ok (.enter F args) w)
    (p : Arg → Bool) (hp : ∀ x ∈ xs, ∀ w1, Below w.heap.size w w1 → Calls Tryz.prog F (#[vArg x] ++ caps) w1 fun e w2 => e = .returned (.bool (p x)) ∧ Below w1.heap.size w1 w2) :
    Calls Tryz.prog 140 #[.slice A n c, .func (.func F) #[] caps] w fun e w' => e = .returned (.int .i64 (idxS p xs 0)) ∧ Below w.heap.size w w' := by
  have hn := hl.le
  have hlen := hl.len
  subst hlen
  have HL := Lib.hid hl; have HP := Lib.hid hp; clear hl hp
  obtain ⟨v0, hv⟩ : ∃ v0, v0 = idxS p xs 0 := ⟨_, rfl⟩
  rw [← hv]
  have Hf : Hid (v0 = idxS p (xs.drop 0) 0) := hv
  clear hv
  go_enter Tryz.func140, Tryz.ntmps140
  go_wp2_with fail
  go_loopw [8] (fun i wr => ∃ k : Nat, k ≤ xs.length ∧ i = .int .i64 k ∧ Below w.heap.size w wr ∧ Hid (v0 = idxS p (xs.drop k) k)) (fun i _ => xs.length - (intOf i).toNat)
  case atStart => exact ⟨0, by omega, rfl, Below.refl _ _, Hf⟩
  case round =>
    obtain ⟨k, hk, rfl, hb, hf⟩ := hrel
    by_cases hlt : k < xs.length
    · obtain ⟨b, o, rfl, -, hbs, h1, h2, h3⟩ := (HL.out.below hb).arg hlt
      have hd : v0 = if p xs[k] then (k : Int) else idxS p (xs.drop (k + 1)) (k + 1) := by rw [hf.out, drop_get hlt]; rfl
      have hc := HP.out _ (List.getElem_mem hlt) _ hb
      generalize p xs[k] = q at *
      generalize xs[k] = x at *
      have HD := Lib.hid hd; have HC := Lib.hid hc
      clear hd hc hf
      go_wp2_with fail
      refine HC.out.mono ?_
      rintro e w1 ⟨rfl, hb1⟩
      cases q
      · go_wp2
        go_roundw
        case rel => exact ⟨k + 1, by omega, by go_num, next hb hb1 (Nat.le_refl _), HD.out⟩
        case measure => simp [intOf]; omega
      · go_wp2
        go_ret
        exact ⟨ret_int HD.out, next hb hb1 (Nat.le_refl _)⟩
    · go_wp2
      go_ret
      exact ⟨ret_int (by rw [hf.out, drop_end hlt]; rfl), hb⟩
theorem conA_any (A : Option Addr) (n c : Nat) (w : World) (S : Nat → Prop) (xs : List Arg) (hl : Sl w S A n c xs) (F : Nat) (caps : Array Value) (hF : ∀ (args : Array Value) (w : World), (callFunc F args).run Tryz.prog w = .ok (.enter F args) w)
    (p : Arg → Bool) (hp : ∀ x ∈ xs, ∀ w1, Below w.heap.size w w1 → Calls Tryz.prog F (#[vArg x] ++ caps) w1 fun e w2 => e = .returned (.bool (p x)) ∧ Below w1.heap.size w1 w2) :
    Calls Tryz.prog 109 #[.slice A n c, .func (.func F) #[] caps] w fun e w' => e = .returned (.bool (xs.any p)) ∧ Below w.heap.size w w' := by
  have h := idxA_any A n c w S xs hl F caps hF p hp
  rw [← idxS_any p xs 0]
  generalize idxS p xs 0 = z at *
  have H := Lib.hid h
  clear h hl hp
  go_enter Tryz.func109, Tryz.ntmps109
  go_wp2_with (first | (go_at_call 140; refine H.out.mono ?_; rintro e w1 ⟨rfl, hb1⟩))
  go_ret
  exact ⟨rfl, hb1⟩
set_option maxHeartbeats 800000 in
theorem idxL_any (A : Option Addr) (n c : Nat) (w : World) (S : Nat → Prop) (xs : List Ltl) (hl : Sl w S A n c xs) (F : Nat) (caps : Array Value) (hF : ∀ (args : Array Value) (w : World), (callFunc F args).run Tryz.prog w = .ok (.enter F args) w)
    (p : Ltl → Bool) (hp : ∀ x ∈ xs, ∀ w1, Below w.heap.size w w1 → ∀ v, VLtl w1 S v x → Calls Tryz.prog F (#[v] ++ caps) w1 fun e w2 => e = .returned (.bool (p x)) ∧ Below w1.heap.size w1 w2) :
    Calls Tryz.prog 180 #[.slice A n c, .func (.func F) #[] caps] w fun e w' => e = .returned (.int .i64 (idxS p xs 0)) ∧ Below w.heap.size w w' := by
  have hn := hl.le
  have hlen := hl.len
  subst hlen
  have HL := Lib.hid hl; have HP := Lib.hid hp; clear hl hp
  obtain ⟨v0, hv⟩ : ∃ v0, v0 = idxS p xs 0 := ⟨_, rfl⟩
  rw [← hv]
  have Hf : Hid (v0 = idxS p (xs.drop 0) 0) := hv
  clear hv
  go_enter Tryz.func180, Tryz.ntmps180
  go_wp2_with fail
  go_loopw [8] (fun i wr => ∃ k : Nat, k ≤ xs.length ∧ i = .int .i64 k ∧ Below w.heap.size w wr ∧ Hid (v0 = idxS p (xs.drop k) k)) (fun i _ => xs.length - (intOf i).toNat)
  case atStart => exact ⟨0, by omega, rfl, Below.refl _ _, Hf⟩
  case round =>
    obtain ⟨k, hk, rfl, hb, hf⟩ := hrel
    by_cases hlt : k < xs.length
    · obtain ⟨b, o, rfl, -, hbs, A1, n1, c1, h1, h2, h3, h4, hs⟩ := (HL.out.below hb).ltl hlt
      have hd : v0 = if p xs[k] then (k : Int) else idxS p (xs.drop (k + 1)) (k + 1) := by rw [hf.out, drop_get hlt]; rfl
      have hc := HP.out _ (List.getElem_mem hlt) _ hb _ ⟨A1, n1, c1, rfl, hs⟩
      generalize p xs[k] = q at *
      generalize xs[k] = x at *
      have HD := Lib.hid hd; have HC := Lib.hid hc; have HS := Lib.hid hs; clear hs
      clear hd hc hf
      go_wp2_with fail
      refine HC.out.mono ?_
      rintro e w1 ⟨rfl, hb1⟩
      cases q
      · go_wp2
        go_roundw
        case rel => exact ⟨k + 1, by omega, by go_num, next hb hb1 (Nat.le_refl _), HD.out⟩
        case measure => simp [intOf]; omega
      · go_wp2
        go_ret
        exact ⟨ret_int HD.out, next hb hb1 (Nat.le_refl _)⟩
    · go_wp2
      go_ret
      exact ⟨ret_int (by rw [hf.out, drop_end hlt]; rfl), hb⟩
theorem conL_any (A : Option Addr) (n c : Nat) (w : World) (S : Nat → Prop) (xs : List Ltl) (hl : Sl w S A n c xs) (F : Nat) (caps : Array Value) (hF : ∀ (args : Array Value) (w : World), (callFunc F args).run Tryz.prog w = .ok (.enter F args) w)
    (p : Ltl → Bool) (hp : ∀ x ∈ xs, ∀ w1, Below w.heap.size w w1 → ∀ v, VLtl w1 S v x → Calls Tryz.prog F (#[v] ++ caps) w1 fun e w2 => e = .returned (.bool (p x)) ∧ Below w1.heap.size w1 w2) :
    Calls Tryz.prog 154 #[.slice A n c, .func (.func F) #[] caps] w fun e w' => e = .returned (.bool (xs.any p)) ∧ Below w.heap.size w w' := by
  have h := idxL_any A n c w S xs hl F caps hF p hp
  rw [← idxS_any p xs 0]
  generalize idxS p xs 0 = z at *
  have H := Lib.hid h
  clear h hl hp
  go_enter Tryz.func154, Tryz.ntmps154
  go_wp2_with (first | (go_at_call 180; refine H.out.mono ?_; rintro e w1 ⟨rfl, hb1⟩))
  go_ret
  exact ⟨rfl, hb1⟩
set_option maxHeartbeats 800000 in
theorem idxR_any (A : Option Addr) (n c : Nat) (w : World) (S : Nat → Prop) (xs : List Rul) (hl : Sl w S A n c xs) (F : Nat) (caps : Array Value) (hF : ∀ (args : Array Value) (w : World), (callFunc F args).run Tryz.prog w = .ok (.enter F args) w)
    (p : Rul → Bool) (hp : ∀ x ∈ xs, ∀ w1, Below w.heap.size w w1 → ∀ v, VRul w1 S v x → Calls Tryz.prog F (#[v] ++ caps) w1 fun e w2 => e = .returned (.bool (p x)) ∧ Below w1.heap.size w1 w2) :
    Calls Tryz.prog 90 #[.slice A n c, .func (.func F) #[] caps] w fun e w' => e = .returned (.int .i64 (idxS p xs 0)) ∧ Below w.heap.size w w' := by
  have hn := hl.le
  have hlen := hl.len
  subst hlen
  have HL := Lib.hid hl; have HP := Lib.hid hp; clear hl hp
  obtain ⟨v0, hv⟩ : ∃ v0, v0 = idxS p xs 0 := ⟨_, rfl⟩
  rw [← hv]
  have Hf : Hid (v0 = idxS p (xs.drop 0) 0) := hv
  clear hv
  go_enter Tryz.func90, Tryz.ntmps90
  go_wp2_with fail
  go_loopw [8] (fun i wr => ∃ k : Nat, k ≤ xs.length ∧ i = .int .i64 k ∧ Below w.heap.size w wr ∧ Hid (v0 = idxS p (xs.drop k) k)) (fun i _ => xs.length - (intOf i).toNat)
  case atStart => exact ⟨0, by omega, rfl, Below.refl _ _, Hf⟩
  case round =>
    obtain ⟨k, hk, rfl, hb, hf⟩ := hrel
    by_cases hlt : k < xs.length
    · obtain ⟨b, o, rfl, -, hbs, A1, n1, c1, A2, n2, c2, h1, h2, h3, hs, hs'⟩ := (HL.out.below hb).rul hlt
      have hd : v0 = if p xs[k] then (k : Int) else idxS p (xs.drop (k + 1)) (k + 1) := by rw [hf.out, drop_get hlt]; rfl
      have hc := HP.out _ (List.getElem_mem hlt) _ hb _ ⟨A1, n1, c1, A2, n2, c2, rfl, hs, hs'⟩
      generalize p xs[k] = q at *
      generalize xs[k] = x at *
      have HD := Lib.hid hd; have HC := Lib.hid hc; have HS := Lib.hid hs; have HS' := Lib.hid hs'; clear hs hs'
      clear hd hc hf
      go_wp2_with fail
      refine HC.out.mono ?_
      rintro e w1 ⟨rfl, hb1⟩
      cases q
      · go_wp2
        go_roundw
        case rel => exact ⟨k + 1, by omega, by go_num, next hb hb1 (Nat.le_refl _), HD.out⟩
        case measure => simp [intOf]; omega
      · go_wp2
        go_ret
        exact ⟨ret_int HD.out, next hb hb1 (Nat.le_refl _)⟩
    · go_wp2
      go_ret
      exact ⟨ret_int (by rw [hf.out, drop_end hlt]; rfl), hb⟩
set_option maxHeartbeats 800000 in
theorem idxB_any (A : Option Addr) (n c : Nat) (w : World) (S : Nat → Prop) (xs : List Bs) (hl : Sl w S A n c xs) (F : Nat) (caps : Array Value) (hF : ∀ (args : Array Value) (w : World), (callFunc F args).run Tryz.prog w = .ok (.enter F args) w)
    (p : Bs → Bool) (hp : ∀ x ∈ xs, ∀ w1, Below w.heap.size w w1 → Calls Tryz.prog F (#[.string ⟨x.toArray⟩] ++ caps) w1 fun e w2 => e = .returned (.bool (p x)) ∧ Below w1.heap.size w1 w2) :
    Calls Tryz.prog 182 #[.slice A n c, .func (.func F) #[] caps] w fun e w' => e = .returned (.int .i64 (idxS p xs 0)) ∧ Below w.heap.size w w' := by
  have hn := hl.le
  have hlen := hl.len
  subst hlen
  have HL := Lib.hid hl; have HP := Lib.hid hp; clear hl hp
  obtain ⟨v0, hv⟩ : ∃ v0, v0 = idxS p xs 0 := ⟨_, rfl⟩
  rw [← hv]
  have Hf : Hid (v0 = idxS p (xs.drop 0) 0) := hv
  clear hv
  go_enter Tryz.func182, Tryz.ntmps182
  go_wp2_with fail
  go_loopw [8] (fun i wr => ∃ k : Nat, k ≤ xs.length ∧ i = .int .i64 k ∧ Below w.heap.size w wr ∧ Hid (v0 = idxS p (xs.drop k) k)) (fun i _ => xs.length - (intOf i).toNat)
  case atStart => exact ⟨0, by omega, rfl, Below.refl _ _, Hf⟩
  case round =>
    obtain ⟨k, hk, rfl, hb, hf⟩ := hrel
    by_cases hlt : k < xs.length
    · obtain ⟨b, o, rfl, -, hbs, h1⟩ := (HL.out.below hb).str hlt
      have hd : v0 = if p xs[k] then (k : Int) else idxS p (xs.drop (k + 1)) (k + 1) := by rw [hf.out, drop_get hlt]; rfl
      have hc := HP.out _ (List.getElem_mem hlt) _ hb
      generalize p xs[k] = q at *
      generalize xs[k] = x at *
      have HD := Lib.hid hd; have HC := Lib.hid hc
      clear hd hc hf
      go_wp2_with fail
      refine HC.out.mono ?_
      rintro e w1 ⟨rfl, hb1⟩
      cases q
      · go_wp2
        go_roundw
        case rel => exact ⟨k + 1, by omega, by go_num, next hb hb1 (Nat.le_refl _), HD.out⟩
        case measure => simp [intOf]; omega
      · go_wp2
        go_ret
        exact ⟨ret_int HD.out, next hb hb1 (Nat.le_refl _)⟩
    · go_wp2
      go_ret
      exact ⟨ret_int (by rw [hf.out, drop_end hlt]; rfl), hb⟩
theorem conB_any (A : Option Addr) (n c : Nat) (w : World) (S : Nat → Prop) (xs : List Bs) (hl : Sl w S A n c xs) (F : Nat) (caps : Array Value) (hF : ∀ (args : Array Value) (w : World), (callFunc F args).run Tryz.prog w = .ok (.enter F args) w)
    (p : Bs → Bool) (hp : ∀ x ∈ xs, ∀ w1, Below w.heap.size w w1 → Calls Tryz.prog F (#[.string ⟨x.toArray⟩] ++ caps) w1 fun e w2 => e = .returned (.bool (p x)) ∧ Below w1.heap.size w1 w2) :
    Calls Tryz.prog 158 #[.slice A n c, .func (.func F) #[] caps] w fun e w' => e = .returned (.bool (xs.any p)) ∧ Below w.heap.size w w' := by
  have h := idxB_any A n c w S xs hl F caps hF p hp
  rw [← idxS_any p xs 0]
  generalize idxS p xs 0 = z at *
  have H := Lib.hid h
  clear h hl hp
  go_enter Tryz.func158, Tryz.ntmps158
  go_wp2_with (first | (go_at_call 182; refine H.out.mono ?_; rintro e w1 ⟨rfl, hb1⟩))
  go_ret
  exact ⟨rfl, hb1⟩
end Go.Proofs.YtkjoaodoioicpaaGreatDoor
namespace Go.Proofs.YtkjoaodoioicpaaGreatDoor
open Go.RowKit
def idxGo : List Bs → Bs → Int → Int
  | [], _, _ => -1
  | a :: r, x, k => if x == a then k else idxGo r x (k + 1)
theorem idxGo_pos (l : List Bs) (x : Bs) (k : Int) (hk : 0 ≤ k) : (0 ≤ idxGo l x k) ↔ l.contains x = true := by
  induction l generalizing k with
  | nil => simp [idxGo]
  | cons a r ih =>
    rw [idxGo, List.contains_cons]
    by_cases h : (x == a) = true
    · simp [h, hk]
    · rw [Bool.not_eq_true] at h
      rw [h, Bool.false_or, ← ih (k + 1) (by omega)]
      rfl
set_option maxHeartbeats 400000 in
theorem index_any (A : Option Addr) (n c : Nat) (w : World) (S : Nat → Prop) (l : List Bs) (x : Bs) (hl : Sl w S A n c l) :
    Calls Tryz.prog 91 #[.slice A n c, .string ⟨x.toArray⟩] w fun e w' => e = .returned (.int .i64 (idxGo l x 0)) ∧ w = w' := by
  have hn := hl.le
  have hlen := hl.len
  subst hlen
  have HL := Lib.hid hl; clear hl
  obtain ⟨v, hv⟩ : ∃ v, v = idxGo l x 0 := ⟨_, rfl⟩
  rw [← hv]
  have Hf : Hid (v = idxGo (l.drop 0) x 0) := hv
  clear hv
  go_enter Tryz.func91, Tryz.ntmps91
  go_wp2
  go_loop [8] (fun i => ∃ k : Nat, k ≤ l.length ∧ i = .int .i64 k ∧ Hid (v = idxGo (l.drop k) x k)) (fun i => l.length - (intOf i).toNat)
  case atStart => exact ⟨0, by omega, rfl, Hf⟩
  case round =>
    obtain ⟨k, hk, rfl, hf⟩ := hrel
    by_cases hlt : k < l.length
    · obtain ⟨b, o, rfl, -, hbs, h1⟩ := HL.out.str hlt
      have hd := hf.out
      rw [drop_get hlt, idxGo] at hd
      have Hd := Lib.hid hd; clear hd hf
      go_wp2
      · have hx : (x == l[k]) = true := by assumption
        go_ret
        exact ⟨ret_int (by rw [Hd.out, if_pos hx]), rfl⟩
      · have hx : (x == l[k]) = false := by assumption
        go_round
        case rel => exact ⟨k + 1, by omega, by go_num, by show v = _; rw [Hd.out, if_neg (by rw [hx]; simp)]; rfl⟩
        case measure => simp [intOf]; omega
    · have hd : v = -1 := by rw [hf.out, drop_end hlt]; rfl
      have Hd := Lib.hid hd; clear hd hf
      go_wp2
      go_ret
      exact ⟨ret_int Hd.out, rfl⟩
theorem contains_any (A : Option Addr) (n c : Nat) (w : World) (S : Nat → Prop) (l : List Bs) (x : Bs) (hl : Sl w S A n c l) :
    Calls Tryz.prog 60 #[.slice A n c, .string ⟨x.toArray⟩] w fun e w' => e = .returned (.bool (l.contains x)) ∧ w = w' := by
  have hi := index_any A n c w S l x hl
  have hp := idxGo_pos l x 0 (Int.le_refl 0)
  generalize idxGo l x 0 = i at *
  generalize l.contains x = b at *
  have Hi := Lib.hid hi; clear hi
  clear hl
  have Hp := Lib.hid hp; clear hp
  go_enter Tryz.func60, Tryz.ntmps60
  go_wp2_with (go_at_call 91; refine Hi.out.mono ?_; rintro e w' ⟨rfl, rfl⟩)
  go_ret
  refine ⟨ret_bool ?_, rfl⟩
  rw [Bool.eq_iff_iff, ← Hp.out]
  simp
end Go.Proofs.YtkjoaodoioicpaaGreatDoor
