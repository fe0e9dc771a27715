/- Query (package licitlaw54): a part of the proofs of its laws; see the law's own text, which comes last in 'order'. No conditions of its own. -/
import Derived.DeepKeys4
import Derived.OrdersHeld
import Derived.StillTail
import Derived.Deep.RegionHeld
import Derived.Test.YtkjoaodoioicpaaGreatDoorWC01
import Derived.Test.YtkjoaodoioicpaaGreatDoorWC05
import Derived.Test.YtkjoaodoioicpaaGreatDoorWC06
import Derived.Test.YtkjoaodoioicpaaGreatDoorWC07
set_option linter.unusedVariables false
set_option linter.unusedSimpArgs false
namespace Go.Proofs.YtkjoaodoioicpaaGreatDoor
def groundP (a : Atm) : Bool := atomS a && !(a.args.any fun x => x.kind == 1)
abbrev Bnd := List (Bs × Arg)
def getA : Bnd → Bs → Option Arg
  | [], _ => none
  | p :: r, s => if p.1 == s then some p.2 else getA r s
def setA : Bnd → Bs → Arg → Bnd
  | [], s, v => [(s, v)]
  | p :: r, s, v => if p.1 == s then (s, v) :: r else p :: setA r s v
def under (v : Bnd) (a : Arg) : Arg := match getA v a.text with
  | some x => if a.kind = 1 then x else a
  | none => a
def atomV (v : Bnd) (a : Atm) : Atm := ⟨a.name, a.args.map (under v)⟩
def fitGo (v : Bnd) : List Arg → List Arg → Option Bnd
  | [], _ => some v
  | x :: xs, fs => if (under v x).kind ≠ 1 then (if under v x = fs.headD default then fitGo v xs (fs.drop 1) else none)
      else fitGo (setA v x.text (fs.headD default)) xs (fs.drop 1)
def candS (b : List Atm) (a : Atm) : List Atm := b.filter fun f => f.name == a.name && f.args.length == a.args.length
def positiveS (l : Ltl) : Bool := l.op.isEmpty && !l.neg
def compareS (op : Bs) (a b : Arg) : Bool :=
  let n := ordS ⟨[], [a]⟩ ⟨[], [b]⟩
  if op = [61] then n == 0 else if op = [33, 61] then n != 0 else if op = [60] then decide (n < 0) else decide (n ≤ 0)
def restS (all : List Atm) (v : Bnd) : List Ltl → Bool
  | [] => true
  | l :: r =>
    if positiveS l then restS all v r
    else if l.op.isEmpty = false then (if compareS l.op (under v (l.atom.args.headD default)) (under v ((l.atom.args.drop 1).headD default)) then restS all v r else false)
    else if all.contains (atomV v l.atom) then false else restS all v r
def bindsS (some : List Atm) : List Ltl → Bnd → List Bnd
  | [], v => [v]
  | l :: r, v => if !positiveS l then bindsS some r v else (candS some l.atom).flatMap fun f => match fitGo v l.atom.args f.args with
      | Option.some w => bindsS some r w
      | none => []
def iterF {α σ : Type} (found : σ → α → σ × Bool) : List α → σ → σ × Bool
  | [], s => (s, true)
  | v :: r, s => if (found s v).2 then iterF found r (found s v).1 else ((found s v).1, false)
def eachQ (body : List Ltl) (some all : List Atm) : List Bnd := (bindsS some body []).filter fun v => restS all v body
def addQ (b : List Atm) (a : Atm) : List Atm := if b.contains a then b else b ++ [a]
def givenS (l : List Atm) : List Atm := l.foldl addQ []
def arX (m : KMap) : List Ltl → KMap
  | [] => m
  | x :: r => arX (if x.op.isEmpty then setK m x.atom.name x.atom.args.length else m) r
def arR (m : KMap) : List Rul → KMap
  | [] => m
  | r :: t => arR (arX (setK m r.head.name r.head.args.length) r.body) t
def chkF (m : KMap) : List Atm → Nat → Int × Int
  | [], _ => (-1, 0)
  | a :: r, i => if !groundP a then (i, 1) else match getK m a.name with
    | some n => if n ≠ a.args.length then (i, 9) else chkF (setK m a.name a.args.length) r (i + 1)
    | none => chkF (setK m a.name a.args.length) r (i + 1)
def checkQ (l : List Rul) (facts : List Atm) : Int × Int :=
  if (checkS53 l).2 ≠ 0 then checkS53 l else if 1024 < facts.length then (-1, 10) else chkF (arR [] l) facts 0
def headF (b : List Atm) (most : Nat) (head : Atm) (s : List Atm) (v : Bnd) : List Atm × Bool :=
  let h := atomV v head
  let t := if b.contains h || s.contains h then s else s ++ [h]
  (t, decide (b.length + t.length ≤ most))
def headsS (b : List Atm) (most : Nat) (r : Rul) : List Atm := (iterF (headF b most r.head) (eachQ r.body b b) []).1
def satR (most : Nat) : List Rul → List Atm → Bool → Option (List Atm × Bool)
  | [], b, again => some (b, again)
  | r :: t, b, again =>
    let b' := b ++ headsS b most r
    if most < b'.length then none else satR most t b' (again || !(headsS b most r).isEmpty)
def satGo (most : Nat) (l : List Rul) : Nat → List Atm → Option (List Atm)
  | 0, _ => none
  | f + 1, b => match satR most l b false with
    | none => none
    | some (b', again) => if again then satGo most l f b' else some b'
def ownS (l : List Rul) (names : List Bs) : List Rul := l.filter fun r => names.contains r.head.name
def modGo (most : Nat) (l : List Rul) : List (List Bs) → List Atm → Option (List Atm)
  | [], b => some b
  | names :: t, b => match satGo most (ownS l names) (most + 2) b with
    | none => none
    | some b' => modGo most l t b'
def modelS (l : List Rul) (facts : List Atm) : List Atm × Int × Int :=
  if (checkQ l facts).2 ≠ 0 then ([], checkQ l facts) else match modGo ((givenS facts).length + 1024) l (strataS l).1 (givenS facts) with
    | none => ([], -1, 10)
    | some b => (b, -1, 0)
def insT (a : Atm) : List Atm → List Atm
  | [] => [a]
  | y :: r => if ordS y a < 0 then y :: insT a r else a :: y :: r
def sortT (l : List Atm) : List Atm := l.foldr insT []
def evalS (l : List Rul) (facts : List Atm) : List Atm × Int × Int :=
  if (modelS l facts).2.2 ≠ 0 then ([], (modelS l facts).2) else (sortT (modelS l facts).1, -1, 0)
def rankF (known : List Atm) (head : Atm) (s : List Atm) (v : Bnd) : List Atm × Bool := (if known.contains (atomV v head) then s else s ++ [atomV v head], true)
def rankH (known all : List Atm) : List Rul → List Atm → List Atm
  | [], s => s
  | r :: t, s => rankH known all t (iterF (rankF known r.head) (eachQ r.body known all) s).1
def rankAdd (n : Int) : List Atm → List Atm → List (Atm × Int) → List Atm × List (Atm × Int)
  | [], known, rk => (known, rk)
  | h :: t, known, rk => if known.contains h then rankAdd n t known rk else rankAdd n t (known ++ [h]) (rk ++ [(h, n)])
def rankGo (l : List Rul) (all : List Atm) : Nat → Int → List Atm → List (Atm × Int) → Option (List (Atm × Int))
  | 0, _, _, _ => none
  | f + 1, n, known, rk => if known.length < all.length then (let p := rankAdd n (rankH known all l []) known rk; rankGo l all f (n + 1) p.1 p.2) else some rk
def rankOf : List (Atm × Int) → Atm → Int
  | [], _ => 0
  | p :: r, a => if p.1 = a then p.2 else rankOf r a
def ranksS (l : List Rul) (facts : List Atm) : Option (List Int × Int × Int) :=
  if (modelS l facts).2.2 ≠ 0 then some ([], (modelS l facts).2) else
    (rankGo l (modelS l facts).1 ((modelS l facts).1.length + 1) 1 (givenS facts) []).map fun rk => ((sortT (modelS l facts).1).map (rankOf rk), -1, 0)
def readyS (r : Rul) (model : List Atm) : Int :=
  let e := (checkS53 [r]).2
  if e = 1 ∨ 2048 < model.length ∨ (model.any fun a => !groundP a) = true then 1 else if e = 8 then 8 else 0
def outF (head : Atm) (s : List Atm) (v : Bnd) : List Atm × Bool := (addQ s (atomV v head), decide ((addQ s (atomV v head)).length ≤ 1024))
def outS (r : Rul) (model : List Atm) : List Atm := (iterF (outF r.head) (eachQ r.body (givenS model) (givenS model)) []).1
def stepS (r : Rul) (model : List Atm) : List Atm × Int :=
  if readyS r model ≠ 0 then ([], readyS r model) else if 1024 < (outS r model).length then ([], 10) else (sortT (outS r model), 0)
def sAsk : Bs := [97, 115, 107]
def askS (model : List Atm) (question : List Ltl) : List (List Arg) × Int :=
  let r : Rul := ⟨⟨sAsk, []⟩, question⟩
  if readyS r model ≠ 0 then ([], readyS r model) else
    let r2 : Rul := ⟨⟨sAsk, (varsS r).map fun s => ⟨1, s, 0⟩⟩, question⟩
    if 1024 < (outS r2 model).length then ([], 10) else ((sortT (outS r2 model)).map (·.args), 0)
def hasQ (model : List Atm) (fact : Atm) : Bool := model.contains fact
def tq1 : Bs := "reach(X, Y) :- edge(X, Y).\nreach(X, Z) :- reach(X, Y), edge(Y, Z).".toUTF8.data.toList
end Go.Proofs.YtkjoaodoioicpaaGreatDoor
namespace Go.Proofs.YtkjoaodoioicpaaGreatDoor
open Go.RowKit Go.ChangeShapes Go.WideShapes
section
variable {κ : Type} [DecidableEq κ] {T : KeyT κ} {ops : Array Oper} {rest : List Oper} {o : Oper} {a : Act} {Q : Exit → Act → World → Prop} {w : World} {b : Nat} {m : List (κ × Value)} {t e : TypeId}
theorem wpList_lookVok (hg : o.guard = none) (x y : Operand) (hop : o.op = Op.lookup t x y true) (ht : Tryz.prog.underlying t = some (.map T.K e)) {z : Value} (hz : (zeroValue e).run Tryz.prog w = .ok z w) (hx : a.eval x = .map (some b)) (k : κ) (hy : a.eval y = T.kv k) (hm : MapV T w b m) (hk : T.ok k) {r : Option Value} (hr : getM m k = r) (u : Value) (hu : r.getD z = u) (c : Bool) (hc : r.isSome = c)
    (h : wpList Tryz.prog ops Q rest (a.put o.dst (.tuple #[u, .bool c])) w) : wpList Tryz.prog ops Q (o :: rest) a w := by
  refine wpList_plain hg fun K' hK' => ?_
  have hrun := hm.look ht hz hk true
  rw [hr, hu, hc] at hrun
  unfold Oper.wp
  simp [execOp, hop, hx, hy, hrun, Result.andThen]
  exact hK' _ _ h
end
section
variable {κ : Type} [DecidableEq κ] {T : KeyT κ} {ops : Array Oper} {o : Oper} {a : Act} {K : Act → World → Prop} {Q : Exit → Act → World → Prop} {E : Prop} {w : World} {b : Nat} {m : List (κ × Value)} {t e : TypeId}
theorem step_updV (hgd : o.guard = none) (x y z : Operand) (hop : o.op = Op.mapUpdate t x y z) (ht : Tryz.prog.underlying t = some (.map T.K e)) (hx : a.eval x = .map (some b)) (k : κ) (hy : a.eval y = T.kv k) (v : Value) (hz : a.eval z = v) (hm : MapV T w b m) (hk : T.ok k)
    (h : ∀ w', MapV T w' b (setM m k v) → w.grownBy w' (some b) → K (a.put o.dst undef) w') : if Region.wanted o (yielded ops a.tmps) = true then Oper.wp Tryz.prog o a w K Q else E := by
  have hw : Region.wanted o (yielded ops a.tmps) = true := by simp [Region.wanted, hgd]
  rw [if_pos hw]
  obtain ⟨w', hrun, r1, r2⟩ := hm.update ht hk v
  unfold Oper.wp
  simp [execOp, hop, hx, hy, hz, hrun, Result.andThen]
  exact h w' r1 r2
theorem step_entV (hgd : o.guard = none) (x y : Operand) (hop : o.op = Op.mapEntry t x y) (ht : Tryz.prog.underlying t = some (.map T.K e)) {z : Value} (hz : ∀ u : World, (zeroValue e).run Tryz.prog u = .ok z u) (hx : a.eval x = .map (some b)) (k : κ) (hy : a.eval y = T.kv k) (hm : MapV T w b m) (hk : T.ok k) {r : Option Value} (hr : getM m k = r) (u : Value) (hu : r.getD z = u)
    (h : ∀ (st : Nat) w1, w.grownBy w1 (some b) → MapV T w1 b (setM m k u) → (∀ (w2 : World) (v : Value), w2.heap[b]? = w1.heap[b]? → ∃ w3, (Instr.entryStore t (.map (some b)) (goInt st) v).run Tryz.prog w2 = .ok () w3 ∧ MapV T w3 b (setM m k v) ∧ w2.grownBy w3 (some b)) →
      K (a.put o.dst (.tuple #[u, goInt st])) w1) : if Region.wanted o (yielded ops a.tmps) = true then Oper.wp Tryz.prog o a w K Q else E := by
  have hw : Region.wanted o (yielded ops a.tmps) = true := by simp [Region.wanted, hgd]
  rw [if_pos hw]
  obtain ⟨st, w1, hrun, h1, h2, h3⟩ := hm.entry ht hz hk
  rw [hr, hu] at hrun h2
  unfold Oper.wp
  simp [execOp, hop, hx, hy, hrun, Result.andThen]
  exact h st w1 h1 h2 h3
theorem step_estV (hgd : o.guard = none) (x s y : Operand) (hop : o.op = Op.entryStore t x s y) (hx : a.eval x = .map (some b)) {st : Nat} (hs : a.eval s = goInt st) (v : Value) (hy : a.eval y = v) {w3 : World} (hrun : (Instr.entryStore t (.map (some b)) (goInt st) v).run Tryz.prog w = .ok () w3)
    (h : K (a.put o.dst undef) w3) : if Region.wanted o (yielded ops a.tmps) = true then Oper.wp Tryz.prog o a w K Q else E := by
  have hw : Region.wanted o (yielded ops a.tmps) = true := by simp [Region.wanted, hgd]
  rw [if_pos hw]
  unfold Oper.wp
  simp [execOp, hop, hx, hs, hy, hrun, Result.andThen]
  exact h
end
def TS : KeyT Bs where
  K := 9
  kv := fun s => .string ⟨s.toArray⟩
  law := WideMaps.string_law Tryz.underlying9
  ok := fun s => s.length ≤ 9223372036854775807
  lit := fun s hs => ⟨_, WideMaps.keyOf_string_mk Tryz.underlying9 (s := ⟨s.toArray⟩) (by simpa [ByteArray.size, maxLen] using hs)⟩
  inj := fun a b h => by
    injection h with h
    injection h with h
    simpa using congrArg Array.toList h
def MapA (w : World) (b : Nat) (v : Bnd) : Prop := MapV TS w b (v.map fun p => (p.1, vArg p.2)) ∧ ∀ p ∈ v, OkA p.2
theorem getM_bnd (v : Bnd) (s : Bs) : getM (v.map fun p => (p.1, vArg p.2)) s = (getA v s).map vArg := by
  induction v with
  | nil => rfl
  | cons p r ih =>
    rw [List.map_cons, getM_cons, getA]
    by_cases h : p.1 = s
    · simp [h]
    · have : (p.1 == s) = false := by simpa using h
      rw [if_neg h, this, ih]; rfl
theorem setM_bnd (v : Bnd) (s : Bs) (x : Arg) : setM (v.map fun p => (p.1, vArg p.2)) s (vArg x) = (setA v s x).map fun p => (p.1, vArg p.2) := by
  induction v with
  | nil => rfl
  | cons p r ih =>
    rw [List.map_cons, setM, setA]
    by_cases h : p.1 = s
    · simp [h]
    · have : (p.1 == s) = false := by simpa using h
      rw [if_neg h, this, ih]; rfl
theorem MapA.below {w w' : World} {b : Nat} {v : Bnd} (h : MapA w b v) (hb : Below w.heap.size w w') : MapA w' b v := ⟨h.1.below hb, h.2⟩
theorem MapA.alloc {w : World} {b : Nat} {v : Bnd} (h : MapA w b v) (o : Obj) : MapA (w.alloc o) b v := ⟨h.1.alloc o, h.2⟩
theorem getA_ok {v : Bnd} (h : ∀ p ∈ v, OkA p.2) {s : Bs} {x : Arg} (hg : getA v s = some x) : OkA x := by
  induction v with
  | nil => cases hg
  | cons p r ih =>
    rw [getA] at hg
    split at hg
    · injection hg with hg; rw [← hg]; exact h p List.mem_cons_self
    · exact ih (fun q hq => h q (List.mem_cons_of_mem _ hq)) hg
theorem under_ok {v : Bnd} (h : ∀ p ∈ v, OkA p.2) {x : Arg} (hx : OkA x) : OkA (under v x) := by
  unfold under
  split
  · rename_i y hy
    split
    · exact getA_ok h hy
    · exact hx
  · exact hx
def zArg : Value := .agg #[.int .i64 0, .string ⟨#[]⟩, .int .i64 0]
theorem zeroA (w : World) : (zeroValue 46).run Tryz.prog w = .ok zArg w := by kernel_rfl
set_option maxRecDepth 100000 in
set_option maxHeartbeats 2000000 in
theorem under_any (v : Bnd) (x : Arg) (b : Nat) (w : World) (hm : MapA w b v) (hx : OkA x) :
    Calls Tryz.prog 81 #[.map (some b), vArg x] w fun e w' => e = .returned (vArg (under v x)) ∧ Below w.heap.size w w' := by
  obtain ⟨xk, xt, xn⟩ := x
  have hxl := hx.1
  simp only at hxl
  obtain ⟨R, hR⟩ : ∃ R, R = under v ⟨xk, xt, xn⟩ := ⟨_, rfl⟩
  rw [← hR]
  unfold under at hR
  simp only at hR
  have hgm := getM_bnd v xt
  have HM := Lib.hid hm.1
  clear hx hm
  unfold vArg at *
  cases hg : getA v xt with
  | none =>
    rw [hg] at hR hgm
    simp only at hR
    have HG := Lib.hid hgm; clear hgm hg
    subst hR
    go_enter Tryz.func81, Tryz.ntmps81
    go_wp2_with (first | (at_lookup; go_loud (refine wpList_lookVok rfl _ _ rfl Tryz.underlying85 (zeroA _) rfl xt rfl ((HM.out.alloc _).alloc _) hxl HG.out (.agg #[.int .i64 0, .string ⟨#[]⟩, .int .i64 0]) rfl false rfl ?_)))
    refine bodyPost_ret (v := .agg #[.int .i64 xk, .string ⟨xt.toArray⟩, .int .i64 xn]) (by simp [results, Tryz.results81, go_sem]) rfl ?_
    exact ⟨rfl, (boxed.alloc (by simp) _).alloc (by simp; omega) _⟩
  | some y =>
    rw [hg] at hR hgm
    simp only at hR
    obtain ⟨yk, yt, yn⟩ := y
    simp only [Option.map_some] at hgm
    have HG := Lib.hid hgm; clear hgm hg
    by_cases hk : xk = 1
    · rw [if_pos hk] at hR
      subst hR
      subst hk
      go_enter Tryz.func81, Tryz.ntmps81
      go_wp2_with (first | (at_lookup; go_loud (refine wpList_lookVok rfl _ _ rfl Tryz.underlying85 (zeroA _) rfl xt rfl ((HM.out.alloc _).alloc _) hxl HG.out (.agg #[.int .i64 yk, .string ⟨yt.toArray⟩, .int .i64 yn]) rfl true rfl ?_)))
      refine bodyPost_ret (v := .agg #[.int .i64 yk, .string ⟨yt.toArray⟩, .int .i64 yn]) (by simp [results, Tryz.results81, go_sem]) rfl ?_
      exact ⟨rfl, (boxed.alloc (by simp) _).alloc (by simp; omega) _⟩
    · rw [if_neg hk] at hR
      subst hR
      have hkb : (xk == 1) = false := by simpa using hk
      go_enter Tryz.func81, Tryz.ntmps81
      go_wp2_with (first | (at_lookup; go_loud (refine wpList_lookVok rfl _ _ rfl Tryz.underlying85 (zeroA _) rfl xt rfl ((HM.out.alloc _).alloc _) hxl HG.out (.agg #[.int .i64 yk, .string ⟨yt.toArray⟩, .int .i64 yn]) rfl true rfl ?_)))
      refine bodyPost_ret (v := .agg #[.int .i64 xk, .string ⟨xt.toArray⟩, .int .i64 xn]) (by simp [results, Tryz.results81, go_sem]) rfl ?_
      exact ⟨rfl, (boxed.alloc (by simp) _).alloc (by simp; omega) _⟩
end Go.Proofs.YtkjoaodoioicpaaGreatDoor
namespace Go.Proofs.YtkjoaodoioicpaaGreatDoor
open Go.RowKit
section
variable {P : Program} {ops : Array Oper} {Q : Exit → Act → World → Prop} {md : Region.Mode} {S : World → Prop} {n : Nat}
def wpAnyY (P : Program) (md : Region.Mode) (ops : Array Oper) (Q : Exit → Act → World → Prop) (S : World → Prop) (n : Nat) : Nat → Array Bool → Act → World → Prop
  | 0, listed, a, w => Region.ready md ops listed = [] ∧ Q .normal a w
  | fuel + 1, listed, a, w =>
    (Region.ready md ops listed = [] → Q .normal a w) ∧
    ∀ i ∈ Region.ready md ops listed, wpOp P ops Q i (fun a' w' => (i ≠ n → S w') ∧ wpAnyY P md ops Q S n fuel (listed.setIfInBounds i true) a' w') a w
theorem wpAny_of_Y : ∀ (fuel : Nat) (listed : Array Bool) (a : Act) (w : World), wpAnyY P md ops Q S n fuel listed a w → wpAny P md ops Q fuel listed a w
  | 0, _, _, _, h => h
  | fuel + 1, _, _, _, h => ⟨h.1, fun i hi => wpOp_mono (fun a' w' h' => wpAny_of_Y fuel _ a' w' h'.2) (h.2 i hi)⟩
theorem wpAnyY_first {i : Nat} {oi : Oper} {v : Value} (hi : ops[i]? = some oi) (hsel : ∀ (j : Nat) (o : Oper) cs b, ops[j]? = some o → o.op ≠ .select cs b)
    (hQ : ∀ c a w, Q (.panic c) (a.put oi.dst v) w → Q (.panic c) a w) (hw : Region.waitsFor md ops n i = true) :
    ∀ (fuel : Nat) (listed : Array Bool) (a : Act) (w : World),
      (∀ j oj, ops[j]? = some oj → j ≠ i → listed.getD j true = false → (∀ e ∈ oj.after, Region.binds md e = true → e.on ≠ i) → oi.apart ops oj = true) →
      i ∈ Region.ready md ops listed → YieldsIf P ops S oi v a → S w →
      wpAnyY P md ops Q S n fuel (listed.setIfInBounds i true) (a.put oi.dst v) w → wpAnyY P md ops Q S n (fuel + 1) listed a w := by
  intro fuel
  induction fuel with
  | zero =>
    intro listed a w _ hr hy hS H
    refine ⟨fun h => (by rw [h] at hr; cases hr), fun j hj => ?_⟩
    by_cases hji : j = i
    · subst hji; exact hy.wpOp hi hS ⟨fun _ => hS, H⟩
    · have := ready_mono hj hji
      rw [H.1] at this
      cases this
  | succ fuel ih =>
    intro listed a w hfree hr hy hS H
    refine ⟨fun h => (by rw [h] at hr; cases hr), fun j hj => ?_⟩
    by_cases hji : j = i
    · subst hji; exact hy.wpOp hi hS ⟨fun _ => hS, H⟩
    · have h1 := H.2 j (ready_mono hj hji)
      obtain ⟨hjun, oj, hoj, hall⟩ := mem_ready.1 hj
      have hnot : ∀ e ∈ oj.after, Region.binds md e = true → e.on ≠ i := fun e he hb heq => by
        have h1 := hall e he hb
        have h0 := (mem_ready.1 hr).1
        rw [heq] at h1
        rcases Nat.lt_or_ge i listed.size with h' | h'
        · simp [h'] at h0 h1; rw [h0] at h1; cases h1
        · simp [Array.getElem?_eq_none h'] at h1
      have hjn : j ≠ n := fun hjn => by
        obtain ⟨o', ho', e, he, hb, hon⟩ := Region.waitsFor_spec hw
        rw [← hjn, hoj] at ho'
        injection ho' with ho'
        subst ho'
        exact absurd hon (hnot e he hb)
      have h2 := wpOp_putIf hoj (hfree j oj hoj hji hjun hnot) (fun cs b => hsel i oi cs b hi) (fun cs b => hsel j oj cs b hoj) hQ hy h1
      have hfree' : ∀ k ok, ops[k]? = some ok → k ≠ i → (listed.setIfInBounds j true).getD k true = false →
          (∀ e ∈ ok.after, Region.binds md e = true → e.on ≠ i) → oi.apart ops ok = true := fun k ok hk hki hun hno => by
        refine hfree k ok hk hki ?_ hno
        by_cases hjk : j = k
        · subst hjk; exact hjun
        · rw [getD_set_ne true hjk] at hun; exact hun
      refine wpOp_mono (fun a' w' h3 => ⟨h3.2.1, ih (listed.setIfInBounds j true) a' w' hfree' (ready_mono hr (Ne.symm hji)) h3.1 (h3.2.1 hjn) ?_⟩) h2
      rw [Array.setIfInBounds_comm _ _ hji]
      exact h3.2.2
theorem wpAnyY_takeW (i : Nat) {oi : Oper} {d : Nat} {v : Value} {fuel : Nat} {listed : Array Bool} {a : Act} {w : World} (hi : ops[i]? = some oi) (hd : oi.dst = some d)
    (hs : Region.noSelect ops = true) (hf : Region.free md ops listed i = true) (hr : (Region.ready md ops listed).contains i = true) (hw : Region.waitsFor md ops n i = true)
    (hQ : ∀ c a w, Q (.panic c) (a.put oi.dst v) w → Q (.panic c) a w) (hwt : Region.wanted oi (yielded ops a.tmps) = true) (hS : S w) (hy : ∀ x, S x → (execOp a.eval oi).run P x = .ok (.value v) x)
    (h : wpAnyY P md ops Q S n fuel (listed.setIfInBounds i true) { a with tmps := a.tmps.setIfInBounds d v } w) : wpAnyY P md ops Q S n (fuel + 1) listed a w :=
  wpAnyY_first hi (Region.noSelect_spec hs) hQ hw fuel listed a w (Region.free_spec hi hf) (by simpa using hr) (.inl ⟨hwt, hy⟩) hS (by rw [hd]; exact h)
theorem wpAnyY_one (i : Nat) {o : Oper} {fuel : Nat} {listed : Array Bool} {a : Act} {w : World} (hr : Region.ready md ops listed = [i]) (ho : ops[i]? = some o)
    (h : ∀ K' : Act → World → Prop, Shut (∀ a' w', (i ≠ n → S w') → wpAnyY P md ops Q S n fuel (listed.setIfInBounds i true) a' w' → K' a' w') → if Region.wanted o (yielded ops a.tmps) = true then Oper.wp P o a w K' Q else K' (a.put o.dst undef) w) :
    wpAnyY P md ops Q S n (fuel + 1) listed a w := by
  refine ⟨fun h0 => (by rw [hr] at h0; cases h0), fun j hj => ?_⟩
  rw [hr] at hj
  have hji : j = i := by simpa using hj
  subst hji
  exact wpOp_step ho (fun K' hK => h K' (fun a w hS hW => hK a w ⟨hS, hW⟩))
theorem wpAnyY_done {listed : Array Bool} {a : Act} {w : World} (hr : Region.ready md ops listed = []) (h : Q .normal a w) : ∀ fuel, wpAnyY P md ops Q S n fuel listed a w
  | 0 => ⟨hr, h⟩
  | _ + 1 => ⟨fun _ => h, by rw [hr]; simp⟩
theorem wpY_region (S : World → Prop) (n : Nat) {id : Nat} {a : Act} {w : World} (hm : P.follows .mixedOrders = true)
    (h : wpAnyY P .any ops Q S n ops.size (Array.replicate ops.size false) a w.drew) : (Code.region id ops true).wp P Q a w :=
  wp_region_any hm (wpAny_of_Y _ _ _ _ h)
end
end Go.Proofs.YtkjoaodoioicpaaGreatDoor
namespace Go.Proofs.YtkjoaodoioicpaaGreatDoor
open Go.RowKit
structure AQR (w wx : World) (nm : Bs) (out : List Arg) : Prop where
  bel : Below w.heap.size w wx
  res : wx.heap[w.heap.size + 1]? = some (.cells #[.string ⟨#[]⟩, .slice none 0 0] 31 (0, 0))
  own : ∃ A c, wx.heap[w.heap.size + 2]? = some (.cells #[.string ⟨nm.toArray⟩, .slice A out.length c] 31 (0, 0)) ∧ Own wx (fun _ => False) (w.heap.size + 3) 46 A c out
theorem AQR.below {w wx wy : World} {nm : Bs} {out : List Arg} (h : AQR w wx nm out) (hb : Below wx.heap.size wx wy) : AQR w wy nm out := by
  obtain ⟨A, c, h1, h2⟩ := h.own
  exact ⟨next h.bel hb (Nat.le_refl _), keptBlk hb h.res, A, c, keptBlk hb h1, h2.below hb⟩
theorem AQR.app {w wx w6 : World} {nm : Bs} {out : List Arg} {A A' : Option Addr} {c c' : Nat} {a : Arg} (h : AQR w wx nm out)
    (hb : wx.heap[w.heap.size + 2]? = some (.cells #[.string ⟨nm.toArray⟩, .slice A out.length c] 31 (0, 0))) (ho : Own wx (fun _ => False) (w.heap.size + 3) 46 A c out)
    (ho' : Own w6 (fun _ => False) (w.heap.size + 3) 46 A' c' (out ++ [a])) (hgr : wx.grownBy w6 (A.map Addr.block)) :
    AQR w (w6.setCell ⟨w.heap.size + 2, 1, none⟩ (.slice A' (out.length + 1) c')) nm (out ++ [a]) := by
  have hne : ∀ k, k ≤ w.heap.size + 2 → A.map Addr.block ≠ some k := fun k hk e => by have := (ho.lt k e).1; omega
  have hk6 : ∀ k, k < wx.heap.size → k ≤ w.heap.size + 2 → w6.heap[k]? = wx.heap[k]? := fun k hk hk3 => hgr.block k hk (fun e => hne k hk3 e.symm)
  have hlt := (Array.getElem?_eq_some_iff.1 hb).1
  have hb6 := (hk6 _ hlt (Nat.le_refl _)).trans hb
  refine ⟨(h.bel.grown hgr (by omega) (fun k hk => by have := (ho.lt k hk).1; omega)).setCell (p := ⟨w.heap.size + 2, 1, none⟩) (by show w.heap.size ≤ w.heap.size + 2; omega) _, (set_other _ _ _ _ _ (by omega)).trans ((hk6 _ (by omega) (by omega)).trans h.res), A', c', ?_, ho'.keep (fun k _ hs => set_other _ _ _ _ _ (fun e => by rcases hs with hs | hs; exact hs; have := (ho'.lt k hs).1; omega))⟩
  rw [Blk.set w6 hb6 1]
  simp
def AQPost (w : World) (x : Atm) (e : Ending) (w' : World) : Prop :=
  (∃ A n c, e = .returned (.agg #[.string ⟨x.name.toArray⟩, .slice A n c]) ∧ Sl w' (fun b => w.heap.size ≤ b) A n c x.args) ∧ Below w.heap.size w w'
set_option maxRecDepth 100000 in
set_option maxHeartbeats 8000000 in
theorem atomQ_any (v : Bnd) (x : Atm) (b : Nat) (A : Option Addr) (n c : Nat) (w : World) (S : Nat → Prop) (hm : MapA w b v) (hs : Sl w S A n c x.args) (ho : OkT x) (hN : x.args.length ≤ 1000000) :
    Calls Tryz.prog 41 #[.map (some b), .agg #[.string ⟨x.name.toArray⟩, .slice A n c]] w (AQPost w (atomV v x)) := by
  have hn := hs.len
  subst hn
  obtain ⟨nm, args⟩ := x
  simp only at *
  have hle := hs.le
  have hA := ho.2
  simp only at hA
  have h0 : AQR w (((w.alloc (.cells #[.string ⟨nm.toArray⟩, .slice A args.length c] 31)).alloc (.cells #[.string ⟨#[]⟩, .slice none 0 0] 31)).alloc (.cells #[.string ⟨nm.toArray⟩, .slice none 0 0] 31)) nm [] :=
    ⟨(boxed.alloc (by simp) _).alloc (by simp; omega) _, blkOld (blkAt _ _ (by simp)) _, none, 0, blkAt _ _ (by simp), Own.nil _ _ _ _⟩
  obtain ⟨V, hV⟩ : ∃ V, V = args.map (under v) := ⟨_, rfl⟩
  have HV0 : Hid (V = [] ++ (args.drop 0).map (under v)) := hV
  have HR : Hid (atomV v ⟨nm, args⟩ = ⟨nm, V⟩) := Lib.hid (by rw [hV]; rfl)
  have HM := Lib.hid hm; have HS := Lib.hid hs; have HA := Lib.hid hA; have H0 := Lib.hid h0
  clear hm hs hA h0 ho hV
  go_enter Tryz.func41, Tryz.ntmps41
  go_wp2_with fail
  go_loopw [14] (fun i wr => ∃ k : Nat, k ≤ args.length ∧ i = .int .i64 k ∧ ∃ out, AQR w wr nm out ∧ out.length = k ∧ Hid (V = out ++ (args.drop k).map (under v))) (fun i _ => args.length - (intOf i).toNat)
  case atStart => exact ⟨0, by omega, rfl, [], H0.out, rfl, HV0⟩
  case round =>
    obtain ⟨k, hk, rfl, out, haq, hol, hf⟩ := hrel
    have hwr := haq.bel.size
    by_cases hlt : k < args.length
    · obtain ⟨b1, o1, rfl, -, hbs1, g1, g2, g3⟩ := (HS.out.below haq.bel).arg hlt
      have hd := hf.out
      rw [drop_get hlt, List.map_cons] at hd
      have hox := HA.out _ (List.getElem_mem hlt)
      generalize args[k] = x at *
      have hun := fun w' hb => under_any v x b w' (HM.out.below hb) hox
      generalize under v x = y at *
      have hd2 : V = (out ++ [y]) ++ (args.drop (k + 1)).map (under v) := by rw [hd]; simp
      have HD := Lib.hid hd2; have HU := Lib.hid hun; have HAQ := Lib.hid haq
      have HK := Lib.hid hol
      have hoL : out.length ≤ 1000000 := by omega
      clear hd hd2 hun haq hf hox hol
      unfold vArg at *
      go_wp2_with fail
      obtain ⟨W, hW⟩ : ∃ W, W = (wr.alloc (.cells #[.int .i64 x.kind, .string ⟨x.text.toArray⟩, .int .i64 x.num] 46)).drew := ⟨_, rfl⟩
      have hD : AQR w W nm out := by rw [hW]; exact (HAQ.out.below boxed).below (Below.refl _ _).drew
      have hX : W.heap[wr.heap.size]? = some (.cells #[.int .i64 x.kind, .string ⟨x.text.toArray⟩, .int .i64 x.num] 46 (0, 0)) := by rw [hW]; exact blkAt wr _ rfl
      obtain ⟨A2, c2, hb2, ho2⟩ := HAQ.out.own
      have HNX : Hid (A2.map Addr.block ≠ some wr.heap.size) := Lib.hid (fun e => by have := (ho2.lt _ e).2; omega)
      have ho2 : Own W (fun _ => False) (w.heap.size + 3) 46 A2 c2 out := by rw [hW]; exact (ho2.alloc _).drew
      have hb2 : W.heap[w.heap.size + 2]? = some (.cells #[.string ⟨nm.toArray⟩, .slice A2 out.length c2] 31 (0, 0)) := by rw [hW]; exact blkOld hb2 _
      have hS : W.cell? ⟨w.heap.size + 2, 1, none⟩ = some (.slice A2 out.length c2) ∧ W.cell? ⟨wr.heap.size, 0, none⟩ = some (.int .i64 x.kind) ∧ W.cell? ⟨wr.heap.size, 1, none⟩ = some (.string ⟨x.text.toArray⟩) ∧ W.cell? ⟨wr.heap.size, 2, none⟩ = some (.int .i64 x.num) := ⟨(cell_blk hb2 1).trans rfl, (cell_blk hX 0).trans rfl, (cell_blk hX 1).trans rfl, (cell_blk hX 2).trans rfl⟩
      have hcap := ho2.cap
      have HD2 := Lib.hid hD; have HB := Lib.hid hb2; have HO := Lib.hid ho2; have HX2 := Lib.hid hX
      clear hD hb2 ho2 hX
      refine wpY_region (fun z => z.cell? ⟨w.heap.size + 2, 1, none⟩ = some (.slice A2 out.length c2) ∧ z.cell? ⟨wr.heap.size, 0, none⟩ = some (.int .i64 x.kind) ∧ z.cell? ⟨wr.heap.size, 1, none⟩ = some (.string ⟨x.text.toArray⟩) ∧ z.cell? ⟨wr.heap.size, 2, none⟩ = some (.int .i64 x.num)) 8 (by kernel_rfl) ?_
      have HX := Lib.hid (fun (z : World) (hx : z.cell? ⟨w.heap.size + 2, 1, none⟩ = some (.slice A2 out.length c2) ∧ z.cell? ⟨wr.heap.size, 0, none⟩ = some (.int .i64 x.kind) ∧ z.cell? ⟨wr.heap.size, 1, none⟩ = some (.string ⟨x.text.toArray⟩) ∧ z.cell? ⟨wr.heap.size, 2, none⟩ = some (.int .i64 x.num)) => hx)
      rw [← hW]
      clear hW
      (refine wpAnyY_takeW 0 rfl rfl (by kernel_rfl) (by kernel_rfl) (by kernel_rfl) (by kernel_rfl) (fun _ _ _ h => h) (v := ?_) (by kernel_rfl) hS ?_ ?_; rotate_left; (focus (intro x hx; have fx := HX.out x hx; go_simp; (try with_reducible rfl); done)); (try simp only [Act.put, lsa, lsz, lss]))
      (refine wpAnyY_takeW 1 rfl rfl (by kernel_rfl) (by kernel_rfl) (by kernel_rfl) (by kernel_rfl) (fun _ _ _ h => h) (v := ?_) (by kernel_rfl) hS ?_ ?_; rotate_left; (focus (intro x hx; have fx := HX.out x hx; go_simp; (try with_reducible rfl); done)); (try simp only [Act.put, lsa, lsz, lss]))
      (refine wpAnyY_takeW 2 rfl rfl (by kernel_rfl) (by kernel_rfl) (by kernel_rfl) (by kernel_rfl) (fun _ _ _ h => h) (v := ?_) (by kernel_rfl) hS ?_ ?_; rotate_left; (focus (intro x hx; have fx := HX.out x hx; go_simp; (try with_reducible rfl); done)); (try simp only [Act.put, lsa, lsz, lss]))
      (refine wpAnyY_takeW 3 rfl rfl (by kernel_rfl) (by kernel_rfl) (by kernel_rfl) (by kernel_rfl) (fun _ _ _ h => h) (v := ?_) (by kernel_rfl) hS ?_ ?_; rotate_left; (focus (intro x hx; have fx := HX.out x hx; go_simp; (try with_reducible rfl); done)); (try simp only [Act.put, lsa, lsz, lss]))
      refine wpAnyY_one 4 (by kernel_rfl) rfl ?_
      intro K' hK'
      go_simp
      refine (HU.out W (next HD2.out.bel (Below.refl _ _) (Nat.le_refl _))).mono ?_
      rintro e w3 ⟨rfl, hb3⟩
      have hd3 := HD2.out.below hb3
      have hb3' := keptBlk hb3 HB.out
      have hx3 := keptBlk hb3 HX2.out
      have hS3 : w3.cell? ⟨w.heap.size + 2, 1, none⟩ = some (.slice A2 out.length c2) ∧ w3.cell? ⟨wr.heap.size, 0, none⟩ = some (.int .i64 x.kind) ∧ w3.cell? ⟨wr.heap.size, 1, none⟩ = some (.string ⟨x.text.toArray⟩) ∧ w3.cell? ⟨wr.heap.size, 2, none⟩ = some (.int .i64 x.num) := ⟨(cell_blk hb3' 1).trans rfl, (cell_blk hx3 0).trans rfl, (cell_blk hx3 1).trans rfl, (cell_blk hx3 2).trans rfl⟩
      have ho3 := HO.out.below hb3
      have hlt3 := (Array.getElem?_eq_some_iff.1 hb3').1
      refine hK'.out _ _ (fun _ => hS3) ?_
      clear hK' K'
      have hb4 := blkOld hb3' (.cells #[.int .i64 y.kind, .string ⟨y.text.toArray⟩, .int .i64 y.num] 46)
      have hS4 : (w3.alloc (.cells #[.int .i64 y.kind, .string ⟨y.text.toArray⟩, .int .i64 y.num] 46)).cell? ⟨w.heap.size + 2, 1, none⟩ = some (.slice A2 out.length c2) ∧ (w3.alloc (.cells #[.int .i64 y.kind, .string ⟨y.text.toArray⟩, .int .i64 y.num] 46)).cell? ⟨wr.heap.size, 0, none⟩ = some (.int .i64 x.kind) ∧ (w3.alloc (.cells #[.int .i64 y.kind, .string ⟨y.text.toArray⟩, .int .i64 y.num] 46)).cell? ⟨wr.heap.size, 1, none⟩ = some (.string ⟨x.text.toArray⟩) ∧ (w3.alloc (.cells #[.int .i64 y.kind, .string ⟨y.text.toArray⟩, .int .i64 y.num] 46)).cell? ⟨wr.heap.size, 2, none⟩ = some (.int .i64 x.num) := ⟨cell_alloc' hS3.1 _, cell_alloc' hS3.2.1 _, cell_alloc' hS3.2.2.1 _, cell_alloc' hS3.2.2.2 _⟩
      have HD4 := Lib.hid (hd3.below (wy := w3.alloc (.cells #[.int .i64 y.kind, .string ⟨y.text.toArray⟩, .int .i64 y.num] 46)) boxed); have HB4 := Lib.hid hb4; have HX4 := Lib.hid (blkOld hx3 (.cells #[.int .i64 y.kind, .string ⟨y.text.toArray⟩, .int .i64 y.num] 46)); have HO4 := Lib.hid (ho3.alloc (.cells #[.int .i64 y.kind, .string ⟨y.text.toArray⟩, .int .i64 y.num] 46))
      have hsz3 : w.heap.size + 2 < w3.heap.size := hlt3
      clear hb3 hd3 hb3' hx3 ho3 hb4
      refine wpAnyY_one 5 (by kernel_rfl) rfl ?_
      intro K' hK'
      go_simp
      refine hK'.out _ _ (fun _ => hS4) ?_
      clear hK' K'
      refine wpAnyY_one 6 (by kernel_rfl) rfl ?_
      intro K' hK'
      refine step_app1 (T := fun _ => False) (base := w.heap.size + 3) (xs := out) rfl _ _ eltArg rfl (by decide) rfl rfl rfl HO4.out rfl [.int .i64 y.kind, .string ⟨y.text.toArray⟩, .int .i64 y.num] y (blkAt _ _ rfl) rfl ⟨rfl, rfl, rfl⟩ (by omega) (by omega) (by simp; omega) ?_
      intro A' c' w6 hown6 hg6 hat6
      have hb6 := grownBlk hg6 HB4.out (fun e => by have := (HO4.out.lt _ e).1; omega)
      have hS6 : w6.cell? ⟨w.heap.size + 2, 1, none⟩ = some (.slice A2 out.length c2) := (cell_blk hb6 1).trans rfl
      have hZ6 := frz_blk hb6 1
      have hx6 := grownBlk hg6 HX4.out (fun e => HNX.out e)
      have hS6' : w6.cell? ⟨w.heap.size + 2, 1, none⟩ = some (.slice A2 out.length c2) ∧ w6.cell? ⟨wr.heap.size, 0, none⟩ = some (.int .i64 x.kind) ∧ w6.cell? ⟨wr.heap.size, 1, none⟩ = some (.string ⟨x.text.toArray⟩) ∧ w6.cell? ⟨wr.heap.size, 2, none⟩ = some (.int .i64 x.num) := ⟨hS6, (cell_blk hx6 0).trans rfl, (cell_blk hx6 1).trans rfl, (cell_blk hx6 2).trans rfl⟩
      have hat7 := HD4.out.app HB4.out HO4.out hown6 hg6
      have HAT7 := Lib.hid hat7; clear hat7 hown6 hg6 hat6 hb6 hx6
      refine hK'.out _ _ (fun _ => hS6') ?_
      clear hK' K'
      refine wpAnyY_one 7 (by kernel_rfl) rfl ?_
      intro K' hK'
      go_simp
      refine hK'.out _ _ (fun _ => hS6') ?_
      clear hK' K'
      (refine wpAnyY_one 8 (by kernel_rfl) rfl ?_; intro K' hK'; go_simp; refine hK'.out _ _ (fun h => absurd rfl h) ?_; clear hK' K'; refine wpAnyY_done (by kernel_rfl) ?_ _)
      clear HB4 HO4 HD4 HX4 HB HO HD2 hS hS3 hS4 hS6 hS6' hZ6 HX HX2 hlt3 HNX
      go_wp2_with fail
      go_roundw
      case rel => exact ⟨k + 1, by omega, by go_num, out ++ [y], HAT7.out, by simp; exact HK.out, HD.out⟩
      case measure => simp [intOf]; omega
    · have hd := hf.out
      rw [drop_end hlt, List.map_nil, List.append_nil] at hd
      obtain ⟨A2, c2, hb2, ho2⟩ := haq.own
      have HD := Lib.hid hd; have HAQ := Lib.hid haq; have HO := Lib.hid ho2
      have r0 := (cell_blk hb2 0).trans rfl; have r1 := (cell_blk hb2 1).trans rfl
      have y0 := frz_blk haq.res 0; have y1 := frz_blk haq.res 1
      have s0 := (cell_blk haq.res 0).trans rfl; have s1 := (cell_blk haq.res 1).trans rfl
      have HK := Lib.hid hol
      clear hd hf haq ho2 hol
      go_wp2_with fail
      have hRF0 := Blk.set _ HAQ.out.res 0 (.string ⟨nm.toArray⟩)
      have p0 := (cell_blk hRF0 0).trans rfl
      have hRF := Blk.set _ (Blk.set _ HAQ.out.res 0 (.string ⟨nm.toArray⟩)) 1 (.slice A2 out.length c2)
      have q0 := (cell_blk hRF 0).trans rfl; have q1 := (cell_blk hRF 1).trans rfl
      refine bodyPost_ret (v := .agg #[.string ⟨nm.toArray⟩, .slice A2 out.length c2]) (by simp [results, Tryz.results41, go_sem, p0, q0, q1]) rfl ?_
      rw [HR.out, HD.out]
      exact ⟨⟨A2, out.length, c2, rfl, ((HO.out.sl (by decide)).keep (fun k _ hk => (set_other _ _ _ _ _ (fun e => by rcases hk with hk | hk; exact hk; have := (HO.out.lt k hk).1; omega)).trans (set_other _ _ _ _ _ (fun e => by rcases hk with hk | hk; exact hk; have := (HO.out.lt k hk).1; omega)))).wide (fun k _ hk => by rcases hk with hk | hk; exact hk.elim; have := (HO.out.lt k hk).1; omega) (by decide)⟩, (HAQ.out.bel.setCell (p := ⟨w.heap.size + 1, 0, none⟩) (by show w.heap.size ≤ w.heap.size + 1; omega) _).setCell (p := ⟨w.heap.size + 1, 1, none⟩) (by show w.heap.size ≤ w.heap.size + 1; omega) _⟩
end Go.Proofs.YtkjoaodoioicpaaGreatDoor
