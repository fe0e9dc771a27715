/- A part of the proofs of the laws of one package; see the law's own text, which comes last in 'order'. No conditions of its own. -/
import Derived.Test.YtpeamehplhpcjaaGreatDoorRows
import Derived.Deep.Slices
import Derived.Deep.Strs
import Derived.ProofKit
import Derived.OpenShut
import Derived.MakeChecks
import Derived.Handed
import Derived.SizedLaws
import Derived.Test.YtpeamehplhpcjaaGreatDoorWC08
set_option linter.unusedVariables false
set_option linter.unusedSimpArgs false
namespace Go.Proofs.YtpeamehplhpcjaaGreatDoor
open Go.RowKit Go.Deep Go.ChangeShapes
theorem cellsOfInt : Tryz.prog.cellsOf 3 = 1 := by kernel_rfl
theorem cellsOfStr : Tryz.prog.cellsOf 9 = 1 := by kernel_rfl
theorem cellsOfStrs : Tryz.prog.cellsOf 29 = 1 := by kernel_rfl
theorem cellsOfFil : Tryz.prog.cellsOf 73 = 2 := by kernel_rfl
theorem cellsOfTree : Tryz.prog.cellsOf 28 = 1 := by kernel_rfl
theorem cellsOfLn : Tryz.prog.cellsOf 38 = 2 := by kernel_rfl
theorem cellsOfScn : Tryz.prog.cellsOf 55 = 6 := by kernel_rfl
theorem undFil : ∃ f0 f1 : Field, Tryz.prog.underlying 73 = some (.struct #[f0, f1]) ∧ f0.type = 9 ∧ f0.offset = 0 ∧ f1.type = 9 ∧ f1.offset = 1 :=
  ⟨_, _, Tryz.underlying73, rfl, rfl, rfl, rfl⟩
theorem undLn : ∃ f0 f1 : Field, Tryz.prog.underlying 38 = some (.struct #[f0, f1]) ∧ f0.type = 9 ∧ f0.offset = 0 ∧ f1.type = 3 ∧ f1.offset = 1 :=
  ⟨_, _, Tryz.underlying38, rfl, rfl, rfl, rfl⟩
theorem undScn : ∃ f0 f1 f2 f3 f4 : Field, Tryz.prog.underlying 55 = some (.struct #[f0, f1, f2, f3, f4]) ∧ f0.type = 28 ∧ f0.offset = 0 ∧ f1.type = 9 ∧ f1.offset = 1 ∧ f2.type = 29 ∧ f2.offset = 2 ∧ f3.type = 38 ∧ f3.offset = 3 ∧ f4.type = 9 ∧ f4.offset = 5 :=
  ⟨_, _, _, _, _, Tryz.underlying55, rfl, rfl, rfl, rfl, rfl, rfl, rfl, rfl, rfl, rfl⟩
section
variable {H : Type} {enc : TypeId × Value → H} {W : World} {base : Nat} {spare : Nat → Bool} {held : Bool}
def Opens (enc : TypeId × Value → H) (W : World) (base : Nat) (spare : Nat → Bool) (held : Bool) (α : Type) [GoT α] (t : TypeId) (Ok : α → Prop) : Prop :=
  ∀ (fuel : Nat) (cs : List Value) (x : DataW H × List MemPlace), DataW.trod enc Tryz.prog W base spare held fuel t cs = some x →
    cs.length = GoT.size α ∧ ∃ o : α, GoT.rd W (fun _ => True) (fun j => cs.getD j undef) o ∧ Ok o
theorem opens_slice {α : Type} [GoT α] [Inhabited α] {t e : TypeId} {Ok : α → Prop} (hu : Tryz.prog.underlying t = some (.slice e)) (hz : Tryz.prog.cellsOf e = GoT.size α) (h : Opens enc W base spare held α e Ok)
    {fuel : Nat} {cs : List Value} {x : DataW H × List MemPlace} (hx : DataW.trod enc Tryz.prog W base spare held fuel t cs = some x) :
    ∃ A n c, ∃ l : List α, cs = [.slice A n c] ∧ Sl W (fun _ => True) A n c l ∧ ∀ o ∈ l, Ok o := by
  rcases open_slice hu hx with ⟨rfl, _⟩ | ⟨a, len, cap, m, n', D, Pl, rfl, _, hl, hm, hmm, _, hx⟩
  · exact ⟨none, 0, 0, [], rfl, Sl.nil _ _ _ _ (by decide), fun o ho => by cases ho⟩
  · have hlm : len ≤ m := by rw [hmm]; split <;> omega
    rw [hz] at hx
    obtain ⟨g, hg⟩ := choose_lt (α := List Value × α) (n := len) (p := fun i o => (∀ j, j < GoT.size α → W.cell? ((a.add (i * GoT.size α)).add j) = o.1[j]?) ∧ o.1.length = GoT.size α ∧ GoT.rd W (fun _ => True) (fun j => o.1.getD j undef) o.2 ∧ Ok o.2) (fun i hi => by
      obtain ⟨cs', h1, h2⟩ := hx i (by omega)
      obtain ⟨hlen, o, h3, h4⟩ := h _ _ _ h2
      obtain ⟨-, -, hcell⟩ := World.cells?_some h1
      exact ⟨(cs', o), hcell, hlen, h3, h4⟩)
    refine ⟨some a, len, cap, (List.range len).map fun i => (g i).2, rfl, ⟨by simp, hl, by simpa [maxLen] using hm, fun i hi => ?_⟩, fun o ho => ?_⟩
    · have hi' : i < len := by simpa using hi
      obtain ⟨h1, h2, h3, h4⟩ := hg i hi'
      refine ⟨a, rfl, trivial, fun j => (g i).1.getD j undef, fun j hj => ?_, ?_⟩
      · have := h1 j hj
        rw [add_of_add] at this
        show _ = some ((g i).1.getD j undef)
        rw [this, List.getD_eq_getElem?_getD, List.getElem?_eq_getElem (by omega)]
        rfl
      · simp only [List.getElem_map, List.getElem_range]
        exact h3
    · obtain ⟨i, hi, rfl⟩ := List.mem_map.1 ho
      exact (hg i (List.mem_range.1 hi)).2.2.2
instance : Inhabited Bs := ⟨[]⟩
set_option maxRecDepth 100000 in
theorem opens_str : Opens enc W base spare held Bs 9 OkB := by
  intro fuel cs x h
  obtain ⟨s, e, -, hs⟩ := DataW.trod_string Tryz.underlying9 h
  subst e
  exact ⟨rfl, s.data.toList, rfl, by simpa [OkB, maxLen] using hs⟩
set_option maxRecDepth 100000 in
theorem opens_fil : Opens enc W base spare held Fil 73 OkF := by
  intro fuel cs x h
  obtain ⟨f0, f1, hu, t0, o0, t1, o1⟩ := undFil
  obtain ⟨xs, n, -, -, hl, hlen, hf⟩ := DataW.trod_struct hu h
  have h0 := hf 0 f0 rfl
  have h1 := hf 1 f1 rfl
  rw [t0, o0, cellsOfStr] at h0
  rw [t1, o1, cellsOfStr] at h1
  rw [cellsOfFil] at hl
  obtain ⟨a, b, rfl⟩ : ∃ a b, cs = [a, b] := by
    match cs, hl with
    | [a, b], _ => exact ⟨a, b, rfl⟩
  obtain ⟨y0, y1, rfl⟩ : ∃ a b, xs = [a, b] := by
    match xs, hlen with
    | [a, b], _ => exact ⟨a, b, rfl⟩
  simp only [List.getElem?_cons_zero, List.getElem?_cons_succ] at h0 h1
  obtain ⟨s, e1, -, hs⟩ := DataW.trod_string Tryz.underlying9 h0
  obtain ⟨s', e2, -, hs'⟩ := DataW.trod_string Tryz.underlying9 h1
  simp at e1 e2
  subst e1 e2
  exact ⟨rfl, ⟨s.data.toList, s'.data.toList⟩, ⟨rfl, rfl⟩, by simpa [OkB, maxLen] using hs, by simpa [OkB, maxLen] using hs'⟩
structure Scn where
  tree : List Fil
  path : Bs
  flags : List Bs
  ln : Ln
  text : Bs
def VScn (w : World) (v : Value) (x : Scn) : Prop := ∃ A n c A2 n2 c2, v = .agg #[.slice A n c, .string ⟨x.path.toArray⟩, .slice A2 n2 c2, .string ⟨x.ln.path.toArray⟩, .int .i64 x.ln.n, .string ⟨x.text.toArray⟩] ∧ Sl w (fun _ => True) A n c x.tree ∧ Sl w (fun _ => True) A2 n2 c2 x.flags
def OkScn (x : Scn) : Prop := (∀ f ∈ x.tree, OkF f) ∧ OkB x.path ∧ (∀ s ∈ x.flags, OkB s) ∧ OkB x.ln.path ∧ OkI x.ln.n ∧ OkB x.text
set_option maxRecDepth 100000 in
theorem openScn {cs : Array Value} {d : DataW H} {p : List MemPlace} (h : DataW.Trod enc Tryz.prog W base spare held 55 (.agg cs) d p) : ∃ x : Scn, VScn W (.agg cs) x ∧ OkScn x := by
  obtain ⟨fuel, h⟩ := h
  obtain ⟨f0, f1, f2, f3, f4, hu, t0, o0, t1, o1, t2, o2, t3, o3, t4, o4⟩ := undScn
  obtain ⟨xs, n, -, -, hl, hlen, hf⟩ := DataW.trod_struct hu h
  have h0 := hf 0 f0 rfl
  have h1 := hf 1 f1 rfl
  have h2 := hf 2 f2 rfl
  have h3 := hf 3 f3 rfl
  have h4 := hf 4 f4 rfl
  rw [t0, o0, cellsOfTree] at h0
  rw [t1, o1, cellsOfStr] at h1
  rw [t2, o2, cellsOfStrs] at h2
  rw [t3, o3, cellsOfLn] at h3
  rw [t4, o4, cellsOfStr] at h4
  rw [cellsOfScn] at hl
  obtain ⟨l⟩ := cs
  have hl : l.length = 6 := hl
  obtain ⟨a, b, c, e, f, g, rfl⟩ : ∃ a b c e f g, l = [a, b, c, e, f, g] := by
    match l, hl with
    | [a, b, c, e, f, g], _ => exact ⟨a, b, c, e, f, g, rfl⟩
  obtain ⟨y0, y1, y2, y3, y4, rfl⟩ : ∃ a b c d e, xs = [a, b, c, d, e] := by
    match xs, hlen with
    | [a, b, c, d, e], _ => exact ⟨a, b, c, d, e, rfl⟩
  simp only [List.getElem?_cons_zero, List.getElem?_cons_succ] at h0 h1 h2 h3 h4
  obtain ⟨A, n1, c1, l1, e0, hs0, hk0⟩ := opens_slice Tryz.underlying28 cellsOfFil opens_fil h0
  obtain ⟨s1, e1, -, hs1⟩ := DataW.trod_string Tryz.underlying9 h1
  obtain ⟨A2, n2, c2, l2, e2, hs2, hk2⟩ := opens_slice Tryz.underlying29 cellsOfStr opens_str h2
  obtain ⟨s4, e4, -, hs4⟩ := DataW.trod_string Tryz.underlying9 h4
  obtain ⟨g0, g1, hu2, u0, q0, u1, q1⟩ := undLn
  obtain ⟨xs3, n3, -, -, hl3, hlen3, hf3⟩ := DataW.trod_struct hu2 h3
  have j0 := hf3 0 g0 rfl
  have j1 := hf3 1 g1 rfl
  rw [u0, q0, cellsOfStr] at j0
  rw [u1, q1, cellsOfInt] at j1
  obtain ⟨z0, z1, rfl⟩ : ∃ a b, xs3 = [a, b] := by
    match xs3, hlen3 with
    | [a, b], _ => exact ⟨a, b, rfl⟩
  simp only [List.getElem?_cons_zero, List.getElem?_cons_succ] at j0 j1
  obtain ⟨s3, e3, -, hs3⟩ := DataW.trod_string Tryz.underlying9 j0
  obtain ⟨m, e5, -, hw⟩ := DataW.trod_int Tryz.underlying3 j1
  simp [Value.cells] at e0 e1 e2 e3 e4 e5
  subst e0 e1 e2 e3 e4 e5
  have hb : -9223372036854775808 ≤ m ∧ m ≤ 9223372036854775807 := by simpa [Lit.wf, IntKind.min, IntKind.max, IntKind.signed, IntKind.bits] using hw
  exact ⟨⟨l1, s1.data.toList, l2, ⟨s3.data.toList, m⟩, s4.data.toList⟩, ⟨A, n1, c1, A2, n2, c2, rfl, hs0, hs2⟩, hk0, by simpa [OkB, maxLen] using hs1, hk2, by simpa [OkB, maxLen] using hs3, hb, by simpa [OkB, maxLen] using hs4⟩
end
def laidL : List (String × DataW Unit) := Rows.sourceReferencesRow.laid
set_option maxRecDepth 100000 in
theorem ld_of {W : World} (_ : laidMetH Tryz.prog laidL W) (hs : W.ShapedOpen Tryz.prog) : LS W :=
  ⟨Go.Proofs.cell_of_shapedOpen_int (zero := #[.int .i64 0]) (t := 3) hs (of_decide_eq_true (by kernel_rfl)) (by kernel_rfl) rfl (by kernel_rfl) (by kernel_rfl) Tryz.underlying3⟩
end Go.Proofs.YtpeamehplhpcjaaGreatDoor
namespace Go.Proofs.YtpeamehplhpcjaaGreatDoor
open Go.RowKit Go.ChangeShapes
section
variable {H : Type} {enc : TypeId × Value → H}
theorem handed {a : Assume} {C : Checked} {os : Os} {f : FuncId} {fn : Func} {s : ChangeSpec} {conds : List PathCond} {apart fresh handsOn again : Bool} {X : World → Array Value → Prop}
    (hX : ∀ (w w' : World) (args : Array Value), w.heap = w'.heap → X w args → X w' args)
    (own : ownKnob C.prog.godebug = none) (started : os.Started) (noInit : C.prog.inits.idxOf? f = none) (hfn : C.prog.funcs[f]? = some fn)
    (witness : ∃ (w : World) (tape : Tape) (i : Input), w.os = os ∧ (w.forCall tape i).Shaped C.prog ∧ i.vars = [] ∧ Input.okWide C.prog (w.forCall tape i) .any w.heap.size f i ∧
      ((s.pre enc C.prog fn conds apart (w.forCall tape i).memory i.args ∧ X (w.forCall tape i).memory i.args) ∧ sizedMet enc C.prog fn (OpenSpec.ofChange s) apart (w.forCall tape i).memory i.args) ∧ a.holds C.prog (lone (Frame.enter C.prog f i.args .normal) [] (w.forCall tape i)))
    (contract : ∀ (W : World) (base : Nat) (args : Array Value) (ds gs : List (DataW H)) (before : List MemPlace),
      (∀ (j : Nat) t v, fn.params[j]? = some t → args[j]? = some v → Value.okWide C.prog W .any base t v) →
      DataW.Whole enc C.prog fn.params.toList s.vars apart W args.toList ds gs before →
      X W args → W.ShapedOpen C.prog →
      Calls C.prog f args W fun e W' => ∃ v, e = .returned v ∧ s.post enc C.prog fn apart fresh handsOn again W args v W') :
    ReturnsInHanded a C os f .any (fun w args => (s.pre enc C.prog fn conds apart w args ∧ X w args) ∧ sizedMet enc C.prog fn (OpenSpec.ofChange s) apart w args) (s.post enc C.prog fn apart fresh handsOn again) := by
  refine returnsInHanded_of_calls own started noInit witness ?_
  intro w tape i _ hsh _ hok hpre hholds
  obtain ⟨_, _, _, fn', hfn', _, _, _, _, hval⟩ := hok
  have e : fn' = fn := Option.some.inj (hfn'.symm.trans hfn)
  subst e
  obtain ⟨⟨⟨ds, gs, before, hw, hc⟩, hx⟩, hz⟩ := hpre
  have hw' := DataW.Whole.of_heap (w' := w.forCall tape i) (by rfl) hw
  refine (contract (w.forCall tape i) w.heap.size i.args ds gs before hval hw' (hX _ _ _ (by rfl) hx) hsh).mono fun e W' ⟨v, he, hp⟩ => ?_
  subst he
  exact ChangeSpec.post_blind hp
end
end Go.Proofs.YtpeamehplhpcjaaGreatDoor
