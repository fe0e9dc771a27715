/- Rules: arguments, atoms, literals, rules that came in read as lists, in the cells that lie there. -/
import Derived.Test.YtjopmgoacncmgaaGreatDoorK2
import Derived.Deep.Slices
import Derived.Deep.Strs
import Derived.ProofKit
import Derived.OpenShut
set_option linter.unusedVariables false
set_option linter.unusedSimpArgs false
namespace Go.Proofs.YtjopmgoacncmgaaGreatDoor
open Go.RowKit Go.Deep Go.ChangeShapes

theorem cellsOfInt : Tryz.prog.cellsOf 3 = 1 := by kernel_rfl
theorem cellsOfStr : Tryz.prog.cellsOf 9 = 1 := by kernel_rfl
theorem cellsOfBool : Tryz.prog.cellsOf 4 = 1 := by kernel_rfl
theorem cellsOfArg : Tryz.prog.cellsOf 95 = 3 := by kernel_rfl
theorem cellsOfArgs : Tryz.prog.cellsOf 43 = 1 := by kernel_rfl
theorem cellsOfAtm : Tryz.prog.cellsOf 45 = 2 := by kernel_rfl
theorem cellsOfLtl : Tryz.prog.cellsOf 54 = 4 := by kernel_rfl
theorem cellsOfLtls : Tryz.prog.cellsOf 46 = 1 := by kernel_rfl
theorem cellsOfRul : Tryz.prog.cellsOf 48 = 3 := by kernel_rfl
theorem undArg : ∃ f0 f1 f2 : Field, Tryz.prog.underlying 95 = some (.struct #[f0, f1, f2]) ∧ f0.type = 3 ∧ f0.offset = 0 ∧ f1.type = 9 ∧ f1.offset = 1 ∧ f2.type = 3 ∧ f2.offset = 2 :=
  ⟨_, _, _, Tryz.underlying95, rfl, rfl, rfl, rfl, rfl, rfl⟩
theorem undAtm : ∃ f0 f1 : Field, Tryz.prog.underlying 45 = some (.struct #[f0, f1]) ∧ f0.type = 9 ∧ f0.offset = 0 ∧ f1.type = 43 ∧ f1.offset = 1 :=
  ⟨_, _, Tryz.underlying45, rfl, rfl, rfl, rfl⟩
theorem undLtl : ∃ f0 f1 f2 : Field, Tryz.prog.underlying 54 = some (.struct #[f0, f1, f2]) ∧ f0.type = 4 ∧ f0.offset = 0 ∧ f1.type = 9 ∧ f1.offset = 1 ∧ f2.type = 45 ∧ f2.offset = 2 :=
  ⟨_, _, _, Tryz.underlying54, rfl, rfl, rfl, rfl, rfl, rfl⟩
theorem undRul : ∃ f0 f1 : Field, Tryz.prog.underlying 48 = some (.struct #[f0, f1]) ∧ f0.type = 45 ∧ f0.offset = 0 ∧ f1.type = 46 ∧ f1.offset = 2 :=
  ⟨_, _, Tryz.underlying48, rfl, rfl, rfl, rfl⟩

section
variable {H : Type} {enc : TypeId × Value → H} {W : World} {base : Nat} {spare : Nat → Bool} {held : Bool}
/-- The cells of a type that is read through read as something. -/
def Opens (enc : TypeId × Value → H) (W : World) (base : Nat) (spare : Nat → Bool) (held : Bool) (α : Type) [GoT α] (t : TypeId) (Ok : α → Prop) : Prop :=
  ∀ (fuel : Nat) (cs : List Value) (x : DataW H × List MemPlace), DataW.trod enc Tryz.prog W base spare held fuel t cs = some x →
    cs.length = GoT.size α ∧ ∃ o : α, GoT.rd W (fun _ => True) (fun j => cs.getD j undef) o ∧ Ok o

theorem opens_slice {α : Type} [GoT α] [Inhabited α] {t e : TypeId} {Ok : α → Prop} (hu : Tryz.prog.underlying t = some (.slice e)) (hz : Tryz.prog.cellsOf e = GoT.size α) (h : Opens enc W base spare held α e Ok)
    {fuel : Nat} {cs : List Value} {x : DataW H × List MemPlace} (hx : DataW.trod enc Tryz.prog W base spare held fuel t cs = some x) :
    ∃ A n c, ∃ l : List α, cs = [.slice A n c] ∧ Sl W (fun _ => True) A n c l ∧ ∀ o ∈ l, Ok o := by
  rcases open_slice hu hx with ⟨rfl, _⟩ | ⟨a, len, cap, m, n', D, Pl, rfl, _, hl, hm, hmm, _, hx⟩
  · exact ⟨none, 0, 0, [], rfl, Sl.nil _ _ _ _ (by decide), fun o ho => by cases ho⟩
  · have hlm : len ≤ m := by rw [hmm]; split <;> omega
    rw [hz] at hx
    obtain ⟨g, hg⟩ := choose_lt (α := List Value × α) (n := len) (p := fun i o => (∀ j, j < GoT.size α → W.cell? ((a.add (i * GoT.size α)).add j) = o.1[j]?) ∧ o.1.length = GoT.size α ∧ GoT.rd W (fun _ => True) (fun j => o.1.getD j undef) o.2 ∧ Ok o.2) (fun i hi => by
      obtain ⟨cs', h1, h2⟩ := hx i (by omega)
      obtain ⟨hlen, o, h3, h4⟩ := h _ _ _ h2
      obtain ⟨-, -, hcell⟩ := World.cells?_some h1
      exact ⟨(cs', o), hcell, hlen, h3, h4⟩)
    refine ⟨some a, len, cap, (List.range len).map fun i => (g i).2, rfl, ⟨by simp, hl, by simpa [maxLen] using hm, fun i hi => ?_⟩, fun o ho => ?_⟩
    · have hi' : i < len := by simpa using hi
      obtain ⟨h1, h2, h3, h4⟩ := hg i hi'
      refine ⟨a, rfl, trivial, fun j => (g i).1.getD j undef, fun j hj => ?_, ?_⟩
      · have := h1 j hj
        rw [add_of_add] at this
        show _ = some ((g i).1.getD j undef)
        rw [this, List.getD_eq_getElem?_getD, List.getElem?_eq_getElem (by omega)]
        rfl
      · simp only [List.getElem_map, List.getElem_range]
        exact h3
    · obtain ⟨i, hi, rfl⟩ := List.mem_map.1 ho
      exact (hg i (List.mem_range.1 hi)).2.2.2

theorem opens_arg : Opens enc W base spare held Arg 95 OkA := by
  intro fuel cs x h
  obtain ⟨f0, f1, f2, hu, t0, o0, t1, o1, t2, o2⟩ := undArg
  obtain ⟨y0, y1, y2, n, -, hl, h0, h1, h2⟩ := trod_struct3 hu h
  rw [t0, o0, cellsOfInt] at h0
  rw [t1, o1, cellsOfStr] at h1
  rw [t2, o2, cellsOfInt] at h2
  rw [cellsOfArg] at hl
  obtain ⟨a, b, c, rfl⟩ : ∃ a b c, cs = [a, b, c] := by
    match cs, hl with
    | [a, b, c], _ => exact ⟨a, b, c, rfl⟩
  obtain ⟨k, e0, -, -⟩ := DataW.trod_int Tryz.underlying3 h0
  obtain ⟨s, e1, -, hs⟩ := DataW.trod_string Tryz.underlying9 h1
  obtain ⟨m, e2, -, hw⟩ := DataW.trod_int Tryz.underlying3 h2
  simp at e0 e1 e2
  subst e0 e1 e2
  have hb : -9223372036854775808 ≤ m ∧ m ≤ 9223372036854775807 := by simpa [Lit.wf, IntKind.min, IntKind.max, IntKind.signed, IntKind.bits] using hw
  exact ⟨rfl, ⟨k, s.data.toList, m⟩, ⟨rfl, rfl, rfl⟩, by simpa [maxLen] using hs, hb.1, hb.2⟩
set_option maxRecDepth 100000 in
theorem opens_atm : Opens enc W base spare held Atm 45 OkT := by
  intro fuel cs x h
  obtain ⟨f0, f1, hu, t0, o0, t1, o1⟩ := undAtm
  obtain ⟨xs, n, -, -, hl, hlen, hf⟩ := DataW.trod_struct hu h
  have h0 := hf 0 f0 rfl
  have h1 := hf 1 f1 rfl
  rw [t0, o0, cellsOfStr] at h0
  rw [t1, o1, cellsOfArgs] at h1
  rw [cellsOfAtm] at hl
  obtain ⟨a, b, rfl⟩ : ∃ a b, cs = [a, b] := by
    match cs, hl with
    | [a, b], _ => exact ⟨a, b, rfl⟩
  obtain ⟨y0, y1, rfl⟩ : ∃ a b, xs = [a, b] := by
    match xs, hlen with
    | [a, b], _ => exact ⟨a, b, rfl⟩
  simp only [List.getElem?_cons_zero, List.getElem?_cons_succ] at h0 h1
  obtain ⟨s, e1, -, hs⟩ := DataW.trod_string Tryz.underlying9 h0
  obtain ⟨A, n, c, l, e2, hsl, hk⟩ := opens_slice Tryz.underlying43 cellsOfArg opens_arg h1
  simp at e1 e2
  subst e1 e2
  exact ⟨rfl, ⟨s.data.toList, l⟩, ⟨rfl, A, n, c, rfl, hsl⟩, by simpa [maxLen] using hs, hk⟩
theorem opens_ltl : Opens enc W base spare held Ltl 54 OkL := by
  intro fuel cs x h
  obtain ⟨f0, f1, f2, hu, t0, o0, t1, o1, t2, o2⟩ := undLtl
  obtain ⟨y0, y1, y2, n, -, hl, h0, h1, h2⟩ := trod_struct3 hu h
  rw [t0, o0, cellsOfBool] at h0
  rw [t1, o1, cellsOfStr] at h1
  rw [t2, o2, cellsOfAtm] at h2
  rw [cellsOfLtl] at hl
  obtain ⟨a, b, c, d, rfl⟩ : ∃ a b c d, cs = [a, b, c, d] := by
    match cs, hl with
    | [a, b, c, d], _ => exact ⟨a, b, c, d, rfl⟩
  obtain ⟨k, e0, -⟩ := DataW.trod_bool Tryz.underlying4 h0
  obtain ⟨s, e1, -, hs⟩ := DataW.trod_string Tryz.underlying9 h1
  obtain ⟨-, o, hrd, hok⟩ := opens_atm _ _ _ h2
  simp at e0 e1
  subst e0 e1
  obtain ⟨q0, A, n, c', q1, hsl⟩ := hrd
  have q0 : c = .string ⟨o.name.toArray⟩ := q0
  have q1 : d = .slice A n c' := q1
  subst q0 q1
  exact ⟨rfl, ⟨k, s.data.toList, o⟩, ⟨rfl, rfl, rfl, A, n, c', rfl, hsl⟩, by simpa [maxLen] using hs, hok⟩
set_option maxRecDepth 100000 in
theorem opens_rul : Opens enc W base spare held Rul 48 OkR := by
  intro fuel cs x h
  obtain ⟨f0, f1, hu, t0, o0, t1, o1⟩ := undRul
  obtain ⟨xs, n, -, -, hl, hlen, hf⟩ := DataW.trod_struct hu h
  have h0 := hf 0 f0 rfl
  have h1 := hf 1 f1 rfl
  rw [t0, o0, cellsOfAtm] at h0
  rw [t1, o1, cellsOfLtls] at h1
  rw [cellsOfRul] at hl
  obtain ⟨a, b, c, rfl⟩ : ∃ a b c, cs = [a, b, c] := by
    match cs, hl with
    | [a, b, c], _ => exact ⟨a, b, c, rfl⟩
  obtain ⟨y0, y1, rfl⟩ : ∃ a b, xs = [a, b] := by
    match xs, hlen with
    | [a, b], _ => exact ⟨a, b, rfl⟩
  simp only [List.getElem?_cons_zero, List.getElem?_cons_succ] at h0 h1
  obtain ⟨-, o, hrd, hok⟩ := opens_atm _ _ _ h0
  obtain ⟨A2, n2, c2, l, e2, hsl2, hk⟩ := opens_slice Tryz.underlying46 cellsOfLtl opens_ltl h1
  simp at e2
  subst e2
  obtain ⟨q0, A, n, c', q1, hsl⟩ := hrd
  have q0 : a = .string ⟨o.name.toArray⟩ := q0
  have q1 : b = .slice A n c' := q1
  subst q0 q1
  exact ⟨rfl, ⟨o, l⟩, ⟨rfl, ⟨A, n, c', rfl, hsl⟩, A2, n2, c2, rfl, hsl2⟩, hok, hk⟩

/- The arguments of a law. -/
theorem openRules {A : Option Addr} {n c : Nat} {d : DataW H} {p : List MemPlace} (h : DataW.Trod enc Tryz.prog W base spare held 23 (.slice A n c) d p) : ∃ l : List Rul, Sl W (fun _ => True) A n c l ∧ ∀ r ∈ l, OkR r := by
  obtain ⟨fuel, hf⟩ := h
  obtain ⟨A', n', c', l, e, hs, hk⟩ := opens_slice Tryz.underlying23 cellsOfRul opens_rul hf
  simp [Value.cells] at e
  obtain ⟨rfl, rfl, rfl⟩ := e
  exact ⟨l, hs, hk⟩
theorem openRule {cs : Array Value} {d : DataW H} {p : List MemPlace} (h : DataW.Trod enc Tryz.prog W base spare held 48 (.agg cs) d p) : ∃ r : Rul, VRul W (fun _ => True) (.agg cs) r ∧ OkR r := by
  obtain ⟨fuel, hf⟩ := h
  obtain ⟨hl, r, ⟨h0, ⟨A, n, c, h1, hs⟩, A', n', c', h2, hs'⟩, hk⟩ := opens_rul _ _ _ hf
  obtain ⟨l⟩ := cs
  have hl : l.length = 3 := hl
  obtain ⟨a, b, e, rfl⟩ : ∃ a b e, l = [a, b, e] := by
    match l, hl with
    | [a, b, c], _ => exact ⟨a, b, c, rfl⟩
  have h0 : a = .string ⟨r.head.name.toArray⟩ := h0
  have h1 : b = .slice A n c := h1
  have h2 : e = .slice A' n' c' := h2
  subst h0 h1 h2
  exact ⟨r, ⟨A, n, c, A', n', c', rfl, hs, hs'⟩, hk⟩
theorem openAtom {cs : Array Value} {d : DataW H} {p : List MemPlace} (h : DataW.Trod enc Tryz.prog W base spare held 45 (.agg cs) d p) : ∃ r : Atm, VAtm W (fun _ => True) (.agg cs) r ∧ OkT r := by
  obtain ⟨fuel, hf⟩ := h
  obtain ⟨hl, r, ⟨h0, A, n, c, h1, hs⟩, hk⟩ := opens_atm _ _ _ hf
  obtain ⟨l⟩ := cs
  have hl : l.length = 2 := hl
  obtain ⟨a, b, rfl⟩ : ∃ a b, l = [a, b] := by
    match l, hl with
    | [a, b], _ => exact ⟨a, b, rfl⟩
  have h0 : a = .string ⟨r.name.toArray⟩ := h0
  have h1 : b = .slice A n c := h1
  subst h0 h1
  exact ⟨r, ⟨A, n, c, rfl, hs⟩, hk⟩
end
end Go.Proofs.YtjopmgoacncmgaaGreatDoor
