/- A formula, a list of tokens that came in: they read as lists, in the cells that lie there. -/
import Derived.Test.YtchdpjgncojhaaaExprSpec2
import Derived.Deep.Slices
import Derived.Deep.Strs
import Derived.ProofKit
import Derived.OpenShut
set_option linter.unusedVariables false
set_option linter.unusedSimpArgs false
namespace Go.Proofs.Ytchdpjgncojhaaa
open Go.RowKit Go.Deep Go.ChangeShapes

theorem cellsOfOp : Try.prog.cellsOf 50 = 3 := by kernel_rfl
theorem cellsOfTok : Try.prog.cellsOf 54 = 2 := by kernel_rfl
theorem cellsOfI : Try.prog.cellsOf 3 = 1 := by kernel_rfl
theorem cellsOfS : Try.prog.cellsOf 9 = 1 := by kernel_rfl
theorem cellsOfU : Try.prog.cellsOf 37 = 1 := by kernel_rfl
theorem undOp : ∃ f0 f1 f2 : Field, Try.prog.underlying 50 = some (.struct #[f0, f1, f2]) ∧ f0.type = 3 ∧ f0.offset = 0 ∧ f1.type = 9 ∧ f1.offset = 1 ∧ f2.type = 37 ∧ f2.offset = 2 :=
  ⟨_, _, _, Try.underlying50, rfl, rfl, rfl, rfl, rfl, rfl⟩
theorem undTok : ∃ f0 f1 : Field, Try.prog.underlying 54 = some (.struct #[f0, f1]) ∧ f0.type = 3 ∧ f0.offset = 0 ∧ f1.type = 9 ∧ f1.offset = 1 :=
  ⟨_, _, Try.underlying54, rfl, rfl, rfl, rfl⟩

theorem two_of {α : Type} {l : List α} (h : l.length = 2) : ∃ a b, l = [a, b] := by
  match l, h with
  | [a, b], _ => exact ⟨a, b, rfl⟩

section
variable {H : Type} {enc : TypeId × Value → H} {W : World} {base : Nat} {spare : Nat → Bool} {held : Bool}
theorem openOp {fuel : Nat} {ad : Addr} {cs : List Value} {x : DataW H × List MemPlace} (hc : W.cells? base ad 3 = some cs) (h : DataW.trod enc Try.prog W base spare held fuel 50 cs = some x) :
    ∃ o : Opn, (∀ j, j < 3 → W.cell? (ad.add j) = #[Value.int .i64 o.kind, .string ⟨o.text.toArray⟩, .int .u32 o.n][j]?) ∧ o.text.length ≤ 9223372036854775807 ∧ 0 ≤ o.n ∧ o.n ≤ 4294967295 := by
  obtain ⟨f0, f1, f2, hu, t0, o0, t1, o1, t2, o2⟩ := undOp
  obtain ⟨y0, y1, y2, n, -, hl, h0, h1, h2⟩ := trod_struct3 hu h
  rw [t0, o0, cellsOfI] at h0
  rw [t1, o1, cellsOfS] at h1
  rw [t2, o2, cellsOfU] at h2
  rw [cellsOfOp] at hl
  obtain ⟨-, -, hcell⟩ := World.cells?_some hc
  obtain ⟨a, b, c, rfl⟩ : ∃ a b c, cs = [a, b, c] := by
    match cs, hl with
    | [a, b, c], _ => exact ⟨a, b, c, rfl⟩
  obtain ⟨k, e0, -, -⟩ := DataW.trod_int Try.underlying3 h0
  obtain ⟨s, e1, -, hs⟩ := DataW.trod_string Try.underlying9 h1
  obtain ⟨m, e2, -, hw⟩ := DataW.trod_int Try.underlying37 h2
  simp at e0 e1 e2
  subst e0 e1 e2
  have hb : 0 ≤ m ∧ m ≤ 4294967295 := by simpa [Lit.wf, IntKind.min, IntKind.max, IntKind.signed, IntKind.bits] using hw
  refine ⟨⟨k, s.data.toList, m⟩, fun j hj => ?_, by simpa [maxLen] using hs, hb.1, hb.2⟩
  rw [hcell j hj]
  match j, hj with
  | 0, _ => rfl
  | 1, _ => rfl
  | 2, _ => rfl
theorem openTok {fuel : Nat} {ad : Addr} {cs : List Value} {x : DataW H × List MemPlace} (hc : W.cells? base ad 2 = some cs) (h : DataW.trod enc Try.prog W base spare held fuel 54 cs = some x) :
    ∃ o : Tok, (∀ j, j < 2 → W.cell? (ad.add j) = #[Value.int .i64 o.kind, .string ⟨o.text.toArray⟩][j]?) ∧ o.text.length ≤ 9223372036854775807 := by
  obtain ⟨f0, f1, hu, t0, o0, t1, o1⟩ := undTok
  obtain ⟨xs, n, -, -, hl, hlen, hf⟩ := DataW.trod_struct hu h
  have h0 := hf 0 f0 rfl
  have h1 := hf 1 f1 rfl
  rw [t0, o0, cellsOfI] at h0
  rw [t1, o1, cellsOfS] at h1
  rw [cellsOfTok] at hl
  obtain ⟨-, -, hcell⟩ := World.cells?_some hc
  obtain ⟨a, b, rfl⟩ := two_of hl
  obtain ⟨y0, y1, rfl⟩ := two_of hlen
  simp only [List.getElem?_cons_zero, List.getElem?_cons_succ] at h0 h1
  obtain ⟨k, e0, -, -⟩ := DataW.trod_int Try.underlying3 h0
  obtain ⟨s, e1, -, hs⟩ := DataW.trod_string Try.underlying9 h1
  simp at e0 e1
  subst e0 e1
  refine ⟨⟨k, s.data.toList⟩, fun j hj => ?_, by simpa [maxLen] using hs⟩
  rw [hcell j hj]
  match j, hj with
  | 0, _ => rfl
  | 1, _ => rfl

theorem openForm {A : Option Addr} {n c : Nat} {d : DataW H} {p : List MemPlace} (h : DataW.Trod enc Try.prog W 0 (fun _ => true) true 26 (.slice A n c) d p) : ∃ l : List Opn, Sl W (fun _ => True) A n c l ∧ OkF l := by
  obtain ⟨fuel, hf⟩ := h
  rcases open_slice Try.underlying26 hf with ⟨hcs, _⟩ | ⟨a, len, cap, m, n', D, Pl, hcs, _, hl, hm, hmm, _, hx⟩
  · simp [Value.cells] at hcs
    obtain ⟨rfl, rfl, rfl⟩ := hcs
    exact ⟨[], Sl.nil _ _ _ _ (by decide), fun o ho => by cases ho⟩
  · simp [Value.cells] at hcs
    obtain ⟨rfl, rfl, rfl⟩ := hcs
    simp only [if_true] at hmm
    subst hmm
    rw [cellsOfOp] at hx
    obtain ⟨g, hg⟩ := choose_lt (α := Opn) (n := n) (p := fun i o => (∀ j, j < 3 → W.cell? ((a.add (i * 3)).add j) = #[Value.int .i64 o.kind, .string ⟨o.text.toArray⟩, .int .u32 o.n][j]?) ∧ o.text.length ≤ 9223372036854775807 ∧ 0 ≤ o.n ∧ o.n ≤ 4294967295) (fun i hi => by
      obtain ⟨cs', h1, h2⟩ := hx i (by omega)
      exact openOp h1 h2)
    refine ⟨(List.range n).map g, ⟨by simp, hl, by simpa [maxLen] using hm, fun i hi => ?_⟩, fun o ho => ?_⟩
    · have hi' : i < n := by simpa using hi
      refine ⟨a, rfl, trivial, fun j => (#[Value.int .i64 (g i).kind, .string ⟨(g i).text.toArray⟩, .int .u32 (g i).n]).getD j undef, fun j hj => ?_, ?_⟩
      · have h1 := (hg i hi').1 j hj
        rw [add_of_add] at h1
        show W.cell? (a.add (i * 3 + j)) = _
        rw [h1]
        match j, hj with
        | 0, _ => rfl
        | 1, _ => rfl
        | 2, _ => rfl
      · simp only [List.getElem_map, List.getElem_range]
        exact ⟨rfl, rfl, rfl⟩
    · obtain ⟨i, hi, rfl⟩ := List.mem_map.1 ho
      exact (hg i (List.mem_range.1 hi)).2
theorem openToks {A : Option Addr} {n c : Nat} {d : DataW H} {p : List MemPlace} (h : DataW.Trod enc Try.prog W 0 (fun _ => true) true 22 (.slice A n c) d p) : ∃ l : List Tok, Sl W (fun _ => True) A n c l ∧ ∀ t ∈ l, t.text.length ≤ 9223372036854775807 := by
  obtain ⟨fuel, hf⟩ := h
  rcases open_slice Try.underlying22 hf with ⟨hcs, _⟩ | ⟨a, len, cap, m, n', D, Pl, hcs, _, hl, hm, hmm, _, hx⟩
  · simp [Value.cells] at hcs
    obtain ⟨rfl, rfl, rfl⟩ := hcs
    exact ⟨[], Sl.nil _ _ _ _ (by decide), fun o ho => by cases ho⟩
  · simp [Value.cells] at hcs
    obtain ⟨rfl, rfl, rfl⟩ := hcs
    simp only [if_true] at hmm
    subst hmm
    rw [cellsOfTok] at hx
    obtain ⟨g, hg⟩ := choose_lt (α := Tok) (n := n) (p := fun i o => (∀ j, j < 2 → W.cell? ((a.add (i * 2)).add j) = #[Value.int .i64 o.kind, .string ⟨o.text.toArray⟩][j]?) ∧ o.text.length ≤ 9223372036854775807) (fun i hi => by
      obtain ⟨cs', h1, h2⟩ := hx i (by omega)
      exact openTok h1 h2)
    refine ⟨(List.range n).map g, ⟨by simp, hl, by simpa [maxLen] using hm, fun i hi => ?_⟩, fun o ho => ?_⟩
    · have hi' : i < n := by simpa using hi
      refine ⟨a, rfl, trivial, fun j => (#[Value.int .i64 (g i).kind, .string ⟨(g i).text.toArray⟩]).getD j undef, fun j hj => ?_, ?_⟩
      · have h1 := (hg i hi').1 j hj
        rw [add_of_add] at h1
        show W.cell? (a.add (i * 2 + j)) = _
        rw [h1]
        match j, hj with
        | 0, _ => rfl
        | 1, _ => rfl
      · simp only [List.getElem_map, List.getElem_range]
        exact ⟨rfl, rfl⟩
    · obtain ⟨i, hi, rfl⟩ := List.mem_map.1 ho
      exact (hg i (List.mem_range.1 hi)).2
end
end Go.Proofs.Ytchdpjgncojhaaa
