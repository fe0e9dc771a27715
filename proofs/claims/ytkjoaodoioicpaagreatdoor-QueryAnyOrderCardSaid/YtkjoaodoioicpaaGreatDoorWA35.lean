/- Query (package licitlaw54): a part of the proofs of its laws; see the law's own text, which comes last in 'order'. No conditions of its own. -/
import Derived.Deep.Slices
import Derived.Deep.Strs
import Derived.ProofKit
import Derived.OpenShut
import Derived.Test.YtkjoaodoioicpaaGreatDoorRows
import Derived.Lib.LaidTab
import Derived.Lib.LaidU8
import Derived.Shelf.Vars
import Derived.Stop.LaidErr
import Derived.MakeChecks
import Derived.Handed
import Derived.SizedLaws
import Derived.Test.YtkjoaodoioicpaaGreatDoorWA02
import Derived.Test.YtkjoaodoioicpaaGreatDoorWA03
import Derived.Test.YtkjoaodoioicpaaGreatDoorWA12
import Derived.Test.YtkjoaodoioicpaaGreatDoorWA34
set_option linter.unusedVariables false
set_option linter.unusedSimpArgs false
namespace Go.Proofs.YtkjoaodoioicpaaGreatDoor
open Go.RowKit Go.Deep Go.ChangeShapes
theorem cellsOfInt : Tryz.prog.cellsOf 3 = 1 := by kernel_rfl
theorem cellsOfStr : Tryz.prog.cellsOf 9 = 1 := by kernel_rfl
theorem cellsOfBool : Tryz.prog.cellsOf 4 = 1 := by kernel_rfl
theorem cellsOfArg : Tryz.prog.cellsOf 46 = 3 := by kernel_rfl
theorem cellsOfArgs : Tryz.prog.cellsOf 29 = 1 := by kernel_rfl
theorem cellsOfAtm : Tryz.prog.cellsOf 31 = 2 := by kernel_rfl
theorem cellsOfLtl : Tryz.prog.cellsOf 60 = 4 := by kernel_rfl
theorem cellsOfLtls : Tryz.prog.cellsOf 32 = 1 := by kernel_rfl
theorem cellsOfRul : Tryz.prog.cellsOf 34 = 3 := by kernel_rfl
theorem undArg : ∃ f0 f1 f2 : Field, Tryz.prog.underlying 46 = some (.struct #[f0, f1, f2]) ∧ f0.type = 3 ∧ f0.offset = 0 ∧ f1.type = 9 ∧ f1.offset = 1 ∧ f2.type = 3 ∧ f2.offset = 2 :=
  ⟨_, _, _, Tryz.underlying46, rfl, rfl, rfl, rfl, rfl, rfl⟩
theorem undAtm : ∃ f0 f1 : Field, Tryz.prog.underlying 31 = some (.struct #[f0, f1]) ∧ f0.type = 9 ∧ f0.offset = 0 ∧ f1.type = 29 ∧ f1.offset = 1 :=
  ⟨_, _, Tryz.underlying31, rfl, rfl, rfl, rfl⟩
theorem undLtl : ∃ f0 f1 f2 : Field, Tryz.prog.underlying 60 = some (.struct #[f0, f1, f2]) ∧ f0.type = 4 ∧ f0.offset = 0 ∧ f1.type = 9 ∧ f1.offset = 1 ∧ f2.type = 31 ∧ f2.offset = 2 :=
  ⟨_, _, _, Tryz.underlying60, rfl, rfl, rfl, rfl, rfl, rfl⟩
theorem undRul : ∃ f0 f1 : Field, Tryz.prog.underlying 34 = some (.struct #[f0, f1]) ∧ f0.type = 31 ∧ f0.offset = 0 ∧ f1.type = 32 ∧ f1.offset = 2 :=
  ⟨_, _, Tryz.underlying34, rfl, rfl, rfl, rfl⟩
section
variable {H : Type} {enc : TypeId × Value → H} {W : World} {base : Nat} {spare : Nat → Bool} {held : Bool}
def Opens (enc : TypeId × Value → H) (W : World) (base : Nat) (spare : Nat → Bool) (held : Bool) (α : Type) [GoT α] (t : TypeId) (Ok : α → Prop) : Prop :=
  ∀ (fuel : Nat) (cs : List Value) (x : DataW H × List MemPlace), DataW.trod enc Tryz.prog W base spare held fuel t cs = some x →
    cs.length = GoT.size α ∧ ∃ o : α, GoT.rd W (fun _ => True) (fun j => cs.getD j undef) o ∧ Ok o
theorem opens_slice {α : Type} [GoT α] [Inhabited α] {t e : TypeId} {Ok : α → Prop} (hu : Tryz.prog.underlying t = some (.slice e)) (hz : Tryz.prog.cellsOf e = GoT.size α) (h : Opens enc W base spare held α e Ok)
    {fuel : Nat} {cs : List Value} {x : DataW H × List MemPlace} (hx : DataW.trod enc Tryz.prog W base spare held fuel t cs = some x) :
    ∃ A n c, ∃ l : List α, cs = [.slice A n c] ∧ Sl W (fun _ => True) A n c l ∧ ∀ o ∈ l, Ok o := by
  rcases open_slice hu hx with ⟨rfl, _⟩ | ⟨a, len, cap, m, n', D, Pl, rfl, _, hl, hm, hmm, _, hx⟩
  · exact ⟨none, 0, 0, [], rfl, Sl.nil _ _ _ _ (by decide), fun o ho => by cases ho⟩
  · have hlm : len ≤ m := by rw [hmm]; split <;> omega
    rw [hz] at hx
    obtain ⟨g, hg⟩ := choose_lt (α := List Value × α) (n := len) (p := fun i o => (∀ j, j < GoT.size α → W.cell? ((a.add (i * GoT.size α)).add j) = o.1[j]?) ∧ o.1.length = GoT.size α ∧ GoT.rd W (fun _ => True) (fun j => o.1.getD j undef) o.2 ∧ Ok o.2) (fun i hi => by
      obtain ⟨cs', h1, h2⟩ := hx i (by omega)
      obtain ⟨hlen, o, h3, h4⟩ := h _ _ _ h2
      obtain ⟨-, -, hcell⟩ := World.cells?_some h1
      exact ⟨(cs', o), hcell, hlen, h3, h4⟩)
    refine ⟨some a, len, cap, (List.range len).map fun i => (g i).2, rfl, ⟨by simp, hl, by simpa [maxLen] using hm, fun i hi => ?_⟩, fun o ho => ?_⟩
    · have hi' : i < len := by simpa using hi
      obtain ⟨h1, h2, h3, h4⟩ := hg i hi'
      refine ⟨a, rfl, trivial, fun j => (g i).1.getD j undef, fun j hj => ?_, ?_⟩
      · have := h1 j hj
        rw [add_of_add] at this
        show _ = some ((g i).1.getD j undef)
        rw [this, List.getD_eq_getElem?_getD, List.getElem?_eq_getElem (by omega)]
        rfl
      · simp only [List.getElem_map, List.getElem_range]
        exact h3
    · obtain ⟨i, hi, rfl⟩ := List.mem_map.1 ho
      exact (hg i (List.mem_range.1 hi)).2.2.2
theorem opens_arg : Opens enc W base spare held Arg 46 OkA := by
  intro fuel cs x h
  obtain ⟨f0, f1, f2, hu, t0, o0, t1, o1, t2, o2⟩ := undArg
  obtain ⟨y0, y1, y2, n, -, hl, h0, h1, h2⟩ := trod_struct3 hu h
  rw [t0, o0, cellsOfInt] at h0
  rw [t1, o1, cellsOfStr] at h1
  rw [t2, o2, cellsOfInt] at h2
  rw [cellsOfArg] at hl
  obtain ⟨a, b, c, rfl⟩ : ∃ a b c, cs = [a, b, c] := by
    match cs, hl with
    | [a, b, c], _ => exact ⟨a, b, c, rfl⟩
  obtain ⟨k, e0, -, -⟩ := DataW.trod_int Tryz.underlying3 h0
  obtain ⟨s, e1, -, hs⟩ := DataW.trod_string Tryz.underlying9 h1
  obtain ⟨m, e2, -, hw⟩ := DataW.trod_int Tryz.underlying3 h2
  simp at e0 e1 e2
  subst e0 e1 e2
  have hb : -9223372036854775808 ≤ m ∧ m ≤ 9223372036854775807 := by simpa [Lit.wf, IntKind.min, IntKind.max, IntKind.signed, IntKind.bits] using hw
  exact ⟨rfl, ⟨k, s.data.toList, m⟩, ⟨rfl, rfl, rfl⟩, by simpa [maxLen] using hs, hb.1, hb.2⟩
set_option maxRecDepth 100000 in
theorem opens_atm : Opens enc W base spare held Atm 31 OkT := by
  intro fuel cs x h
  obtain ⟨f0, f1, hu, t0, o0, t1, o1⟩ := undAtm
  obtain ⟨xs, n, -, -, hl, hlen, hf⟩ := DataW.trod_struct hu h
  have h0 := hf 0 f0 rfl
  have h1 := hf 1 f1 rfl
  rw [t0, o0, cellsOfStr] at h0
  rw [t1, o1, cellsOfArgs] at h1
  rw [cellsOfAtm] at hl
  obtain ⟨a, b, rfl⟩ : ∃ a b, cs = [a, b] := by
    match cs, hl with
    | [a, b], _ => exact ⟨a, b, rfl⟩
  obtain ⟨y0, y1, rfl⟩ : ∃ a b, xs = [a, b] := by
    match xs, hlen with
    | [a, b], _ => exact ⟨a, b, rfl⟩
  simp only [List.getElem?_cons_zero, List.getElem?_cons_succ] at h0 h1
  obtain ⟨s, e1, -, hs⟩ := DataW.trod_string Tryz.underlying9 h0
  obtain ⟨A, n, c, l, e2, hsl, hk⟩ := opens_slice Tryz.underlying29 cellsOfArg opens_arg h1
  simp at e1 e2
  subst e1 e2
  exact ⟨rfl, ⟨s.data.toList, l⟩, ⟨rfl, A, n, c, rfl, hsl⟩, by simpa [maxLen] using hs, hk⟩
theorem opens_ltl : Opens enc W base spare held Ltl 60 OkL := by
  intro fuel cs x h
  obtain ⟨f0, f1, f2, hu, t0, o0, t1, o1, t2, o2⟩ := undLtl
  obtain ⟨y0, y1, y2, n, -, hl, h0, h1, h2⟩ := trod_struct3 hu h
  rw [t0, o0, cellsOfBool] at h0
  rw [t1, o1, cellsOfStr] at h1
  rw [t2, o2, cellsOfAtm] at h2
  rw [cellsOfLtl] at hl
  obtain ⟨a, b, c, d, rfl⟩ : ∃ a b c d, cs = [a, b, c, d] := by
    match cs, hl with
    | [a, b, c, d], _ => exact ⟨a, b, c, d, rfl⟩
  obtain ⟨k, e0, -⟩ := DataW.trod_bool Tryz.underlying4 h0
  obtain ⟨s, e1, -, hs⟩ := DataW.trod_string Tryz.underlying9 h1
  obtain ⟨-, o, hrd, hok⟩ := opens_atm _ _ _ h2
  simp at e0 e1
  subst e0 e1
  obtain ⟨q0, A, n, c', q1, hsl⟩ := hrd
  have q0 : c = .string ⟨o.name.toArray⟩ := q0
  have q1 : d = .slice A n c' := q1
  subst q0 q1
  exact ⟨rfl, ⟨k, s.data.toList, o⟩, ⟨rfl, rfl, rfl, A, n, c', rfl, hsl⟩, by simpa [maxLen] using hs, hok⟩
set_option maxRecDepth 100000 in
theorem opens_rul : Opens enc W base spare held Rul 34 OkR := by
  intro fuel cs x h
  obtain ⟨f0, f1, hu, t0, o0, t1, o1⟩ := undRul
  obtain ⟨xs, n, -, -, hl, hlen, hf⟩ := DataW.trod_struct hu h
  have h0 := hf 0 f0 rfl
  have h1 := hf 1 f1 rfl
  rw [t0, o0, cellsOfAtm] at h0
  rw [t1, o1, cellsOfLtls] at h1
  rw [cellsOfRul] at hl
  obtain ⟨a, b, c, rfl⟩ : ∃ a b c, cs = [a, b, c] := by
    match cs, hl with
    | [a, b, c], _ => exact ⟨a, b, c, rfl⟩
  obtain ⟨y0, y1, rfl⟩ : ∃ a b, xs = [a, b] := by
    match xs, hlen with
    | [a, b], _ => exact ⟨a, b, rfl⟩
  simp only [List.getElem?_cons_zero, List.getElem?_cons_succ] at h0 h1
  obtain ⟨-, o, hrd, hok⟩ := opens_atm _ _ _ h0
  obtain ⟨A2, n2, c2, l, e2, hsl2, hk⟩ := opens_slice Tryz.underlying32 cellsOfLtl opens_ltl h1
  simp at e2
  subst e2
  obtain ⟨q0, A, n, c', q1, hsl⟩ := hrd
  have q0 : a = .string ⟨o.name.toArray⟩ := q0
  have q1 : b = .slice A n c' := q1
  subst q0 q1
  exact ⟨rfl, ⟨o, l⟩, ⟨rfl, ⟨A, n, c', rfl, hsl⟩, A2, n2, c2, rfl, hsl2⟩, hok, hk⟩
theorem openRules {A : Option Addr} {n c : Nat} {d : DataW H} {p : List MemPlace} (h : DataW.Trod enc Tryz.prog W base spare held 22 (.slice A n c) d p) : ∃ l : List Rul, Sl W (fun _ => True) A n c l ∧ ∀ r ∈ l, OkR r := by
  obtain ⟨fuel, hf⟩ := h
  obtain ⟨A', n', c', l, e, hs, hk⟩ := opens_slice Tryz.underlying22 cellsOfRul opens_rul hf
  simp [Value.cells] at e
  obtain ⟨rfl, rfl, rfl⟩ := e
  exact ⟨l, hs, hk⟩
end
end Go.Proofs.YtkjoaodoioicpaaGreatDoor
namespace Go.Proofs.YtkjoaodoioicpaaGreatDoor
open Go.RowKit Go.ChangeShapes
theorem tab_of_reads {W : World} {name : String} {k : IntKind} {zs : List Int} {g t e : Nat} {n : Nat} (hg : Tryz.prog.globalNamed name = some g) (hty : (Tryz.prog.globals[g]?).map (·.type) = some t) (ht : Tryz.prog.underlying t = some (.array n e)) (he : Tryz.prog.underlying e = some (.int k))
    (hce : Tryz.prog.cellsOf e = 1) (hct : Tryz.prog.cellsOf t = n) (h : Lib.VarReads Tryz.prog W name (Lib.tabData k zs)) : Lib.TabIs Tryz.prog W name k zs := by
  obtain ⟨g', t', cs, fuel, p, hg', ht', hvar, hd⟩ := h
  obtain rfl := Option.some.inj (hg.symm.trans hg')
  obtain rfl := Option.some.inj (hty.symm.trans ht')
  unfold Lib.TabIs
  rw [hvar, ← Lib.cells_of_tab ht he hce hct hd]
def laidL : List (String × DataW Unit) := Rows.queryGrowsRow.laid
set_option maxRecDepth 100000 in
theorem ld_of {W : World} (hL : laidMetH Tryz.prog laidL W) (hs : W.ShapedOpen Tryz.prog) : LD W := by
  rw [MakeChecks.laidMetH_plain _ _ _ (by kernel_rfl)] at hL
  have r := fun n d hm => Lib.laidMet.reads (n := n) (d := d) hL hm
  refine ⟨tab_of_reads (g := 3) (t := 244) (by kernel_rfl) (by kernel_rfl) Tryz.underlying244 Tryz.underlying170 (by kernel_rfl) (by kernel_rfl) ?_,
    tab_of_reads (g := 0) (t := 215) (by kernel_rfl) (by kernel_rfl) Tryz.underlying215 Tryz.underlying5 (by kernel_rfl) (by kernel_rfl) ?_,
    Go.Proofs.cell_of_shapedOpen_int (zero := #[.int .i64 0]) (t := 3) hs (of_decide_eq_true (by kernel_rfl)) (by kernel_rfl) rfl (by kernel_rfl) (by kernel_rfl) Tryz.underlying3⟩
  · have e : Lib.tabData .u64 Lib.pow10Tab = (Rows.laid_internal_strconv_uint64pow10 : DataW Unit) := by kernel_rfl
    rw [e]
    exact r _ _ (.tail _ (.tail _ (.head _)))
  · have e : Lib.tabData .u8 Lib.asciiSpaceTab = (Rows.laid_strings_asciiSpace : DataW Unit) := by kernel_rfl
    rw [e]
    first | exact r _ _ (.tail _ (.tail _ (.tail _ (.head _)))) | exact r _ _ (.tail _ (.tail _ (.tail _ (.tail _ (.head _)))))
end Go.Proofs.YtkjoaodoioicpaaGreatDoor
namespace Go.Proofs.YtkjoaodoioicpaaGreatDoor
open Go.RowKit Go.ChangeShapes
section
variable {H : Type} {enc : TypeId × Value → H}
theorem handed {a : Assume} {C : Checked} {os : Os} {f : FuncId} {fn : Func} {s : ChangeSpec} {conds : List PathCond} {apart fresh handsOn again : Bool} {X : World → Array Value → Prop}
    (hX : ∀ (w w' : World) (args : Array Value), w.heap = w'.heap → X w args → X w' args)
    (own : ownKnob C.prog.godebug = none) (started : os.Started) (noInit : C.prog.inits.idxOf? f = none) (hfn : C.prog.funcs[f]? = some fn)
    (witness : ∃ (w : World) (tape : Tape) (i : Input), w.os = os ∧ (w.forCall tape i).Shaped C.prog ∧ i.vars = [] ∧ Input.okWide C.prog (w.forCall tape i) .any w.heap.size f i ∧
      ((s.pre enc C.prog fn conds apart (w.forCall tape i).memory i.args ∧ X (w.forCall tape i).memory i.args) ∧ sizedMet enc C.prog fn (OpenSpec.ofChange s) apart (w.forCall tape i).memory i.args) ∧ a.holds C.prog (lone (Frame.enter C.prog f i.args .normal) [] (w.forCall tape i)))
    (contract : ∀ (W : World) (base : Nat) (args : Array Value) (ds gs : List (DataW H)) (before : List MemPlace),
      (∀ (j : Nat) t v, fn.params[j]? = some t → args[j]? = some v → Value.okWide C.prog W .any base t v) →
      DataW.Whole enc C.prog fn.params.toList s.vars apart W args.toList ds gs before →
      X W args → W.ShapedOpen C.prog →
      Calls C.prog f args W fun e W' => ∃ v, e = .returned v ∧ s.post enc C.prog fn apart fresh handsOn again W args v W') :
    ReturnsInHanded a C os f .any (fun w args => (s.pre enc C.prog fn conds apart w args ∧ X w args) ∧ sizedMet enc C.prog fn (OpenSpec.ofChange s) apart w args) (s.post enc C.prog fn apart fresh handsOn again) := by
  refine returnsInHanded_of_calls own started noInit witness ?_
  intro w tape i _ hsh _ hok hpre hholds
  obtain ⟨_, _, _, fn', hfn', _, _, _, _, hval⟩ := hok
  have e : fn' = fn := Option.some.inj (hfn'.symm.trans hfn)
  subst e
  obtain ⟨⟨⟨ds, gs, before, hw, hc⟩, hx⟩, hz⟩ := hpre
  have hw' := DataW.Whole.of_heap (w' := w.forCall tape i) (by rfl) hw
  refine (contract (w.forCall tape i) w.heap.size i.args ds gs before hval hw' (hX _ _ _ (by rfl) hx) hsh).mono fun e W' ⟨v, he, hp⟩ => ?_
  subst he
  exact ChangeSpec.post_blind hp
end
end Go.Proofs.YtkjoaodoioicpaaGreatDoor
namespace Go.Proofs.YtkjoaodoioicpaaGreatDoor
open Go.RowKit Go.Deep Go.ChangeShapes
section
variable {H : Type} {enc : TypeId × Value → H} {W : World} {base : Nat} {spare : Nat → Bool} {held : Bool}
theorem openAtoms {A : Option Addr} {n c : Nat} {d : DataW H} {p : List MemPlace} (h : DataW.Trod enc Tryz.prog W base spare held 23 (.slice A n c) d p) : ∃ l : List Atm, Sl W (fun _ => True) A n c l ∧ ∀ r ∈ l, OkT r := by
  obtain ⟨fuel, hf⟩ := h
  obtain ⟨A', n', c', l, e, hs, hk⟩ := opens_slice Tryz.underlying23 cellsOfAtm opens_atm hf
  simp [Value.cells] at e
  obtain ⟨rfl, rfl, rfl⟩ := e
  exact ⟨l, hs, hk⟩
theorem cellsOfU8 : Tryz.prog.cellsOf 5 = 1 := by kernel_rfl
theorem cellsOfPr : Tryz.prog.cellsOf 35 = 2 := by kernel_rfl
set_option maxRecDepth 100000 in
theorem opens_pr : Opens enc W base spare held Pr 35 OkPr := by
  intro fuel cs x h
  obtain ⟨xs, m, -, -, hl, hlen, hf⟩ := DataW.trod_array Tryz.underlying35 h
  rw [cellsOfPr] at hl
  obtain ⟨a, b, rfl⟩ : ∃ a b, cs = [a, b] := by
    match cs, hl with
    | [a, b], _ => exact ⟨a, b, rfl⟩
  obtain ⟨y0, y1, rfl⟩ : ∃ a b, xs = [a, b] := by
    match xs, hlen with
    | [a, b], _ => exact ⟨a, b, rfl⟩
  have h0 := hf 0 (by decide)
  have h1 := hf 1 (by decide)
  rw [cellsOfU8] at h0 h1
  simp only [List.getElem?_cons_zero, List.getElem?_cons_succ] at h0 h1
  obtain ⟨k, e0, -, w0⟩ := DataW.trod_int Tryz.underlying5 h0
  obtain ⟨j, e1, -, w1⟩ := DataW.trod_int Tryz.underlying5 h1
  simp at e0 e1
  subst e0 e1
  have w0 : 0 ≤ k ∧ k ≤ 255 := by simpa [Lit.wf, IntKind.min, IntKind.max, IntKind.signed, IntKind.bits] using w0
  have w1 : 0 ≤ j ∧ j ≤ 255 := by simpa [Lit.wf, IntKind.min, IntKind.max, IntKind.signed, IntKind.bits] using w1
  obtain ⟨k, rfl⟩ : ∃ n : Nat, k = (n : Int) := ⟨k.toNat, by omega⟩
  obtain ⟨j, rfl⟩ : ∃ n : Nat, j = (n : Int) := ⟨j.toNat, by omega⟩
  exact ⟨rfl, ⟨k, j⟩, ⟨rfl, rfl⟩, by show k ≤ 255; omega, by show j ≤ 255; omega⟩
theorem openPrs {A : Option Addr} {n c : Nat} {d : DataW H} {p : List MemPlace} (h : DataW.Trod enc Tryz.prog W base spare held 24 (.slice A n c) d p) : ∃ l : List Pr, Sl W (fun _ => True) A n c l ∧ ∀ r ∈ l, OkPr r := by
  obtain ⟨fuel, hf⟩ := h
  obtain ⟨A', n', c', l, e, hs, hk⟩ := opens_slice Tryz.underlying24 cellsOfPr opens_pr hf
  simp [Value.cells] at e
  obtain ⟨rfl, rfl, rfl⟩ := e
  exact ⟨l, hs, hk⟩
end
end Go.Proofs.YtkjoaodoioicpaaGreatDoor
namespace Go.Proofs.YtkjoaodoioicpaaGreatDoor
theorem flatK_len {α β : Type} (g : α → List β) (K : Nat) : ∀ l : List α, (∀ a ∈ l, (g a).length ≤ K) → (l.flatMap g).length ≤ l.length * K
  | [], _ => by simp
  | a :: r, h => by
    rw [List.flatMap_cons, List.length_append, List.length_cons, Nat.succ_mul]
    have h1 := h a List.mem_cons_self
    have h2 := flatK_len g K r (fun x hx => h x (List.mem_cons_of_mem _ hx))
    omega
theorem binds_len (known : List Atm) : ∀ (body : List Ltl) (v : Bnd), (bindsS known body v).length ≤ (known.length + 1) ^ body.length
  | [], v => by simp [bindsS]
  | l :: r, v => by
    unfold bindsS
    have hp : (known.length + 1) ^ (l :: r).length = known.length * (known.length + 1) ^ r.length + (known.length + 1) ^ r.length := by
      rw [List.length_cons, Nat.pow_succ, Nat.mul_comm, Nat.succ_mul]
    rw [hp]
    split
    · have := binds_len known r v
      omega
    · refine Nat.le_trans (flatK_len _ ((known.length + 1) ^ r.length) _ ?_) ?_
      · intro f _
        split
        · exact binds_len known r _
        · simp
      · refine Nat.le_trans (Nat.mul_le_mul_right _ (show (candS known l.atom).length ≤ known.length from List.length_filter_le _ _)) (Nat.le_add_right _ _)
theorem each_len (body : List Ltl) (known all : List Atm) : (eachQ body known all).length ≤ (known.length + 1) ^ body.length :=
  Nat.le_trans (List.length_filter_le _ _) (binds_len _ _ _)
def vZ : Arg := ⟨1, [90], 0⟩
def sReach : Bs := [114, 101, 97, 99, 104]
def sEdge : Bs := [101, 100, 103, 101]
def ruA : List Rul := [⟨⟨sReach, [vX, vY]⟩, [⟨false, [], ⟨sEdge, [vX, vY]⟩⟩]⟩, ⟨⟨sReach, [vX, vZ]⟩, [⟨false, [], ⟨sReach, [vX, vY]⟩⟩, ⟨false, [], ⟨sEdge, [vY, vZ]⟩⟩]⟩]
def nA (z : Int) : Arg := ⟨3, [], z⟩
def faA : List Atm := [⟨sEdge, [nA 2, nA 3]⟩, ⟨sEdge, [nA 1, nA 2]⟩]
def moA : List Atm := [⟨sEdge, [nA 1, nA 2]⟩, ⟨sEdge, [nA 2, nA 3]⟩, ⟨sReach, [nA 1, nA 2]⟩, ⟨sReach, [nA 1, nA 3]⟩, ⟨sReach, [nA 2, nA 3]⟩]
def quA : List Ltl := [⟨false, [], ⟨sReach, [nA 1, vX]⟩⟩, ⟨false, [33, 61], ⟨[], [vX, nA 2]⟩⟩]
def txA : Bs := [114, 101, 97, 99, 104, 40, 88, 44, 32, 89, 41, 32, 58, 45, 32, 101, 100, 103, 101, 40, 88, 44, 32, 89, 41, 46, 10, 114, 101, 97, 99, 104, 40, 88, 44, 32, 90, 41, 32, 58, 45, 32, 114, 101, 97, 99, 104, 40, 88, 44, 32, 89, 41, 44, 32, 101, 100, 103, 101, 40, 89, 44, 32, 90, 41, 46]
theorem aw_parse : rparseS txA = (ruA, 0, 0) := by decide +kernel
theorem aw_eval : evalS ruA faA = (moA, -1, 0) := by decide +kernel
theorem aw_model : (modelS ruA faA).1.length = 5 := by decide +kernel
theorem aw_ranks : ranksS ruA faA = some ([0, 0, 1, 2, 1], -1, 0) := by decide +kernel
theorem aw_ask : askS moA quA = ([[nA 3]], 0) := by decide +kernel
theorem aw_hB : ∀ known : List Atm, known.length < (modelS ruA faA).1.length → ∀ r ∈ ruA, (eachQ r.body known (modelS ruA faA).1).length ≤ 1000 := by
  rw [aw_model]
  intro known hk r hr
  refine Nat.le_trans (each_len _ _ _) ?_
  have hb : r.body.length ≤ 2 := by
    simp only [ruA, List.mem_cons, List.not_mem_nil, or_false] at hr
    rcases hr with rfl | rfl <;> simp
  have h1 : (known.length + 1) ^ r.body.length ≤ 5 ^ r.body.length := Nat.pow_le_pow_left (by omega) _
  have h2 : 5 ^ r.body.length ≤ 5 ^ 2 := Nat.pow_le_pow_right (by decide) hb
  omega
theorem aw_askr : ruleS ⟨⟨sAsk, (varsS ⟨⟨sAsk, []⟩, quA⟩).map fun s => ⟨1, s, 0⟩⟩, quA⟩ = true ∧ safeS ⟨⟨sAsk, (varsS ⟨⟨sAsk, []⟩, quA⟩).map fun s => ⟨1, s, 0⟩⟩, quA⟩ = true := by decide +kernel
end Go.Proofs.YtkjoaodoioicpaaGreatDoor
namespace Go.Proofs.YtkjoaodoioicpaaGreatDoor
open Go.RowKit
theorem rlower_any (c : Int) (w : World) :
    Calls Tryz.prog 65 #[.int .u8 c] w fun e w' => e = .returned (.bool (lowI c)) ∧ w = w' := by
  go_enter Tryz.func65, Tryz.ntmps65
  go_wp2
  all_goals go_ret
  all_goals (simp_all [lowI]; try omega)
theorem rupper_any (c : Int) (w : World) :
    Calls Tryz.prog 66 #[.int .u8 c] w fun e w' => e = .returned (.bool (uppI c)) ∧ w = w' := by
  go_enter Tryz.func66, Tryz.ntmps66
  go_wp2
  all_goals go_ret
  all_goals (simp_all [uppI]; try omega)
theorem rdigit_any (c : Int) (w : World) :
    Calls Tryz.prog 67 #[.int .u8 c] w fun e w' => e = .returned (.bool (digI c)) ∧ w = w' := by
  go_enter Tryz.func67, Tryz.ntmps67
  go_wp2
  all_goals go_ret
  all_goals (simp_all [digI]; try omega)
theorem rquoted_any (s : Bs) (w : World) (hl : s.length ≤ 9223372036854775807) :
    Calls Tryz.prog 152 #[.string ⟨s.toArray⟩] w fun e w' => e = .returned (.bool (conS s)) ∧ w = w' := by
  obtain ⟨v, hv⟩ : ∃ v, v = conS s := ⟨_, rfl⟩
  rw [← hv]
  have Hf : Hid (v = (decide (s.length ≤ 128) && (s.drop 0).all fun c => conI c.toNat)) := hv
  clear hv
  go_enter Tryz.func152, Tryz.ntmps152
  go_wp2_with fail
  go_loop [3] (fun i => ∃ k : Nat, k ≤ s.length ∧ i = .int .i64 k ∧ Hid (v = (decide (s.length ≤ 128) && (s.drop k).all fun c => conI c.toNat))) (fun i => s.length - (intOf i).toNat)
  case atStart => exact ⟨0, by omega, rfl, Hf⟩
  case round =>
    obtain ⟨k, hk, rfl, hf⟩ := hrel
    by_cases hlt : k < s.length
    · have hd : v = (decide (s.length ≤ 128) && (conI s[k].toNat && (s.drop (k + 1)).all fun c => conI c.toNat)) := by rw [hf.out, drop_get hlt, List.all_cons]
      cases hc : conI s[k].toNat
      · rw [hc, Bool.false_and, Bool.and_false] at hd
        have HD := Lib.hid hd
        clear hf hd
        unfold conI at hc
        go_wp2_with fail
        all_goals first | (go_ret; exact ⟨ret_bool HD.out, rfl⟩) | (exfalso; simp_all; done) | (exfalso; simp_all; omega)
      · rw [hc, Bool.true_and] at hd
        have HD := Lib.hid hd
        clear hf hd
        unfold conI at hc
        simp only [Bool.and_eq_true, decide_eq_true_eq, bne_iff_ne, ne_eq] at hc
        obtain ⟨⟨⟨c1, c2⟩, c3⟩, c4⟩ := hc
        have d1 : ¬ ((s[k].toNat : Int) < 32) := by omega
        have d2 : ¬ ((126 : Int) < s[k].toNat) := by omega
        have d3 : ((s[k].toNat : Int) == 34) = false := by simpa using c3
        have d4 : ((s[k].toNat : Int) == 92) = false := by simpa using c4
        go_wp2_with fail
        go_round
        case rel => exact ⟨k + 1, by omega, by go_num, HD.out⟩
        case measure => simp [intOf]; omega
    · go_wp2_with fail
      go_ret
      exact ⟨ret_bool (by rw [hf.out, drop_end hlt]; simp; omega), rfl⟩
set_option maxRecDepth 100000 in
set_option maxHeartbeats 2000000 in
theorem rpredicate_any (s : Bs) (w : World) (hl : s.length ≤ 9223372036854775807) :
    Calls Tryz.prog 101 #[.string ⟨s.toArray⟩] w fun e w' => e = .returned (.bool (predS s)) ∧ w = w' := by
  obtain ⟨v, hv⟩ : ∃ v, v = predS s := ⟨_, rfl⟩
  rw [← hv]
  unfold predS eachS at hv
  by_cases g1 : 1 ≤ s.length
  · by_cases g2 : s.length ≤ 32
    · have hz : 0 < s.length := g1
      have hf0 := headD_get hz
      rw [hf0, decide_eq_true g1, decide_eq_true g2, Bool.true_and, Bool.true_and] at hv
      have H1 := Lib.hid (rlower_any s[0].toNat)
      cases g3 : lowI s[0].toNat
      · have Hf : Hid (v = false) := by show v = _; rw [hv, g3]; simp
        have H1' := H1.out w
        rw [g3] at H1'
        clear hv hf0 g3
        go_enter Tryz.func101, Tryz.ntmps101
        go_wp2_with fail
        refine H1'.mono ?_
        rintro e w' ⟨rfl, rfl⟩
        go_wp2
        go_ret
        exact ⟨ret_bool Hf.out, rfl⟩
      · rw [g3, Bool.true_and] at hv
        have H1' := H1.out w
        rw [g3] at H1'
        by_cases hn : s = [110, 111, 116]
        · have Hf : Hid (v = false) := by show v = _; rw [hv, hn]; rfl
          clear hv hf0 g3 H1' H1
          subst hn
          have H1' := rlower_any 110 w
          rw [show lowI 110 = true from by decide] at H1'
          go_enter Tryz.func101, Tryz.ntmps101
          go_wp2_with fail
          refine (show Calls Tryz.prog 65 _ w _ from H1').mono ?_
          rintro e w' ⟨rfl, rfl⟩
          go_wp2_with fail
          go_ret
          exact ⟨ret_bool Hf.out, rfl⟩
        have hnb : (s == [110, 111, 116]) = false := by simpa using hn
        have Hf : Hid (v = (s.drop 0).all fun c => preI c.toNat) := by show v = _; rw [hv]; simp [sNot, hn, bne]
        clear hv hf0 g3
        go_enter Tryz.func101, Tryz.ntmps101
        go_wp2_with fail
        refine H1'.mono ?_
        rintro e w' ⟨rfl, rfl⟩
        go_wp2_with fail
        go_loop [3] (fun i => ∃ k : Nat, k ≤ s.length ∧ i = .int .i64 k ∧ Hid (v = (s.drop k).all fun c => preI c.toNat)) (fun i => s.length - (intOf i).toNat)
        case atStart => exact ⟨0, by omega, rfl, Hf⟩
        case round =>
          obtain ⟨k, hk, rfl, hf⟩ := hrel
          by_cases hlt : k < s.length
          · have hd : v = (preI s[k].toNat && (s.drop (k + 1)).all fun c => preI c.toNat) := by rw [hf.out, drop_get hlt, List.all_cons]
            unfold preI at hd
            have C0 := rlower_any s[k].toNat w
            have C1 := rdigit_any s[k].toNat w
            generalize hcn : (s[k].toNat : Int) = n at *
            by_cases hall : (lowI n || digI n || n == 95) = true
            · rw [hall, Bool.true_and] at hd
              have HD := Lib.hid hd; clear hd hf
              go_wp2_with fail
              refine C0.mono ?_
              rintro e w' ⟨rfl, rfl⟩
              cases i0 : lowI n
              rotate_left
              · go_wp2_with fail
                go_round
                case rel => exact ⟨k + 1, by omega, by go_num, HD.out⟩
                case measure => simp [intOf]; omega
              go_wp2_with fail
              refine C1.mono ?_
              rintro e w' ⟨rfl, rfl⟩
              cases i1 : digI n
              rotate_left
              · go_wp2_with fail
                go_round
                case rel => exact ⟨k + 1, by omega, by go_num, HD.out⟩
                case measure => simp [intOf]; omega
              have h95 : n = 95 := by simpa [i0, i1] using hall
              have h95b : (n == 95) = true := by simpa using h95
              go_wp2_with fail
              go_round
              case rel => exact ⟨k + 1, by omega, by go_num, HD.out⟩
              case measure => simp [intOf]; omega
            · have hall := Bool.eq_false_iff.2 hall
              rw [hall, Bool.false_and] at hd
              have HD := Lib.hid hd; clear hd hf
              simp only [Bool.or_eq_false_iff] at hall
              obtain ⟨⟨i0, i1⟩, h95b⟩ := hall
              go_wp2_with fail
              refine C0.mono ?_
              rintro e w' ⟨rfl, rfl⟩
              rw [i0]
              go_wp2_with fail
              refine C1.mono ?_
              rintro e w' ⟨rfl, rfl⟩
              rw [i1]
              go_wp2_with fail
              go_ret
              exact ⟨ret_bool HD.out, rfl⟩
          · go_wp2_with fail
            go_ret
            exact ⟨ret_bool (by rw [hf.out, drop_end hlt]; rfl), rfl⟩
    · have Hf : Hid (v = false) := by show v = _; rw [hv]; simp [g2]
      clear hv
      go_enter Tryz.func101, Tryz.ntmps101
      go_wp2
      go_ret
      exact ⟨ret_bool Hf.out, rfl⟩
  · have Hf : Hid (v = false) := by show v = _; rw [hv]; simp [g1]
    clear hv
    go_enter Tryz.func101, Tryz.ntmps101
    go_wp2
    go_ret
    exact ⟨ret_bool Hf.out, rfl⟩
set_option maxRecDepth 100000 in
set_option maxHeartbeats 2000000 in
theorem rvariable_any (s : Bs) (w : World) (hl : s.length ≤ 9223372036854775807) :
    Calls Tryz.prog 151 #[.string ⟨s.toArray⟩] w fun e w' => e = .returned (.bool (varS s)) ∧ w = w' := by
  obtain ⟨v, hv⟩ : ∃ v, v = varS s := ⟨_, rfl⟩
  rw [← hv]
  unfold varS eachS at hv
  by_cases g1 : 1 ≤ s.length
  · by_cases g2 : s.length ≤ 32
    · have hz : 0 < s.length := g1
      have hf0 := headD_get hz
      rw [hf0, decide_eq_true g1, decide_eq_true g2, Bool.true_and, Bool.true_and] at hv
      have H1 := Lib.hid (rupper_any s[0].toNat)
      cases g3 : uppI s[0].toNat
      · have Hf : Hid (v = false) := by show v = _; rw [hv, g3]; simp
        have H1' := H1.out w
        rw [g3] at H1'
        clear hv hf0 g3
        go_enter Tryz.func151, Tryz.ntmps151
        go_wp2_with fail
        refine H1'.mono ?_
        rintro e w' ⟨rfl, rfl⟩
        go_wp2
        go_ret
        exact ⟨ret_bool Hf.out, rfl⟩
      · rw [g3, Bool.true_and] at hv
        have H1' := H1.out w
        rw [g3] at H1'
        have Hf : Hid (v = (s.drop 0).all fun c => varI c.toNat) := hv
        clear hv hf0 g3
        go_enter Tryz.func151, Tryz.ntmps151
        go_wp2_with fail
        refine H1'.mono ?_
        rintro e w' ⟨rfl, rfl⟩
        go_wp2_with fail
        go_loop [3] (fun i => ∃ k : Nat, k ≤ s.length ∧ i = .int .i64 k ∧ Hid (v = (s.drop k).all fun c => varI c.toNat)) (fun i => s.length - (intOf i).toNat)
        case atStart => exact ⟨0, by omega, rfl, Hf⟩
        case round =>
          obtain ⟨k, hk, rfl, hf⟩ := hrel
          by_cases hlt : k < s.length
          · have hd : v = (varI s[k].toNat && (s.drop (k + 1)).all fun c => varI c.toNat) := by rw [hf.out, drop_get hlt, List.all_cons]
            unfold varI at hd
            have C0 := rlower_any s[k].toNat w
            have C1 := rupper_any s[k].toNat w
            have C2 := rdigit_any s[k].toNat w
            generalize hcn : (s[k].toNat : Int) = n at *
            by_cases hall : (lowI n || uppI n || digI n || n == 95) = true
            · rw [hall, Bool.true_and] at hd
              have HD := Lib.hid hd; clear hd hf
              go_wp2_with fail
              refine C0.mono ?_
              rintro e w' ⟨rfl, rfl⟩
              cases i0 : lowI n
              rotate_left
              · go_wp2_with fail
                go_round
                case rel => exact ⟨k + 1, by omega, by go_num, HD.out⟩
                case measure => simp [intOf]; omega
              go_wp2_with fail
              refine C1.mono ?_
              rintro e w' ⟨rfl, rfl⟩
              cases i1 : uppI n
              rotate_left
              · go_wp2_with fail
                go_round
                case rel => exact ⟨k + 1, by omega, by go_num, HD.out⟩
                case measure => simp [intOf]; omega
              go_wp2_with fail
              refine C2.mono ?_
              rintro e w' ⟨rfl, rfl⟩
              cases i2 : digI n
              rotate_left
              · go_wp2_with fail
                go_round
                case rel => exact ⟨k + 1, by omega, by go_num, HD.out⟩
                case measure => simp [intOf]; omega
              have h95 : n = 95 := by simpa [i0, i1, i2] using hall
              have h95b : (n == 95) = true := by simpa using h95
              go_wp2_with fail
              go_round
              case rel => exact ⟨k + 1, by omega, by go_num, HD.out⟩
              case measure => simp [intOf]; omega
            · have hall := Bool.eq_false_iff.2 hall
              rw [hall, Bool.false_and] at hd
              have HD := Lib.hid hd; clear hd hf
              simp only [Bool.or_eq_false_iff] at hall
              obtain ⟨⟨⟨i0, i1⟩, i2⟩, h95b⟩ := hall
              go_wp2_with fail
              refine C0.mono ?_
              rintro e w' ⟨rfl, rfl⟩
              rw [i0]
              go_wp2_with fail
              refine C1.mono ?_
              rintro e w' ⟨rfl, rfl⟩
              rw [i1]
              go_wp2_with fail
              refine C2.mono ?_
              rintro e w' ⟨rfl, rfl⟩
              rw [i2]
              go_wp2_with fail
              go_ret
              exact ⟨ret_bool HD.out, rfl⟩
          · go_wp2_with fail
            go_ret
            exact ⟨ret_bool (by rw [hf.out, drop_end hlt]; rfl), rfl⟩
    · have Hf : Hid (v = false) := by show v = _; rw [hv]; simp [g2]
      clear hv
      go_enter Tryz.func151, Tryz.ntmps151
      go_wp2
      go_ret
      exact ⟨ret_bool Hf.out, rfl⟩
  · have Hf : Hid (v = false) := by show v = _; rw [hv]; simp [g1]
    clear hv
    go_enter Tryz.func151, Tryz.ntmps151
    go_wp2
    go_ret
    exact ⟨ret_bool Hf.out, rfl⟩
end Go.Proofs.YtkjoaodoioicpaaGreatDoor
namespace Go.Proofs.YtkjoaodoioicpaaGreatDoor
open Go.RowKit
set_option maxRecDepth 100000 in
set_option maxHeartbeats 2000000 in
theorem rargument_any (a : Arg) (w : World) (ha : OkA a) :
    Calls Tryz.prog 133 #[vArg a] w fun e w' => e = .returned (.bool (formedS a)) ∧ Below w.heap.size w w' := by
  obtain ⟨v, hv⟩ : ∃ v, v = formedS a := ⟨_, rfl⟩
  rw [← hv]
  unfold formedS at hv
  obtain ⟨k, t, n⟩ := a
  unfold vArg
  simp only at hv ⊢
  have h1 := fun w => rvariable_any t w ha.1
  have h2 := fun w => rquoted_any t w ha.1
  have HV := Lib.hid hv; clear hv ha
  by_cases k1 : k = 1
  · subst k1
    cases hx : varS t
    all_goals (rw [hx] at h1; have H1 := Lib.hid h1; clear h1 h2)
    all_goals go_enter Tryz.func133, Tryz.ntmps133
    all_goals go_wp2_with fail
    all_goals refine (H1.out _).mono ?_
    all_goals rintro e w' ⟨rfl, rfl⟩
    all_goals go_wp2_with fail
    all_goals (go_ret; refine ⟨ret_bool ?_, boxed⟩; rw [HV.out])
    all_goals simp [hx]
  · have k1b : (k == 1) = false := by simpa using k1
    by_cases k2 : k = 2
    · subst k2
      cases hx : conS t
      all_goals (rw [hx] at h2; have H1 := Lib.hid h2; clear h1 h2)
      all_goals go_enter Tryz.func133, Tryz.ntmps133
      all_goals go_wp2_with fail
      all_goals refine (H1.out _).mono ?_
      all_goals rintro e w' ⟨rfl, rfl⟩
      all_goals go_wp2_with fail
      all_goals (go_ret; refine ⟨ret_bool ?_, boxed⟩; rw [HV.out])
      all_goals simp [hx]
    · have k2b : (k == 2) = false := by simpa using k2
      clear h1 h2
      by_cases k3 : k = 3
      · subst k3
        go_enter Tryz.func133, Tryz.ntmps133
        go_wp2_with fail
        all_goals (go_ret; refine ⟨ret_bool ?_, boxed⟩; rw [HV.out])
        all_goals first | (simp_all; done) | (simp_all; omega)
      · have k3b : (k == 3) = false := by simpa using k3
        go_enter Tryz.func133, Tryz.ntmps133
        go_wp2_with fail
        go_ret
        exact ⟨ret_bool (by rw [HV.out]; simp [k1, k2, k3]), boxed⟩
set_option maxRecDepth 100000 in
set_option maxHeartbeats 2000000 in
theorem rarguments_any (A : Option Addr) (n c : Nat) (l : List Arg) (w : World) (S : Nat → Prop) (hl : Sl w S A n c l) (ho : OkAs l) :
    Calls Tryz.prog 134 #[.slice A n c] w fun e w' => e = .returned (.bool (decide (l.length ≤ 6) && argsS l)) ∧ Below w.heap.size w w' := by
  obtain ⟨v, hv⟩ : ∃ v, v = (decide (l.length ≤ 6) && argsS l) := ⟨_, rfl⟩
  rw [← hv]
  have hn := hl.len
  subst hn
  have hle := hl.le
  have HF : Hid (v = (decide (l.length ≤ 6) && (l.drop 0).all formedS)) := hv
  have HL := Lib.hid hl; have HO := Lib.hid ho; clear hv hl ho
  go_enter Tryz.func134, Tryz.ntmps134
  go_wp2_with fail
  go_loopw [3] (fun i wr => ∃ k : Nat, k ≤ l.length ∧ i = .int .i64 k ∧ Below w.heap.size w wr ∧ Hid (v = (decide (l.length ≤ 6) && (l.drop k).all formedS))) (fun i _ => l.length - (intOf i).toNat)
  case atStart => exact ⟨0, by omega, rfl, Below.refl _ _, HF⟩
  case round =>
    obtain ⟨k, hk, rfl, hb, hf⟩ := hrel
    by_cases hlt : k < l.length
    · obtain ⟨b1, o1, rfl, -, hbs1, h1, h2, h3⟩ := (HL.out.below hb).arg hlt
      have hd := hf.out
      rw [drop_get hlt, List.all_cons] at hd
      have hca := fun w => rargument_any l[k] w (HO.out _ (List.getElem_mem hlt))
      generalize l[k] = x at *
      unfold vArg at hca
      cases hx : formedS x
      · rw [hx, Bool.false_and, Bool.and_false] at hd
        rw [hx] at hca
        have HD := Lib.hid hd; have HCA := Lib.hid hca; have HB := Lib.hid hb; clear hd hca hf hb hx
        go_wp2_with fail
        refine (HCA.out _).mono ?_
        rintro e w5 ⟨rfl, hb5⟩
        go_wp2_with fail
        go_ret
        exact ⟨ret_bool HD.out, HB.out.trans (hb5.mono HB.out.size)⟩
      · rw [hx, Bool.true_and] at hd
        rw [hx] at hca
        have HD := Lib.hid hd; have HCA := Lib.hid hca; have HB := Lib.hid hb; clear hd hca hf hb hx
        go_wp2_with fail
        refine (HCA.out _).mono ?_
        rintro e w5 ⟨rfl, hb5⟩
        go_wp2_with fail
        go_roundw
        case rel => exact ⟨k + 1, by omega, by go_num, HB.out.trans (hb5.mono HB.out.size), HD.out⟩
        case measure => simp [intOf]; omega
    · have hd := hf.out
      rw [drop_end hlt] at hd
      have HD := Lib.hid hd; clear hd hf
      go_wp2_with fail
      go_ret
      exact ⟨ret_bool (by rw [HD.out]; simp; omega), hb⟩
set_option maxRecDepth 100000 in
set_option maxHeartbeats 2000000 in
theorem ratomF_any (x : Atm) (A : Option Addr) (n c : Nat) (w : World) (S : Nat → Prop) (hl : Sl w S A n c x.args) (ho : OkT x) :
    Calls Tryz.prog 104 #[.agg #[.string ⟨x.name.toArray⟩, .slice A n c]] w fun e w' => e = .returned (.bool (atomS x)) ∧ Below w.heap.size w w' := by
  obtain ⟨v, hv⟩ : ∃ v, v = atomS x := ⟨_, rfl⟩
  rw [← hv]
  unfold atomS at hv
  obtain ⟨nm, l⟩ := x
  simp only at hl hv ⊢
  have h1 := fun w => rpredicate_any nm w ho.1
  have h2 := fun w' (hb : Below w.heap.size w w') => rarguments_any A n c l w' S (hl.below hb) ho.2
  rw [Bool.and_assoc] at hv
  have H2 := Lib.hid h2
  cases hx : predS nm
  · rw [hx] at h1 hv
    have H1 := Lib.hid h1; have HV := Lib.hid hv; clear h1 h2 hv hl ho hx
    go_enter Tryz.func104, Tryz.ntmps104
    go_wp2_with fail
    refine (H1.out _).mono ?_
    rintro e w' ⟨rfl, rfl⟩
    go_wp2_with fail
    go_ret
    exact ⟨ret_bool (by rw [HV.out]; rfl), boxed⟩
  · rw [hx, Bool.true_and] at hv
    rw [hx] at h1
    have H1 := Lib.hid h1; have HV := Lib.hid hv; clear h1 h2 hv hl ho hx
    go_enter Tryz.func104, Tryz.ntmps104
    go_wp2_with fail
    refine (H1.out _).mono ?_
    rintro e w' ⟨rfl, rfl⟩
    go_wp2_with fail
    refine (H2.out _ boxed).mono ?_
    rintro e w2 ⟨rfl, hb2⟩
    rw [← HV.out]
    go_wp2_with fail
    go_ret
    exact ⟨rfl, boxed.trans (hb2.mono (by simp))⟩
end Go.Proofs.YtkjoaodoioicpaaGreatDoor
