/- A part of the proofs of the laws of one package; see the law's own text, which comes last in 'order'. No conditions of its own. -/
import Derived.Test.YtpeamehplhpcjaaGreatDoorRows
import Derived.Deep.Slices
import Derived.Deep.Strs
import Derived.ProofKit
import Derived.OpenShut
import Derived.MakeChecks
import Derived.Handed
import Derived.SizedLaws
import Derived.Lib.SliceRun
import Derived.Test.YtpeamehplhpcjaaGreatDoorZ07
import Derived.Test.YtpeamehplhpcjaaGreatDoorZ14
import Derived.Test.YtpeamehplhpcjaaGreatDoorZ33
import Derived.Test.YtpeamehplhpcjaaGreatDoorZ39
set_option linter.unusedVariables false
set_option linter.unusedSimpArgs false
namespace Go.Proofs.YtpeamehplhpcjaaGreatDoor
open Go.RowKit Go.Deep Go.ChangeShapes
theorem cellsOfStr : Tryz.prog.cellsOf 9 = 1 := by kernel_rfl
theorem cellsOfFil : Tryz.prog.cellsOf 73 = 2 := by kernel_rfl
theorem undFil : ∃ f0 f1 : Field, Tryz.prog.underlying 73 = some (.struct #[f0, f1]) ∧ f0.type = 9 ∧ f0.offset = 0 ∧ f1.type = 9 ∧ f1.offset = 1 :=
  ⟨_, _, Tryz.underlying73, rfl, rfl, rfl, rfl⟩
section
variable {H : Type} {enc : TypeId × Value → H} {W : World} {base : Nat} {spare : Nat → Bool} {held : Bool}
def Opens (enc : TypeId × Value → H) (W : World) (base : Nat) (spare : Nat → Bool) (held : Bool) (α : Type) [GoT α] (t : TypeId) (Ok : α → Prop) : Prop :=
  ∀ (fuel : Nat) (cs : List Value) (x : DataW H × List MemPlace), DataW.trod enc Tryz.prog W base spare held fuel t cs = some x →
    cs.length = GoT.size α ∧ ∃ o : α, GoT.rd W (fun _ => True) (fun j => cs.getD j undef) o ∧ Ok o
theorem opens_slice {α : Type} [GoT α] [Inhabited α] {t e : TypeId} {Ok : α → Prop} (hu : Tryz.prog.underlying t = some (.slice e)) (hz : Tryz.prog.cellsOf e = GoT.size α) (h : Opens enc W base spare held α e Ok)
    {fuel : Nat} {cs : List Value} {x : DataW H × List MemPlace} (hx : DataW.trod enc Tryz.prog W base spare held fuel t cs = some x) :
    ∃ A n c, ∃ l : List α, cs = [.slice A n c] ∧ Sl W (fun _ => True) A n c l ∧ ∀ o ∈ l, Ok o := by
  rcases open_slice hu hx with ⟨rfl, _⟩ | ⟨a, len, cap, m, n', D, Pl, rfl, _, hl, hm, hmm, _, hx⟩
  · exact ⟨none, 0, 0, [], rfl, Sl.nil _ _ _ _ (by decide), fun o ho => by cases ho⟩
  · have hlm : len ≤ m := by rw [hmm]; split <;> omega
    rw [hz] at hx
    obtain ⟨g, hg⟩ := choose_lt (α := List Value × α) (n := len) (p := fun i o => (∀ j, j < GoT.size α → W.cell? ((a.add (i * GoT.size α)).add j) = o.1[j]?) ∧ o.1.length = GoT.size α ∧ GoT.rd W (fun _ => True) (fun j => o.1.getD j undef) o.2 ∧ Ok o.2) (fun i hi => by
      obtain ⟨cs', h1, h2⟩ := hx i (by omega)
      obtain ⟨hlen, o, h3, h4⟩ := h _ _ _ h2
      obtain ⟨-, -, hcell⟩ := World.cells?_some h1
      exact ⟨(cs', o), hcell, hlen, h3, h4⟩)
    refine ⟨some a, len, cap, (List.range len).map fun i => (g i).2, rfl, ⟨by simp, hl, by simpa [maxLen] using hm, fun i hi => ?_⟩, fun o ho => ?_⟩
    · have hi' : i < len := by simpa using hi
      obtain ⟨h1, h2, h3, h4⟩ := hg i hi'
      refine ⟨a, rfl, trivial, fun j => (g i).1.getD j undef, fun j hj => ?_, ?_⟩
      · have := h1 j hj
        rw [add_of_add] at this
        show _ = some ((g i).1.getD j undef)
        rw [this, List.getD_eq_getElem?_getD, List.getElem?_eq_getElem (by omega)]
        rfl
      · simp only [List.getElem_map, List.getElem_range]
        exact h3
    · obtain ⟨i, hi, rfl⟩ := List.mem_map.1 ho
      exact (hg i (List.mem_range.1 hi)).2.2.2
instance : Inhabited Bs := ⟨[]⟩
set_option maxRecDepth 100000 in
theorem opens_str : Opens enc W base spare held Bs 9 OkB := by
  intro fuel cs x h
  obtain ⟨s, e, -, hs⟩ := DataW.trod_string Tryz.underlying9 h
  subst e
  exact ⟨rfl, s.data.toList, rfl, by simpa [OkB, maxLen] using hs⟩
set_option maxRecDepth 100000 in
theorem opens_fil : Opens enc W base spare held Fil 73 OkF := by
  intro fuel cs x h
  obtain ⟨f0, f1, hu, t0, o0, t1, o1⟩ := undFil
  obtain ⟨xs, n, -, -, hl, hlen, hf⟩ := DataW.trod_struct hu h
  have h0 := hf 0 f0 rfl
  have h1 := hf 1 f1 rfl
  rw [t0, o0, cellsOfStr] at h0
  rw [t1, o1, cellsOfStr] at h1
  rw [cellsOfFil] at hl
  obtain ⟨a, b, rfl⟩ : ∃ a b, cs = [a, b] := by
    match cs, hl with
    | [a, b], _ => exact ⟨a, b, rfl⟩
  obtain ⟨y0, y1, rfl⟩ : ∃ a b, xs = [a, b] := by
    match xs, hlen with
    | [a, b], _ => exact ⟨a, b, rfl⟩
  simp only [List.getElem?_cons_zero, List.getElem?_cons_succ] at h0 h1
  obtain ⟨s, e1, -, hs⟩ := DataW.trod_string Tryz.underlying9 h0
  obtain ⟨s', e2, -, hs'⟩ := DataW.trod_string Tryz.underlying9 h1
  simp at e1 e2
  subst e1 e2
  exact ⟨rfl, ⟨s.data.toList, s'.data.toList⟩, ⟨rfl, rfl⟩, by simpa [OkB, maxLen] using hs, by simpa [OkB, maxLen] using hs'⟩
set_option maxRecDepth 100000 in
theorem openTree {A : Option Addr} {n c : Nat} {d : DataW H} {p : List MemPlace} (h : DataW.Trod enc Tryz.prog W base spare held 28 (.slice A n c) d p) : ∃ l : List Fil, Sl W (fun _ => True) A n c l ∧ ∀ r ∈ l, OkF r := by
  obtain ⟨fuel, hf⟩ := h
  obtain ⟨A', n', c', l, e, hs, hk⟩ := opens_slice Tryz.underlying28 cellsOfFil opens_fil hf
  simp [Value.cells] at e
  obtain ⟨rfl, rfl, rfl⟩ := e
  exact ⟨l, hs, hk⟩
set_option maxRecDepth 100000 in
theorem openStrs {A : Option Addr} {n c : Nat} {d : DataW H} {p : List MemPlace} (h : DataW.Trod enc Tryz.prog W base spare held 29 (.slice A n c) d p) : ∃ l : List Bs, Sl W (fun _ => True) A n c l ∧ ∀ r ∈ l, OkB r := by
  obtain ⟨fuel, hf⟩ := h
  obtain ⟨A', n', c', l, e, hs, hk⟩ := opens_slice Tryz.underlying29 cellsOfStr opens_str hf
  simp [Value.cells] at e
  obtain ⟨rfl, rfl, rfl⟩ := e
  exact ⟨l, hs, hk⟩
structure Scn where
  tree : List Fil
  path : Bs
  flags : List Bs
  ln : Ln
  text : Bs
end
def laidL : List (String × DataW Unit) := Rows.sourceReferencesRow.laid
set_option maxRecDepth 100000 in
theorem ld_of {W : World} (_ : laidMetH Tryz.prog laidL W) (hs : W.ShapedOpen Tryz.prog) : LS W :=
  ⟨Go.Proofs.cell_of_shapedOpen_int (zero := #[.int .i64 0]) (t := 3) hs (of_decide_eq_true (by kernel_rfl)) (by kernel_rfl) rfl (by kernel_rfl) (by kernel_rfl) Tryz.underlying3⟩
end Go.Proofs.YtpeamehplhpcjaaGreatDoor
namespace Go.Proofs.YtpeamehplhpcjaaGreatDoor
open Go.RowKit Go.ChangeShapes
section
variable {H : Type} {enc : TypeId × Value → H}
theorem handed {a : Assume} {C : Checked} {os : Os} {f : FuncId} {fn : Func} {s : ChangeSpec} {conds : List PathCond} {apart fresh handsOn again : Bool} {X : World → Array Value → Prop}
    (hX : ∀ (w w' : World) (args : Array Value), w.heap = w'.heap → X w args → X w' args)
    (own : ownKnob C.prog.godebug = none) (started : os.Started) (noInit : C.prog.inits.idxOf? f = none) (hfn : C.prog.funcs[f]? = some fn)
    (witness : ∃ (w : World) (tape : Tape) (i : Input), w.os = os ∧ (w.forCall tape i).Shaped C.prog ∧ i.vars = [] ∧ Input.okWide C.prog (w.forCall tape i) .any w.heap.size f i ∧
      ((s.pre enc C.prog fn conds apart (w.forCall tape i).memory i.args ∧ X (w.forCall tape i).memory i.args) ∧ sizedMet enc C.prog fn (OpenSpec.ofChange s) apart (w.forCall tape i).memory i.args) ∧ a.holds C.prog (lone (Frame.enter C.prog f i.args .normal) [] (w.forCall tape i)))
    (contract : ∀ (W : World) (base : Nat) (args : Array Value) (ds gs : List (DataW H)) (before : List MemPlace),
      (∀ (j : Nat) t v, fn.params[j]? = some t → args[j]? = some v → Value.okWide C.prog W .any base t v) →
      DataW.Whole enc C.prog fn.params.toList s.vars apart W args.toList ds gs before →
      X W args → W.ShapedOpen C.prog →
      Calls C.prog f args W fun e W' => ∃ v, e = .returned v ∧ s.post enc C.prog fn apart fresh handsOn again W args v W') :
    ReturnsInHanded a C os f .any (fun w args => (s.pre enc C.prog fn conds apart w args ∧ X w args) ∧ sizedMet enc C.prog fn (OpenSpec.ofChange s) apart w args) (s.post enc C.prog fn apart fresh handsOn again) := by
  refine returnsInHanded_of_calls own started noInit witness ?_
  intro w tape i _ hsh _ hok hpre hholds
  obtain ⟨_, _, _, fn', hfn', _, _, _, _, hval⟩ := hok
  have e : fn' = fn := Option.some.inj (hfn'.symm.trans hfn)
  subst e
  obtain ⟨⟨⟨ds, gs, before, hw, hc⟩, hx⟩, hz⟩ := hpre
  have hw' := DataW.Whole.of_heap (w' := w.forCall tape i) (by rfl) hw
  refine (contract (w.forCall tape i) w.heap.size i.args ds gs before hval hw' (hX _ _ _ (by rfl) hx) hsh).mono fun e W' ⟨v, he, hp⟩ => ?_
  subst he
  exact ChangeSpec.post_blind hp
end
end Go.Proofs.YtpeamehplhpcjaaGreatDoor
namespace Go.Proofs.YtpeamehplhpcjaaGreatDoor
theorem parse_par (l : Bs) : (parseH l).1.params.length ≤ 8 := by
  unfold parseH
  split
  · exact Nat.zero_le _
  · simp only
    split
    · exact Nat.zero_le _
    · split
      · exact Nat.zero_le _
      · rename_i h
        have h0 : headE (shapeS (splitS 32 l)).1 = 0 := by simpa using h
        generalize (shapeS (splitS 32 l)).1 = x at *
        by_cases h8 : 8 < x.params.length
        · unfold headE at h0
          split at h0
          · cases h0
          · split at h0
            · cases h0
            · split at h0
              · cases h0
              · split at h0
                · cases h0
                · cases h0
        · show x.params.length ≤ 8
          omega
def RPv (s : Rst) : Prop := s.items.length ≤ 128 ∧ ∀ x ∈ s.items, x.params.length ≤ 8
def RPg (g : RGrp) : Prop := ∀ p l fr tq s, RPv s → RPv (g p l fr tq s).2
def RPn (n : Option RGrp) : Prop := ∀ g, n = some g → RPg g
theorem rp_item (x : Itm) (hx : x.params.length ≤ 8) {s : Rst} (h : RPv s) : RPv (ritem s x).1 := by
  unfold ritem
  split
  · exact h
  · split
    · exact h
    · refine ⟨by show (s.items ++ [x]).length ≤ 128; simp; omega, fun y hy => ?_⟩
      rcases List.mem_append.1 hy with hy | hy
      · exact h.2 y hy
      · rw [List.mem_singleton.1 hy]; exact hx
theorem rp_head (t : List Fil) {nest : Option RGrp} (hn : RPn nest) (p : Bs) (l : List Bs) (i : Nat) (x : Hd) (hx : x.params.length ≤ 8) {s : Rst} (h : RPv s) : RPv (rhead t nest p l i x s).2 := by
  have hat : ∀ r : Rst × Int, RPv r.1 → RPv (if r.2 ≠ 0 then (rflt r.2 p i, r.1) else (flt0, r.1)).2 := by
    intro r hr
    split
    · exact hr
    · exact hr
  unfold rhead
  simp only
  split
  · split
    · exact h
    · cases nest with
      | none => exact h
      | some g => exact hn g rfl _ _ _ _ _ h
  · split
    · refine hat _ ?_
      unfold rdefine
      split
      · exact h
      · split
        · exact h
        · exact h
    · split
      · refine hat _ ?_
        unfold rundef
        split
        · exact h
        · exact h
      · split
        · split
          · cases nest with
            | none => exact h
            | some g => exact hn g rfl _ _ _ _ _ h
          · exact h
        · split
          · exact hat _ (rp_item _ (Nat.zero_le _) h)
          · split
            · exact hat _ (rp_item _ hx h)
            · split
              · exact hat _ (rp_item _ (Nat.zero_le _) h)
              · exact h
theorem rp_loop (t : List Fil) {nest : Option RGrp} (hn : RPn nest) (p : Bs) (l : List Bs) (tq : Nat) : ∀ f i (s : Rst), RPv s → RPv (rloop t nest p l tq f i s).2 := by
  intro f
  induction f with
  | zero => intro i s h; exact h
  | succ f ih =>
    intro i s h
    unfold rloop
    split
    · exact h
    · split
      · exact h
      · simp only
        generalize (if (parseH (l.getD i [])).2 = 0 ∧ (tq : Int) < (i : Int) + 1 + (parseH (l.getD i [])).1.n then (13 : Int) else (parseH (l.getD i [])).2) = e
        split
        · exact h
        · have hh := rp_head t hn p l i (parseH (l.getD i [])).1 (parse_par _) (s := { s with count := s.count + 1, heads := addR s.heads ⟨p, i, (i : Int) + 1⟩ false }) h
          split
          · exact hh
          · exact ih _ _ hh
theorem rp_group (t : List Fil) : ∀ d, RPg (rgroup t d) := by
  intro d
  induction d with
  | zero => intro p l fr tq s h; exact rp_loop t (fun g hg => by cases hg) p l tq _ _ s h
  | succ d ih => intro p l fr tq s h; exact rp_loop t (fun g hg => by injection hg with hg; subst hg; exact ih) p l tq _ _ s h
theorem scan_items (t : List Fil) (p : Bs) (fl : List Bs) : (rscanS t p fl).1.items.length ≤ 128 ∧ ∀ x ∈ (rscanS t p fl).1.items, x.params.length ≤ 8 := by
  unfold rscanS
  simp only
  split
  · exact ⟨Nat.zero_le _, fun x hx => by cases hx⟩
  · split
    · exact ⟨Nat.zero_le _, fun x hx => by cases hx⟩
    · exact rp_group t 24 p (startS t p fl).1 0 (startS t p fl).1.length { rst0 fl with files := rins (rst0 fl).files p, opn := (rst0 fl).opn ++ [p] } ⟨Nat.zero_le _, fun x hx => by cases hx⟩
theorem findI_of (u : Unt) (x : Bs) : findI u x = ((u.items.find? (fun y => y.name == x)).getD itm0, (u.items.find? (fun y => y.name == x)).isSome) := by
  unfold findI
  cases u.items.find? (fun y => y.name == x) with
  | none => rfl
  | some y => rfl
theorem find_app (l : List Itm) (x : Bs) : (l ++ [(⟨x, 3, 0, [], spn0⟩ : Itm)]).find? (fun y => y.name == x) = some (if (l.find? (fun y => y.name == x)).isSome then (l.find? (fun y => y.name == x)).getD itm0 else ⟨x, 3, 0, [], spn0⟩) := by
  rw [List.find?_append]
  cases l.find? (fun y => y.name == x) with
  | none => simp
  | some y => simp
end Go.Proofs.YtpeamehplhpcjaaGreatDoor
namespace Go.Proofs.YtpeamehplhpcjaaGreatDoor
open Go.RowKit
theorem sliItm : Tryz.prog.underlying 32 = some (.slice 48) := by kernel_rfl
@[go_sem ↓] theorem eqNilItm (w : World) (a : Option Addr) (n c : Nat) : (binOp .eql 32 (.slice a n c) (.slice none 0 0)).run Tryz.prog w = .ok (.bool a.isNone) w := by
  simp [Lib.run_eql_slice_nil w _ _ a n c 0 0 sliItm]
set_option maxRecDepth 100000 in
set_option maxHeartbeats 1000000 in
theorem cloneI_any (A : Option Addr) (n c : Nat) (w : World) (S : Nat → Prop) (xs : List Itm) (hl : Sl w S A n c xs) (hn : n ≤ 1000000) :
    Calls Tryz.prog 18 #[.slice A n c] w fun e w' => ∃ A' c', e = .returned (.slice A' xs.length c') ∧ Own w' (fun k => S k ∧ k < w.heap.size) w.heap.size 48 A' c' xs ∧ Below w.heap.size w w' := by
  obtain rfl : n = xs.length := hl.len
  have hle := hl.2.1
  have hcc := hl.2.2.1
  have hl' := hl.wide (S' := fun k => S k ∧ k < w.heap.size) (fun k hk h => ⟨h, hk⟩) (by decide)
  cases A with
  | none =>
    have hx : xs = [] := by
      rcases Nat.eq_zero_or_pos xs.length with h | h
      · exact List.eq_nil_of_length_eq_zero h
      · obtain ⟨ad, hA, _⟩ := hl.at_ h; cases hA
    subst hx
    clear hl hl'
    go_enter Tryz.func18, Tryz.ntmps18
    go_wp2_with fail
    go_ret
    exact ⟨none, 0, rfl, Own.nil _ _ _ _, Below.refl _ _⟩
  | some ad =>
    have HL := Lib.hid hl'; clear hl hl'
    go_enter Tryz.func18, Tryz.ntmps18
    go_wp2_with (at_builtin; go_loud (refine wpList_appN (e := 48) (T := fun k => S k ∧ k < w.heap.size) (base := w.heap.size) (xs := ([] : List Itm)) rfl (.tmp 5) (.tmp 6) eltItm rfl (by decide) rfl rfl rfl (Own.emp (blkAt _ _ rfl) (Nat.le_refl _)) rfl ((HL.out.wide (fun k hk1 hk => ⟨hk, fun e => by injection e with e; exact absurd e (by have := hk1; simp only; omega)⟩) (by decide)).alloc _) (by simp; omega) (by simp; omega) (by simp) ?_); intro A' c' w3 hown' hg hat)
    go_ret
    have hown2 : Own w3 (fun k => S k ∧ k < w.heap.size) w.heap.size 48 A' c' xs := by simpa using hown'
    refine ⟨A', c', by simp, hown2, boxed.grown hg (by simp) (fun k hk => by have hk : some w.heap.size = some k := hk; injection hk with hk; omega)⟩
def UnS (w : World) (S : Nat → Prop) (A1 : Option Addr) (n1 c1 : Nat) (A2 : Option Addr) (n2 c2 : Nat) (A3 : Option Addr) (n3 c3 : Nat) (A4 : Option Addr) (n4 c4 : Nat) (A5 : Option Addr) (n5 c5 : Nat) (u : Unt) : Prop :=
  Sl w S A1 n1 c1 u.flags ∧ Sl w S A2 n2 c2 u.macros ∧ Sl w S A3 n3 c3 u.items ∧ Sl w S A4 n4 c4 u.heads ∧ Sl w S A5 n5 c5 u.files
section
variable {w w' : World} {S : Nat → Prop} {A1 A2 A3 A4 A5 : Option Addr} {n1 n2 n3 n4 n5 c1 c2 c3 c4 c5 : Nat} {u : Unt}
theorem VUnt.uns (h : VUnt w (.agg #[.string ⟨u.path.toArray⟩, .slice A1 n1 c1, .slice A2 n2 c2, .slice A3 n3 c3, .slice A4 n4 c4, .slice A5 n5 c5]) u) : UnS w (fun k => k < w.heap.size) A1 n1 c1 A2 n2 c2 A3 n3 c3 A4 n4 c4 A5 n5 c5 u := by
  obtain ⟨_, _, _, _, _, _, _, _, _, _, _, _, _, _, _, he, h1, h2, h3, h4, h5⟩ := h
  injection he with he
  simp only [Array.mk.injEq, List.cons.injEq, Value.slice.injEq] at he
  obtain ⟨-, ⟨rfl, rfl, rfl⟩, ⟨rfl, rfl, rfl⟩, ⟨rfl, rfl, rfl⟩, ⟨rfl, rfl, rfl⟩, ⟨rfl, rfl, rfl⟩, -⟩ := he
  exact ⟨h1.wide (fun k hk _ => hk) (by decide), h2.wide (fun k hk _ => hk) (by decide), h3.wide (fun k hk _ => hk) (by decide), h4.wide (fun k hk _ => hk) (by decide), h5.wide (fun k hk _ => hk) (by decide)⟩
theorem UnS.keep (h : UnS w S A1 n1 c1 A2 n2 c2 A3 n3 c3 A4 n4 c4 A5 n5 c5 u) (hk : ∀ k, k < w.heap.size → S k → w'.heap[k]? = w.heap[k]?) : UnS w' S A1 n1 c1 A2 n2 c2 A3 n3 c3 A4 n4 c4 A5 n5 c5 u :=
  ⟨h.1.keep hk, h.2.1.keep hk, h.2.2.1.keep hk, h.2.2.2.1.keep hk, h.2.2.2.2.keep hk⟩
theorem UnS.below (h : UnS w S A1 n1 c1 A2 n2 c2 A3 n3 c3 A4 n4 c4 A5 n5 c5 u) (hb : Below w.heap.size w w') : UnS w' S A1 n1 c1 A2 n2 c2 A3 n3 c3 A4 n4 c4 A5 n5 c5 u := h.keep fun k hk _ => hb.block k hk
theorem UnS.with (h : UnS w S A1 n1 c1 A2 n2 c2 A3 n3 c3 A4 n4 c4 A5 n5 c5 u) {A : Option Addr} {n c : Nat} {T : Nat → Prop} {xs : List Itm} (hs : Sl w T A n c xs) : VUnt w (.agg #[.string ⟨u.path.toArray⟩, .slice A1 n1 c1, .slice A2 n2 c2, .slice A n c, .slice A4 n4 c4, .slice A5 n5 c5]) { u with items := xs } :=
  ⟨_, _, _, _, _, _, _, _, _, _, _, _, _, _, _, rfl, h.1.wide (fun _ _ _ => trivial) (by decide), h.2.1.wide (fun _ _ _ => trivial) (by decide), hs.wide (fun _ _ _ => trivial) (by decide), h.2.2.2.1.wide (fun _ _ _ => trivial) (by decide), h.2.2.2.2.wide (fun _ _ _ => trivial) (by decide)⟩
end
theorem itmF {z : World} {b : Nat} {nm bp : ByteArray} {k m f o : Int} {A : Option Addr} {n c : Nat} (h : z.heap[b]? = some (.cells #[.string nm, .int .i64 k, .int .i64 m, .slice A n c, .string bp, .int .i64 f, .int .i64 o] 48 (0, 0))) :
    z.cell? ⟨b, 0, none⟩ = some (.string nm) ∧ z.cell? ⟨b, 1, none⟩ = some (.int .i64 k) ∧ z.cell? ⟨b, 2, none⟩ = some (.int .i64 m) ∧ z.cell? ⟨b, 3, none⟩ = some (.slice A n c) ∧ z.cell? ⟨b, 4, none⟩ = some (.string bp) ∧ z.cell? ⟨b, 5, none⟩ = some (.int .i64 f) ∧ z.cell? ⟨b, 6, none⟩ = some (.int .i64 o) :=
  ⟨(cell_blk h 0).trans rfl, (cell_blk h 1).trans rfl, (cell_blk h 2).trans rfl, (cell_blk h 3).trans rfl, (cell_blk h 4).trans rfl, (cell_blk h 5).trans rfl, (cell_blk h 6).trans rfl⟩
end Go.Proofs.YtpeamehplhpcjaaGreatDoor
