/- Rules: from the rows' condition and the world's shape to what the walks ask of the world (LD); the wrap of such a row. -/
import Derived.Test.YtjopmgoacncmgaaGreatDoorK5
import Derived.Test.YtjopmgoacncmgaaGreatDoorRows
import Derived.Lib.LaidTab
import Derived.Lib.LaidU8
import Derived.Shelf.Vars
import Derived.Stop.LaidErr
import Derived.MakeChecks
import Derived.Test.YtjopmgoacncmgaaGreatDoorKO
import Derived.Handed
import Derived.SizedLaws
set_option linter.unusedVariables false
set_option linter.unusedSimpArgs false
namespace Go.Proofs.YtjopmgoacncmgaaGreatDoor
open Go.RowKit Go.ChangeShapes

theorem tab_of_reads {W : World} {name : String} {k : IntKind} {zs : List Int} {g t e : Nat} {n : Nat} (hg : Tryz.prog.globalNamed name = some g) (hty : (Tryz.prog.globals[g]?).map (·.type) = some t) (ht : Tryz.prog.underlying t = some (.array n e)) (he : Tryz.prog.underlying e = some (.int k))
    (hce : Tryz.prog.cellsOf e = 1) (hct : Tryz.prog.cellsOf t = n) (h : Lib.VarReads Tryz.prog W name (Lib.tabData k zs)) : Lib.TabIs Tryz.prog W name k zs := by
  obtain ⟨g', t', cs, fuel, p, hg', ht', hvar, hd⟩ := h
  obtain rfl := Option.some.inj (hg.symm.trans hg')
  obtain rfl := Option.some.inj (hty.symm.trans ht')
  unfold Lib.TabIs
  rw [hvar, ← Lib.cells_of_tab ht he hce hct hd]
theorem err_of_reads {W : World} {name nm : String} {d : DataW Unit} {g t : Nat} {ms : Array (String × TypeId)} (hg : Tryz.prog.globalNamed name = some g) (hty : (Tryz.prog.globals[g]?).map (·.type) = some t) (ht : Tryz.prog.underlying t = some (.interface ms))
    (h : Lib.VarReads Tryz.prog W name (.iface nm d)) : ∃ tp p, W.var? Tryz.prog name = some #[.iface tp p] := by
  obtain ⟨g', t', cs, fuel, p, hg', ht', hvar, hd⟩ := h
  obtain rfl := Option.some.inj (hg.symm.trans hg')
  obtain rfl := Option.some.inj (hty.symm.trans ht')
  obtain ⟨_, u, v, e, -, -⟩ := iface_of_trod ht hd
  obtain ⟨l⟩ := cs
  have e : l = [.iface u v] := e
  subst e
  exact ⟨u, v, hvar⟩
def laidL : List (String × DataW Unit) := Rows.rulesVariablesRow.laid
set_option maxRecDepth 100000 in
theorem ld_of {W : World} (hL : laidMetH Tryz.prog laidL W) (hs : W.ShapedOpen Tryz.prog) : LD W := by
  rw [MakeChecks.laidMetH_plain _ _ _ (by kernel_rfl)] at hL
  have r := fun n d hm => Lib.laidMet.reads (n := n) (d := d) hL hm
  refine ⟨tab_of_reads (g := 7) (t := 235) (by kernel_rfl) (by kernel_rfl) Tryz.underlying235 Tryz.underlying182 (by kernel_rfl) (by kernel_rfl) ?_,
    tab_of_reads (g := 0) (t := 168) (by kernel_rfl) (by kernel_rfl) Tryz.underlying168 Tryz.underlying5 (by kernel_rfl) (by kernel_rfl) ?_,
    err_of_reads (g := 5) (t := 87) (by kernel_rfl) (by kernel_rfl) Tryz.underlying87 (r _ Rows.laid_strconv_ErrSyntax (.tail _ (.tail _ (.tail _ (.tail _ (.tail _ (.head _))))))),
    err_of_reads (g := 6) (t := 87) (by kernel_rfl) (by kernel_rfl) Tryz.underlying87 (r _ Rows.laid_strconv_ErrRange (.tail _ (.tail _ (.tail _ (.tail _ (.head _)))))),
    Go.Proofs.cell_of_shapedOpen_int (zero := #[.int .i64 0]) (t := 3) hs (of_decide_eq_true (by kernel_rfl)) (by kernel_rfl) rfl (by kernel_rfl) (by kernel_rfl) Tryz.underlying3⟩
  · have e : Lib.tabData .u64 Lib.pow10Tab = (Rows.laid_internal_strconv_uint64pow10 : DataW Unit) := by kernel_rfl
    rw [e]
    exact r _ _ (.tail _ (.tail _ (.head _)))
  · have e : Lib.tabData .u8 Lib.asciiSpaceTab = (Rows.laid_strings_asciiSpace : DataW Unit) := by kernel_rfl
    rw [e]
    exact r _ _ (.tail _ (.tail _ (.tail _ (.tail _ (.tail _ (.tail _ (.tail _ (.head _))))))))
end Go.Proofs.YtjopmgoacncmgaaGreatDoor
namespace Go.Proofs.YtjopmgoacncmgaaGreatDoor
open Go.RowKit Go.ChangeShapes

section
variable {H : Type} {enc : TypeId × Value → H}
theorem handed {a : Assume} {C : Checked} {os : Os} {f : FuncId} {fn : Func} {s : ChangeSpec} {conds : List PathCond} {apart fresh handsOn again : Bool} {X : World → Array Value → Prop}
    (hX : ∀ (w w' : World) (args : Array Value), w.heap = w'.heap → X w args → X w' args)
    (own : ownKnob C.prog.godebug = none) (started : os.Started) (noInit : C.prog.inits.idxOf? f = none) (hfn : C.prog.funcs[f]? = some fn)
    (witness : ∃ (w : World) (tape : Tape) (i : Input), w.os = os ∧ (w.forCall tape i).Shaped C.prog ∧ i.vars = [] ∧ Input.okWide C.prog (w.forCall tape i) .any w.heap.size f i ∧
      ((s.pre enc C.prog fn conds apart (w.forCall tape i).memory i.args ∧ X (w.forCall tape i).memory i.args) ∧ sizedMet enc C.prog fn (OpenSpec.ofChange s) apart (w.forCall tape i).memory i.args) ∧ a.holds C.prog (lone (Frame.enter C.prog f i.args .normal) [] (w.forCall tape i)))
    (contract : ∀ (W : World) (base : Nat) (args : Array Value) (ds gs : List (DataW H)) (before : List MemPlace),
      (∀ (j : Nat) t v, fn.params[j]? = some t → args[j]? = some v → Value.okWide C.prog W .any base t v) →
      DataW.Whole enc C.prog fn.params.toList s.vars apart W args.toList ds gs before →
      X W args → W.ShapedOpen C.prog →
      Calls C.prog f args W fun e W' => ∃ v, e = .returned v ∧ s.post enc C.prog fn apart fresh handsOn again W args v W') :
    ReturnsInHanded a C os f .any (fun w args => (s.pre enc C.prog fn conds apart w args ∧ X w args) ∧ sizedMet enc C.prog fn (OpenSpec.ofChange s) apart w args) (s.post enc C.prog fn apart fresh handsOn again) := by
  refine returnsInHanded_of_calls own started noInit witness ?_
  intro w tape i _ hsh _ hok hpre hholds
  obtain ⟨_, _, _, fn', hfn', _, _, _, _, hval⟩ := hok
  have e : fn' = fn := Option.some.inj (hfn'.symm.trans hfn)
  subst e
  obtain ⟨⟨⟨ds, gs, before, hw, hc⟩, hx⟩, hz⟩ := hpre
  have hw' := DataW.Whole.of_heap (w' := w.forCall tape i) (by rfl) hw
  refine (contract (w.forCall tape i) w.heap.size i.args ds gs before hval hw' (hX _ _ _ (by rfl) hx) hsh).mono fun e W' ⟨v, he, hp⟩ => ?_
  subst he
  exact ChangeSpec.post_blind hp
end
end Go.Proofs.YtjopmgoacncmgaaGreatDoor
