/- Query (package licitlaw54): a part of the proofs of its laws; see the law's own text, which comes last in 'order'. No conditions of its own. -/
import Derived.Test.YtkjoaodoioicpaaGreatDoorRows
import Derived.Lib.LaidTab
import Derived.Lib.LaidU8
import Derived.Shelf.Vars
import Derived.Stop.LaidErr
import Derived.MakeChecks
import Derived.Handed
import Derived.SizedLaws
import Derived.Test.YtkjoaodoioicpaaGreatDoorWG04
import Derived.Test.YtkjoaodoioicpaaGreatDoorWG43
set_option linter.unusedVariables false
set_option linter.unusedSimpArgs false
namespace Go.Proofs.YtkjoaodoioicpaaGreatDoor
open Go.RowKit Go.ChangeShapes
theorem tab_of_reads {W : World} {name : String} {k : IntKind} {zs : List Int} {g t e : Nat} {n : Nat} (hg : Tryz.prog.globalNamed name = some g) (hty : (Tryz.prog.globals[g]?).map (·.type) = some t) (ht : Tryz.prog.underlying t = some (.array n e)) (he : Tryz.prog.underlying e = some (.int k))
    (hce : Tryz.prog.cellsOf e = 1) (hct : Tryz.prog.cellsOf t = n) (h : Lib.VarReads Tryz.prog W name (Lib.tabData k zs)) : Lib.TabIs Tryz.prog W name k zs := by
  obtain ⟨g', t', cs, fuel, p, hg', ht', hvar, hd⟩ := h
  obtain rfl := Option.some.inj (hg.symm.trans hg')
  obtain rfl := Option.some.inj (hty.symm.trans ht')
  unfold Lib.TabIs
  rw [hvar, ← Lib.cells_of_tab ht he hce hct hd]
def laidL : List (String × DataW Unit) := Rows.queryGrowsRow.laid
set_option maxRecDepth 100000 in
theorem ld_of {W : World} (hL : laidMetH Tryz.prog laidL W) (hs : W.ShapedOpen Tryz.prog) : LD W := by
  rw [MakeChecks.laidMetH_plain _ _ _ (by kernel_rfl)] at hL
  have r := fun n d hm => Lib.laidMet.reads (n := n) (d := d) hL hm
  refine ⟨tab_of_reads (g := 3) (t := 244) (by kernel_rfl) (by kernel_rfl) Tryz.underlying244 Tryz.underlying170 (by kernel_rfl) (by kernel_rfl) ?_,
    tab_of_reads (g := 0) (t := 215) (by kernel_rfl) (by kernel_rfl) Tryz.underlying215 Tryz.underlying5 (by kernel_rfl) (by kernel_rfl) ?_,
    Go.Proofs.cell_of_shapedOpen_int (zero := #[.int .i64 0]) (t := 3) hs (of_decide_eq_true (by kernel_rfl)) (by kernel_rfl) rfl (by kernel_rfl) (by kernel_rfl) Tryz.underlying3⟩
  · have e : Lib.tabData .u64 Lib.pow10Tab = (Rows.laid_internal_strconv_uint64pow10 : DataW Unit) := by kernel_rfl
    rw [e]
    exact r _ _ (.tail _ (.tail _ (.head _)))
  · have e : Lib.tabData .u8 Lib.asciiSpaceTab = (Rows.laid_strings_asciiSpace : DataW Unit) := by kernel_rfl
    rw [e]
    first | exact r _ _ (.tail _ (.tail _ (.tail _ (.head _)))) | exact r _ _ (.tail _ (.tail _ (.tail _ (.tail _ (.head _)))))
end Go.Proofs.YtkjoaodoioicpaaGreatDoor
namespace Go.Proofs.YtkjoaodoioicpaaGreatDoor
open Go.RowKit Go.ChangeShapes
end Go.Proofs.YtkjoaodoioicpaaGreatDoor
namespace Go.Proofs.YtkjoaodoioicpaaGreatDoor
open Go.RowKit Go.Deep Go.ChangeShapes
section
variable {H : Type} {enc : TypeId × Value → H} {W : World} {base : Nat} {spare : Nat → Bool} {held : Bool}
theorem openAtoms {A : Option Addr} {n c : Nat} {d : DataW H} {p : List MemPlace} (h : DataW.Trod enc Tryz.prog W base spare held 23 (.slice A n c) d p) : ∃ l : List Atm, Sl W (fun _ => True) A n c l ∧ ∀ r ∈ l, OkT r := by
  obtain ⟨fuel, hf⟩ := h
  obtain ⟨A', n', c', l, e, hs, hk⟩ := opens_slice Tryz.underlying23 cellsOfAtm opens_atm hf
  simp [Value.cells] at e
  obtain ⟨rfl, rfl, rfl⟩ := e
  exact ⟨l, hs, hk⟩
theorem slice_bulk {A : Option Addr} {n c : Nat} {t e : TypeId} {d : DataW H} {p : List MemPlace} (hu : Tryz.prog.underlying t = some (.slice e)) (h : DataW.Trod enc Tryz.prog W base spare held t (.slice A n c) d p) : n ≤ Rows.uptoBulk d := by
  obtain ⟨fuel, hf⟩ := h
  have one : ∀ d : DataW H, 1 ≤ Rows.uptoBulk d := by
    intro d
    cases d with
    | lit l => cases l <;> simp [Rows.uptoBulk]
    | nil => simp [Rows.uptoBulk]
    | ptr d => simp [Rows.uptoBulk]
    | slice elems spare => simp [Rows.uptoBulk]
    | agg parts => simp [Rows.uptoBulk]
    | iface t d => simp [Rows.uptoBulk]
    | map entries => simp [Rows.uptoBulk]
    | held h => simp [Rows.uptoBulk]
  have len : ∀ l : List (DataW H), l.length ≤ Rows.uptoBulkAll l := by
    intro l
    induction l with
    | nil => simp [Rows.uptoBulkAll]
    | cons x r ih => have := one x; simp only [Rows.uptoBulkAll, List.length_cons]; omega
  rcases open_slice hu hf with ⟨hc, _⟩ | ⟨a, n', cap, m, _, D, Pl, hc, _, _, _, _, hx, _⟩
  · simp [Value.cells] at hc
    omega
  · simp [Value.cells] at hc
    obtain ⟨-, rfl, -⟩ := hc
    have hd := congrArg Prod.fst hx
    simp only at hd
    rw [hd]
    have := len ((List.range n).map D)
    simp only [Rows.uptoBulk]
    simp only [List.length_map, List.length_range] at this
    omega
end
end Go.Proofs.YtkjoaodoioicpaaGreatDoor
