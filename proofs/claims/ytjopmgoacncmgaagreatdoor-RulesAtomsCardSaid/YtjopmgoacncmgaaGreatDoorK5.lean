/- Rules: what the library's tables hold; formedArgs, formedAtom, compares, formedLiteral. -/
import Derived.Test.YtjopmgoacncmgaaGreatDoorK8
import Derived.Test.YtjopmgoacncmgaaGreatDoorShelf
import Derived.Lib.SmallJoins
set_option linter.unusedVariables false
set_option linter.unusedSimpArgs false
namespace Go.Proofs.YtjopmgoacncmgaaGreatDoor
open Go.RowKit

/-- What the package-level variables hold that the library's functions read. -/
structure LD (w : World) : Prop where
  pow : Lib.TabIs Tryz.prog w "internal/strconv.uint64pow10" .u64 Lib.pow10Tab
  asc : Lib.TabIs Tryz.prog w "strings.asciiSpace" .u8 Lib.asciiSpaceTab
  syn : ∃ tp p, w.var? Tryz.prog "strconv.ErrSyntax" = some #[.iface tp p]
  rng : ∃ tp p, w.var? Tryz.prog "strconv.ErrRange" = some #[.iface tp p]
  mxl : ∃ m, w.cell? ⟨1, 0, none⟩ = some (.int .i64 m)
theorem LD.below {w w' : World} (h : LD w) (hb : Below w.heap.size w w') : LD w' := by
  obtain ⟨h1, h2, ⟨tp, p, h3⟩, ⟨tp', p', h4⟩, m, h5⟩ := h
  exact ⟨Go.Joins.tab_stays (g := 7) (by kernel_rfl) h1 hb (Nat.le_refl _), Go.Joins.tab_stays (g := 0) (by kernel_rfl) h2 hb (Nat.le_refl _),
    ⟨tp, p, Go.Joins.var_stays (g := 5) (by kernel_rfl) h3 hb (Nat.le_refl _)⟩, ⟨tp', p', Go.Joins.var_stays (g := 6) (by kernel_rfl) h4 hb (Nat.le_refl _)⟩, m, (hb.cell (World.block_lt_of_cell? w _ h5)).trans h5⟩
theorem LD.alloc {w : World} (h : LD w) (o : Obj) : LD (w.alloc o) := h.below ((Below.refl _ _).alloc (Nat.le_refl _) _)

theorem formedA1_any (a : Arg) (w : World) (ha : OkA a) :
    Calls Tryz.prog 158 #[vArg a] w fun e w' => e = .returned (.bool (!formedS a)) ∧ Below w.heap.size w w' := by
  have h := fun w => formed_any a w ha
  generalize formedS a = b at *
  unfold vArg at *
  have H := Lib.hid h; clear h
  go_enter Tryz.func158, Tryz.ntmps158
  go_wp2_with (first | (go_at_call 154; refine (H.out _).mono ?_; rintro e w' ⟨rfl, hb⟩))
  go_ret
  exact ⟨rfl, next boxed hb (Nat.le_refl _)⟩
theorem any_not {α : Type} (p : α → Bool) (l : List α) : (!l.any fun x => !p x) = l.all p := by
  induction l with
  | nil => rfl
  | cons x r ih => simp [List.any_cons, List.all_cons, ← ih]
theorem formedArgs_any (A : Option Addr) (n c : Nat) (w : World) (S : Nat → Prop) (l : List Arg) (hl : Sl w S A n c l) (ho : OkAs l) :
    Calls Tryz.prog 121 #[.slice A n c] w fun e w' => e = .returned (.bool (argsS l)) ∧ Below w.heap.size w w' := by
  have h := conA_any A n c w S l hl 158 #[] (fun _ _ => by kernel_rfl) (fun a => !formedS a) (fun x hx w1 _ => formedA1_any x w1 (ho x hx))
  unfold argsS
  rw [← any_not]
  generalize l.any (fun x => !formedS x) = b at *
  have H := Lib.hid h; clear h hl ho
  go_enter Tryz.func121, Tryz.ntmps121
  go_wp2_with (first | (go_at_call 72; refine H.out.mono ?_; rintro e w' ⟨rfl, hb⟩))
  go_ret
  exact ⟨rfl, hb⟩
theorem formedAtom_any (a : Atm) (A : Option Addr) (n c : Nat) (w : World) (S : Nat → Prop) (hl : Sl w S A n c a.args) (ho : OkT a) :
    Calls Tryz.prog 71 #[.agg #[.string ⟨a.name.toArray⟩, .slice A n c]] w fun e w' => e = .returned (.bool (atomS a)) ∧ Below w.heap.size w w' := by
  obtain ⟨v, hv⟩ : ∃ v, v = atomS a := ⟨_, rfl⟩
  rw [← hv]
  have hp := fun w => predicate_any a.name w ho.1
  have hf := fun w S (h : Sl w S A n c a.args) => formedArgs_any A n c w S a.args h ho.2
  have hn := hl.len
  unfold atomS at hv
  rw [← hn] at hv
  generalize predS a.name = b1 at *
  generalize argsS a.args = b2 at *
  have HP := Lib.hid hp; have HF := Lib.hid hf; have HL := Lib.hid hl; have Hv := Lib.hid hv
  clear hp hf hl hv hn ho
  go_enter Tryz.func71, Tryz.ntmps71
  go_wp2_with (first | (go_at_call 120; refine (HP.out _).mono ?_; rintro e w' ⟨rfl, rfl⟩) | (go_at_call 121; refine (HF.out _ _ (HL.out.alloc _)).mono ?_; rintro e w' ⟨rfl, hb⟩))
  all_goals go_ret
  all_goals (refine ⟨ret_bool ?_, ?_⟩ <;> first | exact boxed | exact next boxed (by assumption) (Nat.le_refl _) | (rw [Hv.out]; simp_all; try omega))
end Go.Proofs.YtjopmgoacncmgaaGreatDoor
