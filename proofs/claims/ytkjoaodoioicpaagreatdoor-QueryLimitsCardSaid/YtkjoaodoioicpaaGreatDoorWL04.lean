/- Query (package licitlaw54): a part of the proofs of its laws; see the law's own text, which comes last in 'order'. No conditions of its own. -/
import Derived.Lib.SmallJoins
import Derived.OrdersHeld
import Derived.StillTail
import Derived.Deep.RegionHeld
import Derived.Test.YtkjoaodoioicpaaGreatDoorWL01
import Derived.Test.YtkjoaodoioicpaaGreatDoorWL03
set_option linter.unusedVariables false
set_option linter.unusedSimpArgs false
namespace Go.Proofs.YtkjoaodoioicpaaGreatDoor
open Go.RowKit
structure LD (w : World) : Prop where
  pow : Lib.TabIs Tryz.prog w "internal/strconv.uint64pow10" .u64 Lib.pow10Tab
  asc : Lib.TabIs Tryz.prog w "strings.asciiSpace" .u8 Lib.asciiSpaceTab
  mxl : ∃ m, w.cell? ⟨2, 0, none⟩ = some (.int .i64 m)
theorem LD.below {w w' : World} (h : LD w) (hb : Below w.heap.size w w') : LD w' := by
  obtain ⟨h1, h2, m, h5⟩ := h
  exact ⟨Go.Joins.tab_stays (g := 3) (by kernel_rfl) h1 hb (Nat.le_refl _), Go.Joins.tab_stays (g := 0) (by kernel_rfl) h2 hb (Nat.le_refl _), m, (hb.cell (World.block_lt_of_cell? w _ h5)).trans h5⟩
theorem LD.alloc {w : World} (h : LD w) (o : Obj) : LD (w.alloc o) := h.below ((Below.refl _ _).alloc (Nat.le_refl _) _)
theorem formedA1_any (a : Arg) (w : World) (ha : OkA a) :
    Calls Tryz.prog 164 #[vArg a] w fun e w' => e = .returned (.bool (!formedS a)) ∧ Below w.heap.size w w' := by
  have h := fun w => formed_any a w ha
  generalize formedS a = b at *
  unfold vArg at *
  have H := Lib.hid h; clear h
  go_enter Tryz.func164, Tryz.ntmps164
  go_wp2_with (first | (go_at_call 165; refine (H.out _).mono ?_; rintro e w' ⟨rfl, hb⟩))
  go_ret
  exact ⟨rfl, next boxed hb (Nat.le_refl _)⟩
theorem any_not {α : Type} (p : α → Bool) (l : List α) : (!l.any fun x => !p x) = l.all p := by
  induction l with
  | nil => rfl
  | cons x r ih => simp [List.any_cons, List.all_cons, ← ih]
theorem formedArgs_any (A : Option Addr) (n c : Nat) (w : World) (S : Nat → Prop) (l : List Arg) (hl : Sl w S A n c l) (ho : OkAs l) :
    Calls Tryz.prog 139 #[.slice A n c] w fun e w' => e = .returned (.bool (argsS l)) ∧ Below w.heap.size w w' := by
  have h := conA_any A n c w S l hl 164 #[] (fun _ _ => by kernel_rfl) (fun a => !formedS a) (fun x hx w1 _ => formedA1_any x w1 (ho x hx))
  unfold argsS
  rw [← any_not]
  generalize l.any (fun x => !formedS x) = b at *
  have H := Lib.hid h; clear h hl ho
  go_enter Tryz.func139, Tryz.ntmps139
  go_wp2_with (first | (go_at_call 109; refine H.out.mono ?_; rintro e w' ⟨rfl, hb⟩))
  go_ret
  exact ⟨rfl, hb⟩
theorem formedAtom_any (a : Atm) (A : Option Addr) (n c : Nat) (w : World) (S : Nat → Prop) (hl : Sl w S A n c a.args) (ho : OkT a) :
    Calls Tryz.prog 108 #[.agg #[.string ⟨a.name.toArray⟩, .slice A n c]] w fun e w' => e = .returned (.bool (atomS a)) ∧ Below w.heap.size w w' := by
  obtain ⟨v, hv⟩ : ∃ v, v = atomS a := ⟨_, rfl⟩
  rw [← hv]
  have hp := fun w => predicate_any a.name w ho.1
  have hf := fun w S (h : Sl w S A n c a.args) => formedArgs_any A n c w S a.args h ho.2
  have hn := hl.len
  unfold atomS at hv
  rw [← hn] at hv
  generalize predS a.name = b1 at *
  generalize argsS a.args = b2 at *
  have HP := Lib.hid hp; have HF := Lib.hid hf; have HL := Lib.hid hl; have Hv := Lib.hid hv
  clear hp hf hl hv hn ho
  go_enter Tryz.func108, Tryz.ntmps108
  go_wp2_with (first | (go_at_call 138; refine (HP.out _).mono ?_; rintro e w' ⟨rfl, rfl⟩) | (go_at_call 139; refine (HF.out _ _ (HL.out.alloc _)).mono ?_; rintro e w' ⟨rfl, hb⟩))
  all_goals go_ret
  all_goals (refine ⟨ret_bool ?_, ?_⟩ <;> first | exact boxed | exact next boxed (by assumption) (Nat.le_refl _) | (rw [Hv.out]; simp_all; try omega))
end Go.Proofs.YtkjoaodoioicpaaGreatDoor
namespace Go.Proofs.YtkjoaodoioicpaaGreatDoor
open Go.RowKit
section
variable {P : Program} {ops : Array Oper} {Q : Exit → Act → World → Prop} {md : Region.Mode} {S : World → Prop}
theorem wpAnyH_takeW (i : Nat) {oi : Oper} {d : Nat} {v : Value} {fuel : Nat} {listed : Array Bool} {a : Act} {w : World} (hi : ops[i]? = some oi) (hd : oi.dst = some d)
    (hs : Region.noSelect ops = true) (hf : Region.free md ops listed i = true) (hr : (Region.ready md ops listed).contains i = true)
    (hQ : ∀ c a w, Q (.panic c) (a.put oi.dst v) w → Q (.panic c) a w) (hwt : Region.wanted oi (yielded ops a.tmps) = true) (hS : S w) (hy : ∀ x, S x → (execOp a.eval oi).run P x = .ok (.value v) x)
    (h : wpAnyH P md ops Q S fuel (listed.setIfInBounds i true) { a with tmps := a.tmps.setIfInBounds d v } w) : wpAnyH P md ops Q S (fuel + 1) listed a w :=
  wpAnyH_take hi hs hf hr hQ (.inl ⟨hwt, hy⟩) hS (by rw [hd]; exact h)
theorem wpAnyH_takeU (i : Nat) {oi : Oper} {d : Nat} {fuel : Nat} {listed : Array Bool} {a : Act} {w : World} (hi : ops[i]? = some oi) (hd : oi.dst = some d)
    (hs : Region.noSelect ops = true) (hf : Region.free md ops listed i = true) (hr : (Region.ready md ops listed).contains i = true)
    (hQ : ∀ c a w, Q (.panic c) (a.put oi.dst undef) w → Q (.panic c) a w) (hwt : Region.wanted oi (yielded ops a.tmps) = false) (hS : S w)
    (h : wpAnyH P md ops Q S fuel (listed.setIfInBounds i true) { a with tmps := a.tmps.setIfInBounds d undef } w) : wpAnyH P md ops Q S (fuel + 1) listed a w :=
  wpAnyH_take hi hs hf hr hQ (.inr ⟨hwt, rfl⟩) hS (by rw [hd]; exact h)
theorem tkW (i : Nat) {oi : Oper} {d : Nat} {v : Value} {fuel : Nat} {listed : Array Bool} {a : Act} {w : World} (hS : S w) (hy : ∀ x, S x → (execOp a.eval oi).run P x = .ok (.value v) x)
    (h : wpAnyH P md ops Q S fuel (listed.setIfInBounds i true) { a with tmps := a.tmps.setIfInBounds d v } w)
    (hi : ops[i]? = some oi := by exact rfl) (hd : oi.dst = some d := by exact rfl)
    (hs : Region.noSelect ops = true := by kernel_rfl) (hf : Region.free md ops listed i = true := by kernel_rfl) (hr : (Region.ready md ops listed).contains i = true := by kernel_rfl)
    (hQ : ∀ c a w, Q (.panic c) (a.put oi.dst v) w → Q (.panic c) a w := by exact fun _ _ _ h => h) (hwt : Region.wanted oi (yielded ops a.tmps) = true := by kernel_rfl) : wpAnyH P md ops Q S (fuel + 1) listed a w :=
  wpAnyH_takeW i hi hd hs hf hr hQ hwt hS hy h
theorem tkU (i : Nat) {oi : Oper} {d : Nat} {fuel : Nat} {listed : Array Bool} {a : Act} {w : World} (hS : S w)
    (h : wpAnyH P md ops Q S fuel (listed.setIfInBounds i true) { a with tmps := a.tmps.setIfInBounds d undef } w)
    (hi : ops[i]? = some oi := by exact rfl) (hd : oi.dst = some d := by exact rfl)
    (hs : Region.noSelect ops = true := by kernel_rfl) (hf : Region.free md ops listed i = true := by kernel_rfl) (hr : (Region.ready md ops listed).contains i = true := by kernel_rfl)
    (hQ : ∀ c a w, Q (.panic c) (a.put oi.dst undef) w → Q (.panic c) a w := by exact fun _ _ _ h => h) (hwt : Region.wanted oi (yielded ops a.tmps) = false := by kernel_rfl) : wpAnyH P md ops Q S (fuel + 1) listed a w :=
  wpAnyH_takeU i hi hd hs hf hr hQ hwt hS h
theorem wpAnyH_one (i : Nat) {o : Oper} {fuel : Nat} {listed : Array Bool} {a : Act} {w : World} (hr : Region.ready md ops listed = [i]) (ho : ops[i]? = some o)
    (h : ∀ K' : Act → World → Prop, Shut (∀ a' w', S w' → wpAnyH P md ops Q S fuel (listed.setIfInBounds i true) a' w' → K' a' w') → if Region.wanted o (yielded ops a.tmps) = true then Oper.wp P o a w K' Q else K' (a.put o.dst undef) w) :
    wpAnyH P md ops Q S (fuel + 1) listed a w := by
  refine ⟨fun h0 => (by rw [hr] at h0; cases h0), fun j hj => ?_⟩
  rw [hr] at hj
  have hji : j = i := by simpa using hj
  subst hji
  exact wpOp_step ho (fun K' hK => h K' (fun a w hS hW => hK a w ⟨hS, hW⟩))
theorem wpH_region (S : World → Prop) {id : Nat} {a : Act} {w : World} (hm : P.follows .mixedOrders = true)
    (h : wpAnyH P .any ops Q S ops.size (Array.replicate ops.size false) a w.drew) : (Code.region id ops true).wp P Q a w :=
  wp_region_any hm (wpAny_of_held _ _ _ _ h)
end
end Go.Proofs.YtkjoaodoioicpaaGreatDoor
