/- Rules: formed, formedArgs, formedAtom; slices.IndexFunc, ContainsFunc at arguments. -/
import Derived.Test.YtjopmgoacncmgaaGreatDoorK2
set_option linter.unusedVariables false
set_option linter.unusedSimpArgs false
namespace Go.Proofs.YtjopmgoacncmgaaGreatDoor
open Go.RowKit

set_option maxHeartbeats 800000 in
theorem formed_any (a : Arg) (w : World) (ha : OkA a) :
    Calls Tryz.prog 154 #[vArg a] w fun e w' => e = .returned (.bool (formedS a)) ∧ Below w.heap.size w w' := by
  obtain ⟨v, hv⟩ : ∃ v, v = formedS a := ⟨_, rfl⟩
  rw [← hv]
  obtain ⟨k, t, n⟩ := a
  have ht : t.length ≤ 9223372036854775807 := ha.1
  have hvar := fun w => variable_any t w ht
  have hcon := fun w => constant_any t w ht
  have HVA := Lib.hid hvar; have HCO := Lib.hid hcon
  clear hvar hcon ha
  unfold vArg
  unfold formedS at hv
  simp only at hv
  have Hv := Lib.hid hv; clear hv
  go_enter Tryz.func154, Tryz.ntmps154
  go_wp2_with (first | (go_at_call 184; refine (HVA.out _).mono ?_; rintro e w' ⟨rfl, rfl⟩) | (go_at_call 185; refine (HCO.out _).mono ?_; rintro e w' ⟨rfl, rfl⟩))
  all_goals go_ret
  all_goals (refine ⟨ret_bool ?_, boxed⟩; rw [Hv.out]; simp_all; try (intros; omega))
end Go.Proofs.YtjopmgoacncmgaaGreatDoor
