/- Rules: Ground. -/
import Derived.Test.YtjopmgoacncmgaaGreatDoorKZ1
set_option linter.unusedVariables false
set_option linter.unusedSimpArgs false
namespace Go.Proofs.YtjopmgoacncmgaaGreatDoor
open Go.RowKit

def groundS (a : Atm) : Bool := atomS a && !a.args.any fun x => x.kind == 1
theorem gr1_any (a : Arg) (w : World) :
    Calls Tryz.prog 73 #[vArg a] w fun e w' => e = .returned (.bool (a.kind == 1)) ∧ Below w.heap.size w w' := by
  obtain ⟨k, t, n⟩ := a
  unfold vArg
  simp only
  obtain ⟨v, hv⟩ : ∃ v, v = (k == 1) := ⟨_, rfl⟩
  rw [← hv]
  have HV := Lib.hid hv; clear hv
  go_enter Tryz.func73, Tryz.ntmps73
  go_wp2_with fail
  go_ret
  exact ⟨ret_bool HV.out, boxed⟩
set_option maxHeartbeats 1000000 in
theorem Ground_any (x : Atm) (A : Option Addr) (n c : Nat) (w : World) (S : Nat → Prop) (hs : Sl w S A n c x.args) (ho : OkT x) :
    Calls Tryz.prog 35 #[.agg #[.string ⟨x.name.toArray⟩, .slice A n c]] w fun e w' => e = .returned (.bool (groundS x)) ∧ Below w.heap.size w w' := by
  obtain ⟨v, hv⟩ : ∃ v, v = groundS x := ⟨_, rfl⟩
  rw [← hv]
  unfold groundS at hv
  have hfa := fun w S (h : Sl w S A n c x.args) => formedAtom_any x A n c w S h ho
  have hca := fun w S (h : Sl w S A n c x.args) => conA_any A n c w S x.args h 73 #[] (fun _ _ => by kernel_rfl) (fun a => a.kind == 1) (fun a _ w1 _ => by
    have := gr1_any a w1
    simpa using this)
  obtain ⟨nm, args⟩ := x
  simp only at hs hfa hca hv ⊢
  generalize args.any (fun a => a.kind == 1) = an at *
  generalize atomS ⟨nm, args⟩ = af at *
  have HFA := Lib.hid hfa; have HCA := Lib.hid hca; have HS := Lib.hid (hs.wide (S' := fun b => b < w.heap.size) (fun k hk _ => hk) (by decide)); have HV := Lib.hid hv
  clear hfa hca hs hv ho
  go_enter Tryz.func35, Tryz.ntmps35
  go_wp2_with fail
  refine (HFA.out _ _ (HS.out.alloc _)).mono ?_
  rintro e w1 ⟨rfl, hb1⟩
  have hB := keptBlk hb1 (blkAt w (.cells #[.string ⟨nm.toArray⟩, .slice A n c] 45) rfl)
  have k0 := (cell_blk hB 0).trans rfl; have k1 := (cell_blk hB 1).trans rfl
  have HB1 := Lib.hid (next boxed hb1 (Nat.le_refl _)); clear hb1 hB
  cases af
  · go_wp2_with fail
    go_ret
    exact ⟨ret_bool (by rw [HV.out]; rfl), HB1.out⟩
  · go_wp2_with fail
    refine (HCA.out _ _ (HS.out.below HB1.out)).mono ?_
    rintro e w2 ⟨rfl, hb2⟩
    go_wp2_with fail
    go_ret
    exact ⟨ret_bool (by rw [HV.out]; rfl), next HB1.out hb2 (Nat.le_refl _)⟩
end Go.Proofs.YtjopmgoacncmgaaGreatDoor
