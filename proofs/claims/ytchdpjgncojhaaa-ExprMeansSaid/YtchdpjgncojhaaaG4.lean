/- slices.Grow at []api.Token: the kit's contract laid; slices.Concat. -/
import Derived.Test.YtchdpjgncojhaaaG3
import Derived.Shelf.Spec.SlicesGrow
set_option linter.unusedVariables false
set_option linter.unusedSimpArgs false
namespace Go.Proofs.Ytchdpjgncojhaaa
open Go.RowKit Go.Shelf Go.Proofs

def growRen : Go.Shelf.Ren := ⟨fun | 4 => 69 | n => n, fun | 22 => 22 | 25 => 54 | 0 => 0 | 3 => 3 | 4 => 4 | 9 => 9 | 20 => 20 | n => n, fun | n => n⟩
theorem growLays : Go.Proofs.Lays8.n4 Try.prog growRen := {
  mixed := by kernel_rfl
  f4 := ⟨Try.f69.name, by kernel_rfl, Try.func69.trans (congrArg some (by kernel_rfl))⟩
  t0 := Try.underlying0
  a0 := Try.isAgg0
  z0 := Try.sizeOf0
  v0 := Try.zeroValue0
  t3 := Try.underlying3
  a3 := Try.isAgg3
  z3 := Try.sizeOf3
  v3 := Try.zeroValue3
  t4 := Try.underlying4
  a4 := Try.isAgg4
  z4 := Try.sizeOf4
  v4 := Try.zeroValue4
  t9 := Try.underlying9
  a9 := Try.isAgg9
  z9 := Try.sizeOf9
  v9 := Try.zeroValue9
  t20 := Try.underlying20
  a20 := Try.isAgg20
  z20 := Try.sizeOf20
  v20 := Try.zeroValue20
  t22 := Try.underlying22
  a22 := Try.isAgg22
  z22 := Try.sizeOf22
  v22 := Try.zeroValue22 }
theorem Own.room {α : Type} [GoT α] {w : World} {T : Nat → Prop} {base e b cap : Nat} {cur : Array Value} (hb : w.heap[b]? = some (.cells cur e (0, 0))) (hbb : base ≤ b) (hm : cap ≤ 9223372036854775807) (hs : cur.size = cap * GoT.size α) : Own (α := α) w T base e (some ⟨b, 0, none⟩) cap [] := by
  refine ⟨[], ⟨by simp, .inr ⟨b, cap, cur, rfl, hbb, hb, Nat.zero_le _, by simpa [maxLen] using hm, hs, by simp⟩⟩, fun i h => absurd h (Nat.not_lt_zero i)⟩

set_option maxHeartbeats 1000000 in
theorem growTok_any (n : Nat) (w : World) (T : Nat → Prop) (hn : n ≤ 1000000) :
    Calls Try.prog 69 #[.slice none 0 0, .int .i64 n] w fun e w' => ∃ A c, e = .returned (.slice A 0 c) ∧ Own (α := Tok) w' T w.heap.size 54 A c [] ∧ Below w.heap.size w w' := by
  rcases Nat.eq_zero_or_pos n with rfl | hpos
  · refine (Any8.slices_Grow_room (ρ := growRen) growLays none 0 0 0 w (by omega) (by omega) (by omega) (by omega)).mono ?_
    rintro e w' ⟨he, rfl⟩
    exact ⟨none, 0, he, Own.nil _ _ _ _, Below.refl _ _⟩
  · obtain ⟨i, z, hi, hzr, hs, hby, hzs⟩ := eltTok.info
    refine (Any8.slices_Grow_grow (ρ := growRen) growLays i z hi hzr (by rw [hs]; decide) none 0 0 n [] w (by omega) (by omega) (by rw [hby]; omega) (by omega) (by simp) (fun _ => rfl) (fun a h => by cases h)).mono ?_
    rintro e w' ⟨he, rfl⟩
    have hge : 0 + n ≤ grownCap w (0 + n) 0 (growRen.t 25) := grownCap_ge w _ _ _
    have hle := grownCap_le_maxLen w (0 + n) 0 (growRen.t 25) (by unfold maxLen; omega)
    generalize grownCap w (0 + n) 0 (growRen.t 25) = G at *
    unfold maxLen at hle
    refine ⟨_, G, he, Own.room (b := w.heap.size) (cur := #[] ++ Builtin.zeroCells z.cells (0 + n - 0) ++ Builtin.zeroCells z.cells (G - (0 + n))) (blkAt _ _ rfl) (Nat.le_refl _) hle ?_, (Below.refl _ _).drew.alloc (Nat.le_refl _) _⟩
    simp only [Array.size_append, size_zeroCells, hzs]
    show #[].size + (0 + n - 0) * 2 + (G - (0 + n)) * 2 = G * 2
    simp
    omega
end Go.Proofs.Ytchdpjgncojhaaa
