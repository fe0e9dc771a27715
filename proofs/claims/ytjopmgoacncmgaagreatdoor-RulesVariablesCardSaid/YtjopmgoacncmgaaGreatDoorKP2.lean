/- Rules: strconv.Atoi, Itoa as the parser uses them; the parser's arg. -/
import Derived.Test.YtjopmgoacncmgaaGreatDoorKP1
import Derived.Test.YtjopmgoacncmgaaGreatDoorRfAto
import Derived.Lib.AtoiErrMem
import Derived.Lib.AtoiAllCases
import Derived.Lib.AppendIntMem
set_option linter.unusedVariables false
set_option linter.unusedSimpArgs false
namespace Go.Proofs.YtjopmgoacncmgaaGreatDoor
open Go.RowKit

theorem itoa_any (n : Int) (h0 : -9223372036854775808 ≤ n) (h1 : n ≤ 9223372036854775807) (w : World) (hL : LD w) :
    Calls Tryz.prog 145 #[.int .i64 n] w fun e w' => e = .returned (.string ⟨(itoaS n).toArray⟩) ∧ Below w.heap.size w w' := by
  refine (Tryz.strconv_Itoa n h0 h1 w hL.pow).mono ?_
  rintro e w' ⟨rfl, k, os, rfl⟩
  exact ⟨by rw [itoa_lib n h0 h1], Lib.below_grow _ _ (Nat.le_refl _) k os⟩
theorem atoi_ok (s : Bs) (v : Int) (h : Lib.atoiAll s = .ok v) (hs : s.length ≤ 4294967000) (w : World) :
    Calls Tryz.prog 153 #[.string ⟨s.toArray⟩] w fun e w' => e = .returned (.tuple #[.int .i64 v, .nilIface]) ∧ Below w.heap.size w w' := by
  refine (Tryz.strconv_Atoi_ok ⟨s.toArray⟩ (by simp [ByteArray.size]; omega) v (by simpa using h) w).mono ?_
  rintro e w' ⟨rfl, rfl | ⟨t, rfl⟩⟩
  · exact ⟨rfl, Below.refl _ _⟩
  · exact ⟨rfl, Lib.bytesWorld_below _ _ _⟩
theorem atoi_no (s : Bs) (h : ∀ v, Lib.atoiAll s ≠ .ok v) (hs : s.length ≤ 4294967000) (w : World) (hL : LD w) :
    Calls Tryz.prog 153 #[.string ⟨s.toArray⟩] w fun e w' => ∃ v t p, e = .returned (.tuple #[.int .i64 v, .iface t p]) ∧ Below w.heap.size w w' := by
  cases ha : Lib.atoiAll s with
  | ok v => exact absurd ha (h v)
  | range =>
    obtain ⟨tp, p, hp⟩ := hL.rng
    refine (Tryz.strconv_Atoi_range_var ⟨s.toArray⟩ (by simp [ByteArray.size]; omega) (by simpa using ha) tp p w hp).mono ?_
    rintro e w' ⟨N, rfl, _, _, hb⟩
    exact ⟨_, _, _, rfl, hb⟩
  | _ =>
    obtain ⟨tp, p, hp⟩ := hL.syn
    refine (Tryz.strconv_Atoi_syntax_var ⟨s.toArray⟩ (by simp [ByteArray.size]; omega) (by simpa using ha) tp p w hp).mono ?_
    rintro e w' ⟨N, rfl, _, _, hb⟩
    exact ⟨_, _, _, rfl, hb⟩
end Go.Proofs.YtjopmgoacncmgaaGreatDoor
