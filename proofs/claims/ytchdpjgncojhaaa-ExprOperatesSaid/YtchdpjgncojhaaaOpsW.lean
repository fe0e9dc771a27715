/- ExprOperates: the walk. -/
import Derived.Test.YtchdpjgncojhaaaL2
import Derived.Test.YtchdpjgncojhaaaR1
set_option linter.unusedVariables false
set_option linter.unusedSimpArgs false
namespace Go.Proofs.Ytchdpjgncojhaaa
open Go.RowKit

set_option maxRecDepth 100000 in
set_option maxHeartbeats 2000000 in
theorem exprOperates_walk (w : World) (op : List UInt8) (_hl : op.length ≤ 9223372036854775807) (x : Int) (hx : 0 ≤ x) (hx' : x ≤ 4294967295) (y : Int) (hy : 0 ≤ y) (hy' : y ≤ 4294967295) :
    Calls Try.prog 6 #[.string ⟨op.toArray⟩, .int .u32 x, .int .u32 y] w fun e w' => e = .returned (.bool true) ∧ Below w.heap.size w w' := by
  have hu := fun w => unary_any op x w hx hx'
  have hu8 := fun w => unary8_any op x w hx hx'
  have hb := fun w => binary_any op x y w hx hx' hy hy'
  have hb8 := fun w => binary8_any op x y w hx hx' hy hy'
  generalize (unS op x) = u at *
  generalize (binS op x y) = b at *
  obtain ⟨u1, u2⟩ := u
  obtain ⟨b1, b2⟩ := b
  have HU := Lib.hid hu; have HU8 := Lib.hid hu8; have HB := Lib.hid hb; have HB8 := Lib.hid hb8
  clear hu hu8 hb hb8
  by_cases h20 : op.length ≤ 20
  · go_enter Try.func6, Try.ntmps6
    go_wp2_with fail
    refine (awake_any _).mono ?_
    rintro e w1 ⟨rfl, hb1⟩
    go_wp2_with (first | (go_at_call 25; refine (HU.out _).mono ?_; rintro e w' ⟨rfl, rfl⟩) | (go_at_call 26; refine (HU8.out _).mono ?_; rintro e w' ⟨rfl, rfl⟩) | (go_at_call 27; refine (HB.out _).mono ?_; rintro e w' ⟨rfl, rfl⟩) | (go_at_call 28; refine (HB8.out _).mono ?_; rintro e w' ⟨rfl, rfl⟩))
    go_ret
    exact ⟨rfl, hb1⟩
  · go_enter Try.func6, Try.ntmps6
    go_wp2_with fail
    refine (awake_any _).mono ?_
    rintro e w1 ⟨rfl, hb1⟩
    go_wp2
    go_ret
    exact ⟨rfl, hb1⟩
end Go.Proofs.Ytchdpjgncojhaaa
