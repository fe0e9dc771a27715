/- ExprArithmetic: the walk. -/
import Derived.Test.YtchdpjgncojhaaaL2
import Derived.Test.YtchdpjgncojhaaaAr0
set_option linter.unusedVariables false
set_option linter.unusedSimpArgs false
namespace Go.Proofs.Ytchdpjgncojhaaa
open Go.RowKit

theorem arB_any (op : Bs) (x y : Int) (w : World) (h : 0 ≤ x) (h' : x ≤ 4294967295) (h2 : 0 ≤ y) (h2' : y ≤ 4294967295) :
    Calls Try.prog 29 #[.string ⟨op.toArray⟩, .int .u32 x, .int .u32 y] w fun e w' => e = .returned (.int .u32 (binS op x y).1) ∧ w = w' := by
  have hb := fun w => binary_any op x y w h h' h2 h2'
  generalize binS op x y = b at *
  have HB := Lib.hid hb; clear hb
  go_enter Try.func29, Try.ntmps29
  go_wp2_with (go_at_call 27; refine (HB.out _).mono ?_; rintro e w' ⟨rfl, rfl⟩)
  go_ret
  exact ⟨rfl, rfl⟩
theorem arU_any (op : Bs) (x : Int) (w : World) (h : 0 ≤ x) (h' : x ≤ 4294967295) :
    Calls Try.prog 30 #[.string ⟨op.toArray⟩, .int .u32 x] w fun e w' => e = .returned (.int .u32 (unS op x).1) ∧ w = w' := by
  have hb := fun w => unary_any op x w h h'
  generalize unS op x = b at *
  have HB := Lib.hid hb; clear hb
  go_enter Try.func30, Try.ntmps30
  go_wp2_with (go_at_call 25; refine (HB.out _).mono ?_; rintro e w' ⟨rfl, rfl⟩)
  go_ret
  exact ⟨rfl, rfl⟩

set_option maxRecDepth 100000 in
set_option maxHeartbeats 60000000 in
theorem exprArithmetic_walk (w : World) (x : Int) (hx : 0 ≤ x) (hx' : x ≤ 4294967295) (y : Int) (hy : 0 ≤ y) (hy' : y ≤ 4294967295) :
    Calls Try.prog 8 #[.int .u32 x, .int .u32 y] w fun e w' => e = .returned (.bool true) ∧ Below w.heap.size w w' := by
  have rx : 0 ≤ x ∧ x ≤ 4294967295 := ⟨hx, hx'⟩
  have ry : 0 ≤ y ∧ y ≤ 4294967295 := ⟨hy, hy'⟩
  have z0 : (0 : Int) ≤ 0 ∧ (0 : Int) ≤ 4294967295 := by decide
  have z1 : (0 : Int) ≤ 1 ∧ (1 : Int) ≤ 4294967295 := by decide
  have z31 : (0 : Int) ≤ 31 ∧ (31 : Int) ≤ 4294967295 := by decide
  have hyy : 0 ≤ (y + 32) % 4294967296 ∧ (y + 32) % 4294967296 ≤ 4294967295 := by omega
  have rq : 0 ≤ (binS [47] x y).1 ∧ (binS [47] x y).1 ≤ 4294967295 := binS_rng [47] x y (rx).1 (rx).2
  have rr : 0 ≤ (binS [37] x y).1 ∧ (binS [37] x y).1 ≤ 4294967295 := binS_rng [37] x y (rx).1 (rx).2
  have ru1 : 0 ≤ (unS [45] x).1 ∧ (unS [45] x).1 ≤ 4294967295 := unS_rng [45] x
  have ru2 : 0 ≤ (unS [126] x).1 ∧ (unS [126] x).1 ≤ 4294967295 := unS_rng [126] x
  have ru3 : 0 ≤ (unS [33] x).1 ∧ (unS [33] x).1 ≤ 4294967295 := unS_rng [33] x
  have ru4 : 0 ≤ (unS [33] (unS [33] x).1).1 ∧ (unS [33] (unS [33] x).1).1 ≤ 4294967295 := unS_rng [33] (unS [33] x).1
  have rv4 : 0 ≤ (binS [60, 60] x 1).1 ∧ (binS [60, 60] x 1).1 ≤ 4294967295 := binS_rng [60, 60] x 1 (rx).1 (rx).2
  have rv7 : 0 ≤ (binS [60, 60] x y).1 ∧ (binS [60, 60] x y).1 ≤ 4294967295 := binS_rng [60, 60] x y (rx).1 (rx).2
  have rv8 : 0 ≤ (binS [60] x y).1 ∧ (binS [60] x y).1 ≤ 4294967295 := binS_rng [60] x y (rx).1 (rx).2
  have rv9 : 0 ≤ (binS [61, 61] x y).1 ∧ (binS [61, 61] x y).1 ≤ 4294967295 := binS_rng [61, 61] x y (rx).1 (rx).2
  have rv10 : 0 ≤ (binS [62] x y).1 ∧ (binS [62] x y).1 ≤ 4294967295 := binS_rng [62] x y (rx).1 (rx).2
  have rv11 : 0 ≤ (binS [60, 61] x y).1 ∧ (binS [60, 61] x y).1 ≤ 4294967295 := binS_rng [60, 61] x y (rx).1 (rx).2
  have rv12 : 0 ≤ (binS [62, 61] x y).1 ∧ (binS [62, 61] x y).1 ≤ 4294967295 := binS_rng [62, 61] x y (rx).1 (rx).2
  have rv14 : 0 ≤ (binS [33, 61] x y).1 ∧ (binS [33, 61] x y).1 ≤ 4294967295 := binS_rng [33, 61] x y (rx).1 (rx).2
  have rv15 : 0 ≤ (binS [38, 38] x y).1 ∧ (binS [38, 38] x y).1 ≤ 4294967295 := binS_rng [38, 38] x y (rx).1 (rx).2
  have ru7 : 0 ≤ (unS [33] y).1 ∧ (unS [33] y).1 ≤ 4294967295 := unS_rng [33] y
  have rv16 : 0 ≤ (binS [124, 124] (unS [33] x).1 (unS [33] y).1).1 ∧ (binS [124, 124] (unS [33] x).1 (unS [33] y).1).1 ≤ 4294967295 := binS_rng [124, 124] (unS [33] x).1 (unS [33] y).1 (ru3).1 (ru3).2
  have rv17 : 0 ≤ (binS [94] x y).1 ∧ (binS [94] x y).1 ≤ 4294967295 := binS_rng [94] x y (rx).1 (rx).2
  have rv18 : 0 ≤ (binS [124] x y).1 ∧ (binS [124] x y).1 ≤ 4294967295 := binS_rng [124] x y (rx).1 (rx).2
  have rv19 : 0 ≤ (binS [38] x y).1 ∧ (binS [38] x y).1 ≤ 4294967295 := binS_rng [38] x y (rx).1 (rx).2
  have rv21 : 0 ≤ (binS [43] x y).1 ∧ (binS [43] x y).1 ≤ 4294967295 := binS_rng [43] x y (rx).1 (rx).2
  have rv22 : 0 ≤ (binS [62, 62] x 31).1 ∧ (binS [62, 62] x 31).1 ≤ 4294967295 := binS_rng [62, 62] x 31 (rx).1 (rx).2
  have rv23 : 0 ≤ (binS [60] x 0).1 ∧ (binS [60] x 0).1 ≤ 4294967295 := binS_rng [60] x 0 (rx).1 (rx).2
  have rv26 : 0 ≤ (binS [42] x y).1 ∧ (binS [42] x y).1 ≤ 4294967295 := binS_rng [42] x y (rx).1 (rx).2
  have c0 : ∀ w, Calls Try.prog 29 #[.string ⟨([47] : Bs).toArray⟩, .int .u32 x, .int .u32 y] w fun e w' => e = .returned (.int .u32 (binS [47] x y).1) ∧ w = w' := fun w => arB_any [47] x y w (rx).1 (rx).2 (ry).1 (ry).2
  have c1 : ∀ w, Calls Try.prog 29 #[.string ⟨([37] : Bs).toArray⟩, .int .u32 x, .int .u32 y] w fun e w' => e = .returned (.int .u32 (binS [37] x y).1) ∧ w = w' := fun w => arB_any [37] x y w (rx).1 (rx).2 (ry).1 (ry).2
  have c2 : ∀ w, Calls Try.prog 30 #[.string ⟨([45] : Bs).toArray⟩, .int .u32 x] w fun e w' => e = .returned (.int .u32 (unS [45] x).1) ∧ w = w' := fun w => arU_any [45] x w (rx).1 (rx).2
  have c3 : ∀ w, Calls Try.prog 30 #[.string ⟨([126] : Bs).toArray⟩, .int .u32 x] w fun e w' => e = .returned (.int .u32 (unS [126] x).1) ∧ w = w' := fun w => arU_any [126] x w (rx).1 (rx).2
  have c4 : ∀ w, Calls Try.prog 30 #[.string ⟨([33] : Bs).toArray⟩, .int .u32 x] w fun e w' => e = .returned (.int .u32 (unS [33] x).1) ∧ w = w' := fun w => arU_any [33] x w (rx).1 (rx).2
  have c5 : ∀ w, Calls Try.prog 30 #[.string ⟨([33] : Bs).toArray⟩, .int .u32 (unS [33] x).1] w fun e w' => e = .returned (.int .u32 (unS [33] (unS [33] x).1).1) ∧ w = w' := fun w => arU_any [33] (unS [33] x).1 w (ru3).1 (ru3).2
  have c6 : ∀ w, Calls Try.prog 29 #[.string ⟨([33, 61] : Bs).toArray⟩, .int .u32 x, .int .u32 0] w fun e w' => e = .returned (.int .u32 (unS [33] (unS [33] x).1).1) ∧ w = w' := fun w => by have h := arB_any [33, 61] x 0 w (rx).1 (rx).2 (z0).1 (z0).2; rw [(e_not x).symm] at h; exact h
  have c7 : ∀ w, Calls Try.prog 29 #[.string ⟨([60, 60] : Bs).toArray⟩, .int .u32 x, .int .u32 1] w fun e w' => e = .returned (.int .u32 (binS [60, 60] x 1).1) ∧ w = w' := fun w => arB_any [60, 60] x 1 w (rx).1 (rx).2 (z1).1 (z1).2
  have c8 : ∀ w, Calls Try.prog 29 #[.string ⟨([43] : Bs).toArray⟩, .int .u32 x, .int .u32 x] w fun e w' => e = .returned (.int .u32 (binS [60, 60] x 1).1) ∧ w = w' := fun w => by have h := arB_any [43] x x w (rx).1 (rx).2 (rx).1 (rx).2; rw [(e_dbl x).symm] at h; exact h
  have c9 : ∀ w, Calls Try.prog 29 #[.string ⟨([60, 60] : Bs).toArray⟩, .int .u32 x, .int .u32 ((y + 32) % 4294967296)] w fun e w' => e = .returned (.int .u32 (binS [60, 60] x y).1) ∧ w = w' := fun w => by have h := arB_any [60, 60] x ((y + 32) % 4294967296) w (rx).1 (rx).2 (hyy).1 (hyy).2; rw [e_shl x y] at h; exact h
  have c10 : ∀ w, Calls Try.prog 29 #[.string ⟨([60, 60] : Bs).toArray⟩, .int .u32 x, .int .u32 y] w fun e w' => e = .returned (.int .u32 (binS [60, 60] x y).1) ∧ w = w' := fun w => arB_any [60, 60] x y w (rx).1 (rx).2 (ry).1 (ry).2
  have c11 : ∀ w, Calls Try.prog 29 #[.string ⟨([60] : Bs).toArray⟩, .int .u32 x, .int .u32 y] w fun e w' => e = .returned (.int .u32 (binS [60] x y).1) ∧ w = w' := fun w => arB_any [60] x y w (rx).1 (rx).2 (ry).1 (ry).2
  have c12 : ∀ w, Calls Try.prog 29 #[.string ⟨([61, 61] : Bs).toArray⟩, .int .u32 x, .int .u32 y] w fun e w' => e = .returned (.int .u32 (binS [61, 61] x y).1) ∧ w = w' := fun w => arB_any [61, 61] x y w (rx).1 (rx).2 (ry).1 (ry).2
  have c13 : ∀ w, Calls Try.prog 29 #[.string ⟨([62] : Bs).toArray⟩, .int .u32 x, .int .u32 y] w fun e w' => e = .returned (.int .u32 (binS [62] x y).1) ∧ w = w' := fun w => arB_any [62] x y w (rx).1 (rx).2 (ry).1 (ry).2
  have c14 : ∀ w, Calls Try.prog 29 #[.string ⟨([60, 61] : Bs).toArray⟩, .int .u32 x, .int .u32 y] w fun e w' => e = .returned (.int .u32 (binS [60, 61] x y).1) ∧ w = w' := fun w => arB_any [60, 61] x y w (rx).1 (rx).2 (ry).1 (ry).2
  have c15 : ∀ w, Calls Try.prog 30 #[.string ⟨([33] : Bs).toArray⟩, .int .u32 (binS [62] x y).1] w fun e w' => e = .returned (.int .u32 (binS [60, 61] x y).1) ∧ w = w' := fun w => by have h := arU_any [33] (binS [62] x y).1 w (rv10).1 (rv10).2; rw [e_leq x y] at h; exact h
  have c16 : ∀ w, Calls Try.prog 29 #[.string ⟨([62, 61] : Bs).toArray⟩, .int .u32 x, .int .u32 y] w fun e w' => e = .returned (.int .u32 (binS [62, 61] x y).1) ∧ w = w' := fun w => arB_any [62, 61] x y w (rx).1 (rx).2 (ry).1 (ry).2
  have c17 : ∀ w, Calls Try.prog 29 #[.string ⟨([60, 61] : Bs).toArray⟩, .int .u32 y, .int .u32 x] w fun e w' => e = .returned (.int .u32 (binS [62, 61] x y).1) ∧ w = w' := fun w => by have h := arB_any [60, 61] y x w (ry).1 (ry).2 (rx).1 (rx).2; rw [e_geq x y] at h; exact h
  have c18 : ∀ w, Calls Try.prog 29 #[.string ⟨([33, 61] : Bs).toArray⟩, .int .u32 x, .int .u32 y] w fun e w' => e = .returned (.int .u32 (binS [33, 61] x y).1) ∧ w = w' := fun w => arB_any [33, 61] x y w (rx).1 (rx).2 (ry).1 (ry).2
  have c19 : ∀ w, Calls Try.prog 30 #[.string ⟨([33] : Bs).toArray⟩, .int .u32 (binS [61, 61] x y).1] w fun e w' => e = .returned (.int .u32 (binS [33, 61] x y).1) ∧ w = w' := fun w => by have h := arU_any [33] (binS [61, 61] x y).1 w (rv9).1 (rv9).2; rw [e_neq x y] at h; exact h
  have c20 : ∀ w, Calls Try.prog 29 #[.string ⟨([38, 38] : Bs).toArray⟩, .int .u32 x, .int .u32 y] w fun e w' => e = .returned (.int .u32 (binS [38, 38] x y).1) ∧ w = w' := fun w => arB_any [38, 38] x y w (rx).1 (rx).2 (ry).1 (ry).2
  have c21 : ∀ w, Calls Try.prog 30 #[.string ⟨([33] : Bs).toArray⟩, .int .u32 y] w fun e w' => e = .returned (.int .u32 (unS [33] y).1) ∧ w = w' := fun w => arU_any [33] y w (ry).1 (ry).2
  have c22 : ∀ w, Calls Try.prog 29 #[.string ⟨([124, 124] : Bs).toArray⟩, .int .u32 (unS [33] x).1, .int .u32 (unS [33] y).1] w fun e w' => e = .returned (.int .u32 (binS [124, 124] (unS [33] x).1 (unS [33] y).1).1) ∧ w = w' := fun w => arB_any [124, 124] (unS [33] x).1 (unS [33] y).1 w (ru3).1 (ru3).2 (ru7).1 (ru7).2
  have c23 : ∀ w, Calls Try.prog 30 #[.string ⟨([33] : Bs).toArray⟩, .int .u32 (binS [124, 124] (unS [33] x).1 (unS [33] y).1).1] w fun e w' => e = .returned (.int .u32 (binS [38, 38] x y).1) ∧ w = w' := fun w => by have h := arU_any [33] (binS [124, 124] (unS [33] x).1 (unS [33] y).1).1 w (rv16).1 (rv16).2; rw [e_and x y] at h; exact h
  have c24 : ∀ w, Calls Try.prog 29 #[.string ⟨([94] : Bs).toArray⟩, .int .u32 x, .int .u32 y] w fun e w' => e = .returned (.int .u32 (binS [94] x y).1) ∧ w = w' := fun w => arB_any [94] x y w (rx).1 (rx).2 (ry).1 (ry).2
  have c25 : ∀ w, Calls Try.prog 29 #[.string ⟨([124] : Bs).toArray⟩, .int .u32 x, .int .u32 y] w fun e w' => e = .returned (.int .u32 (binS [124] x y).1) ∧ w = w' := fun w => arB_any [124] x y w (rx).1 (rx).2 (ry).1 (ry).2
  have c26 : ∀ w, Calls Try.prog 29 #[.string ⟨([38] : Bs).toArray⟩, .int .u32 x, .int .u32 y] w fun e w' => e = .returned (.int .u32 (binS [38] x y).1) ∧ w = w' := fun w => arB_any [38] x y w (rx).1 (rx).2 (ry).1 (ry).2
  have c27 : ∀ w, Calls Try.prog 29 #[.string ⟨([43] : Bs).toArray⟩, .int .u32 (binS [124] x y).1, .int .u32 (binS [38] x y).1] w fun e w' => e = .returned (.int .u32 (binS [43] x y).1) ∧ w = w' := fun w => by have h := arB_any [43] (binS [124] x y).1 (binS [38] x y).1 w (rv18).1 (rv18).2 (rv19).1 (rv19).2; rw [e_sum x y hx hx' hy hy'] at h; exact h
  have c28 : ∀ w, Calls Try.prog 29 #[.string ⟨([43] : Bs).toArray⟩, .int .u32 x, .int .u32 y] w fun e w' => e = .returned (.int .u32 (binS [43] x y).1) ∧ w = w' := fun w => arB_any [43] x y w (rx).1 (rx).2 (ry).1 (ry).2
  have c29 : ∀ w, Calls Try.prog 29 #[.string ⟨([62, 62] : Bs).toArray⟩, .int .u32 x, .int .u32 31] w fun e w' => e = .returned (.int .u32 (binS [62, 62] x 31).1) ∧ w = w' := fun w => arB_any [62, 62] x 31 w (rx).1 (rx).2 (z31).1 (z31).2
  have c30 : ∀ w, Calls Try.prog 29 #[.string ⟨([60] : Bs).toArray⟩, .int .u32 x, .int .u32 0] w fun e w' => e = .returned (.int .u32 (binS [60] x 0).1) ∧ w = w' := fun w => arB_any [60] x 0 w (rx).1 (rx).2 (z0).1 (z0).2
  have c31 : ∀ w, Calls Try.prog 29 #[.string ⟨([45] : Bs).toArray⟩, .int .u32 0, .int .u32 (binS [60] x 0).1] w fun e w' => e = .returned (.int .u32 (binS [62, 62] x 31).1) ∧ w = w' := fun w => by have h := arB_any [45] 0 (binS [60] x 0).1 w (z0).1 (z0).2 (rv23).1 (rv23).2; rw [e_sar x hx hx'] at h; exact h
  have c32 : ∀ w, Calls Try.prog 29 #[.string ⟨([45] : Bs).toArray⟩, .int .u32 (binS [43] x y).1, .int .u32 y] w fun e w' => e = .returned (.int .u32 x) ∧ w = w' := fun w => by have h := arB_any [45] (binS [43] x y).1 y w (rv21).1 (rv21).2 (ry).1 (ry).2; rw [e_sub x y hx hx'] at h; exact h
  have c33 : ∀ w, Calls Try.prog 29 #[.string ⟨([42] : Bs).toArray⟩, .int .u32 x, .int .u32 y] w fun e w' => e = .returned (.int .u32 (binS [42] x y).1) ∧ w = w' := fun w => arB_any [42] x y w (rx).1 (rx).2 (ry).1 (ry).2
  have c34 : ∀ w, Calls Try.prog 29 #[.string ⟨([42] : Bs).toArray⟩, .int .u32 y, .int .u32 x] w fun e w' => e = .returned (.int .u32 (binS [42] x y).1) ∧ w = w' := fun w => by have h := arB_any [42] y x w (ry).1 (ry).2 (rx).1 (rx).2; rw [e_mul x y] at h; exact h
  have e1 := e_div x y hx hx' hy hy'
  have e2 := e_neg x hx hx'
  have e3 := e_cmp x y hx hx' hy hy'
  have e4 := e_xor x y hx hx' hy hy'
  generalize (binS [124, 124] (unS [33] x).1 (unS [33] y).1).1 = v16 at *
  generalize (unS [33] (unS [33] x).1).1 = u4 at *
  generalize (binS [62, 62] x 31).1 = v22 at *
  generalize (binS [60, 60] x 1).1 = v4 at *
  generalize (binS [60, 60] x y).1 = v7 at *
  generalize (binS [61, 61] x y).1 = v9 at *
  generalize (binS [60, 61] x y).1 = v11 at *
  generalize (binS [62, 61] x y).1 = v12 at *
  generalize (binS [33, 61] x y).1 = v14 at *
  generalize (binS [38, 38] x y).1 = v15 at *
  generalize (binS [124] x y).1 = v18 at *
  generalize (binS [47] x y).1 = q at *
  generalize (binS [37] x y).1 = r at *
  generalize (binS [60] x y).1 = v8 at *
  generalize (binS [62] x y).1 = v10 at *
  generalize (binS [94] x y).1 = v17 at *
  generalize (binS [38] x y).1 = v19 at *
  generalize (binS [43] x y).1 = v21 at *
  generalize (binS [60] x 0).1 = v23 at *
  generalize (binS [42] x y).1 = v26 at *
  generalize (unS [126] x).1 = u2 at *
  generalize (unS [45] x).1 = u1 at *
  generalize (unS [33] x).1 = u3 at *
  generalize (unS [33] y).1 = u7 at *
  generalize hyyv : (y + 32) % 4294967296 = yy at *
  have HC := Lib.hid (show _ from (⟨c0, c1, c2, c3, c4, c5, c6, c7, c8, c9, c10, c11, c12, c13, c14, c15, c16, c17, c18, c19, c20, c21, c22, c23, c24, c25, c26, c27, c28, c29, c30, c31, c32, c33, c34⟩ : (∀ w, Calls Try.prog 29 #[.string ⟨([47] : Bs).toArray⟩, .int .u32 x, .int .u32 y] w fun e w' => e = .returned (.int .u32 q) ∧ w = w') ∧ (∀ w, Calls Try.prog 29 #[.string ⟨([37] : Bs).toArray⟩, .int .u32 x, .int .u32 y] w fun e w' => e = .returned (.int .u32 r) ∧ w = w') ∧ (∀ w, Calls Try.prog 30 #[.string ⟨([45] : Bs).toArray⟩, .int .u32 x] w fun e w' => e = .returned (.int .u32 u1) ∧ w = w') ∧ (∀ w, Calls Try.prog 30 #[.string ⟨([126] : Bs).toArray⟩, .int .u32 x] w fun e w' => e = .returned (.int .u32 u2) ∧ w = w') ∧ (∀ w, Calls Try.prog 30 #[.string ⟨([33] : Bs).toArray⟩, .int .u32 x] w fun e w' => e = .returned (.int .u32 u3) ∧ w = w') ∧ (∀ w, Calls Try.prog 30 #[.string ⟨([33] : Bs).toArray⟩, .int .u32 u3] w fun e w' => e = .returned (.int .u32 u4) ∧ w = w') ∧ (∀ w, Calls Try.prog 29 #[.string ⟨([33, 61] : Bs).toArray⟩, .int .u32 x, .int .u32 0] w fun e w' => e = .returned (.int .u32 u4) ∧ w = w') ∧ (∀ w, Calls Try.prog 29 #[.string ⟨([60, 60] : Bs).toArray⟩, .int .u32 x, .int .u32 1] w fun e w' => e = .returned (.int .u32 v4) ∧ w = w') ∧ (∀ w, Calls Try.prog 29 #[.string ⟨([43] : Bs).toArray⟩, .int .u32 x, .int .u32 x] w fun e w' => e = .returned (.int .u32 v4) ∧ w = w') ∧ (∀ w, Calls Try.prog 29 #[.string ⟨([60, 60] : Bs).toArray⟩, .int .u32 x, .int .u32 yy] w fun e w' => e = .returned (.int .u32 v7) ∧ w = w') ∧ (∀ w, Calls Try.prog 29 #[.string ⟨([60, 60] : Bs).toArray⟩, .int .u32 x, .int .u32 y] w fun e w' => e = .returned (.int .u32 v7) ∧ w = w') ∧ (∀ w, Calls Try.prog 29 #[.string ⟨([60] : Bs).toArray⟩, .int .u32 x, .int .u32 y] w fun e w' => e = .returned (.int .u32 v8) ∧ w = w') ∧ (∀ w, Calls Try.prog 29 #[.string ⟨([61, 61] : Bs).toArray⟩, .int .u32 x, .int .u32 y] w fun e w' => e = .returned (.int .u32 v9) ∧ w = w') ∧ (∀ w, Calls Try.prog 29 #[.string ⟨([62] : Bs).toArray⟩, .int .u32 x, .int .u32 y] w fun e w' => e = .returned (.int .u32 v10) ∧ w = w') ∧ (∀ w, Calls Try.prog 29 #[.string ⟨([60, 61] : Bs).toArray⟩, .int .u32 x, .int .u32 y] w fun e w' => e = .returned (.int .u32 v11) ∧ w = w') ∧ (∀ w, Calls Try.prog 30 #[.string ⟨([33] : Bs).toArray⟩, .int .u32 v10] w fun e w' => e = .returned (.int .u32 v11) ∧ w = w') ∧ (∀ w, Calls Try.prog 29 #[.string ⟨([62, 61] : Bs).toArray⟩, .int .u32 x, .int .u32 y] w fun e w' => e = .returned (.int .u32 v12) ∧ w = w') ∧ (∀ w, Calls Try.prog 29 #[.string ⟨([60, 61] : Bs).toArray⟩, .int .u32 y, .int .u32 x] w fun e w' => e = .returned (.int .u32 v12) ∧ w = w') ∧ (∀ w, Calls Try.prog 29 #[.string ⟨([33, 61] : Bs).toArray⟩, .int .u32 x, .int .u32 y] w fun e w' => e = .returned (.int .u32 v14) ∧ w = w') ∧ (∀ w, Calls Try.prog 30 #[.string ⟨([33] : Bs).toArray⟩, .int .u32 v9] w fun e w' => e = .returned (.int .u32 v14) ∧ w = w') ∧ (∀ w, Calls Try.prog 29 #[.string ⟨([38, 38] : Bs).toArray⟩, .int .u32 x, .int .u32 y] w fun e w' => e = .returned (.int .u32 v15) ∧ w = w') ∧ (∀ w, Calls Try.prog 30 #[.string ⟨([33] : Bs).toArray⟩, .int .u32 y] w fun e w' => e = .returned (.int .u32 u7) ∧ w = w') ∧ (∀ w, Calls Try.prog 29 #[.string ⟨([124, 124] : Bs).toArray⟩, .int .u32 u3, .int .u32 u7] w fun e w' => e = .returned (.int .u32 v16) ∧ w = w') ∧ (∀ w, Calls Try.prog 30 #[.string ⟨([33] : Bs).toArray⟩, .int .u32 v16] w fun e w' => e = .returned (.int .u32 v15) ∧ w = w') ∧ (∀ w, Calls Try.prog 29 #[.string ⟨([94] : Bs).toArray⟩, .int .u32 x, .int .u32 y] w fun e w' => e = .returned (.int .u32 v17) ∧ w = w') ∧ (∀ w, Calls Try.prog 29 #[.string ⟨([124] : Bs).toArray⟩, .int .u32 x, .int .u32 y] w fun e w' => e = .returned (.int .u32 v18) ∧ w = w') ∧ (∀ w, Calls Try.prog 29 #[.string ⟨([38] : Bs).toArray⟩, .int .u32 x, .int .u32 y] w fun e w' => e = .returned (.int .u32 v19) ∧ w = w') ∧ (∀ w, Calls Try.prog 29 #[.string ⟨([43] : Bs).toArray⟩, .int .u32 v18, .int .u32 v19] w fun e w' => e = .returned (.int .u32 v21) ∧ w = w') ∧ (∀ w, Calls Try.prog 29 #[.string ⟨([43] : Bs).toArray⟩, .int .u32 x, .int .u32 y] w fun e w' => e = .returned (.int .u32 v21) ∧ w = w') ∧ (∀ w, Calls Try.prog 29 #[.string ⟨([62, 62] : Bs).toArray⟩, .int .u32 x, .int .u32 31] w fun e w' => e = .returned (.int .u32 v22) ∧ w = w') ∧ (∀ w, Calls Try.prog 29 #[.string ⟨([60] : Bs).toArray⟩, .int .u32 x, .int .u32 0] w fun e w' => e = .returned (.int .u32 v23) ∧ w = w') ∧ (∀ w, Calls Try.prog 29 #[.string ⟨([45] : Bs).toArray⟩, .int .u32 0, .int .u32 v23] w fun e w' => e = .returned (.int .u32 v22) ∧ w = w') ∧ (∀ w, Calls Try.prog 29 #[.string ⟨([45] : Bs).toArray⟩, .int .u32 v21, .int .u32 y] w fun e w' => e = .returned (.int .u32 x) ∧ w = w') ∧ (∀ w, Calls Try.prog 29 #[.string ⟨([42] : Bs).toArray⟩, .int .u32 x, .int .u32 y] w fun e w' => e = .returned (.int .u32 v26) ∧ w = w') ∧ (∀ w, Calls Try.prog 29 #[.string ⟨([42] : Bs).toArray⟩, .int .u32 y, .int .u32 x] w fun e w' => e = .returned (.int .u32 v26) ∧ w = w')))
  clear c0 c1 c2 c3 c4 c5 c6 c7 c8 c9 c10 c11 c12 c13 c14 c15 c16 c17 c18 c19 c20 c21 c22 c23 c24 c25 c26 c27 c28 c29 c30 c31 c32 c33 c34
  clear rx ry z0 z1 z31
  have E1 := Lib.hid e1; have E2 := Lib.hid e2; have E3 := Lib.hid e3; have E4 := Lib.hid e4; clear e1 e2 e3 e4
  have m1 : (q * y % 4294967296 + r) % 4294967296 = x := by rw [Int.emod_add_emod]; exact E1.out
  have m1' : (q * y + r) % 4294967296 = x := E1.out
  have m4 : v18 - v19 = v17 := E4.out
  have m4' : (v18 - v19) % 4294967296 = v17 := by rw [m4]; have := rv17; omega
  have m3 : ((v8 + v9) % 4294967296 + v10) % 4294967296 = 1 := by have := E3.out; have := rv8; have := rv9; have := rv10; omega
  have m3' : v8 + v9 + v10 = 1 := E3.out
  have m2 : (u2 + 1) % 4294967296 = u1 := E2.out
  clear hyy rq rr ru1 ru2 ru3 ru4 rv4 rv7 rv8 rv9 rv10 rv11 rv12 rv14 rv15 ru7 rv16 rv17 rv18 rv19 rv21 rv22 rv23 rv26
  clear E1 E2 E3 E4
  go_enter Try.func8, Try.ntmps8
  go_wp2_with fail
  refine (awake_any _).mono ?_
  rintro e w1 ⟨rfl, hb1⟩
  go_wp2_with fail
  refine (HC.out.1 _).mono ?_
  rintro e w' ⟨rfl, rfl⟩
  go_wp2_with fail
  refine (HC.out.2.1 _).mono ?_
  rintro e w' ⟨rfl, rfl⟩
  go_wp2_with fail
  refine (HC.out.2.2.1 _).mono ?_
  rintro e w' ⟨rfl, rfl⟩
  go_wp2_with fail
  refine (HC.out.2.2.2.1 _).mono ?_
  rintro e w' ⟨rfl, rfl⟩
  go_wp2_with fail
  refine (HC.out.2.2.2.2.1 _).mono ?_
  rintro e w' ⟨rfl, rfl⟩
  go_wp2_with fail
  refine (HC.out.2.2.2.2.2.1 _).mono ?_
  rintro e w' ⟨rfl, rfl⟩
  go_wp2_with fail
  refine (HC.out.2.2.2.2.2.2.1 _).mono ?_
  rintro e w' ⟨rfl, rfl⟩
  go_wp2_with fail
  refine (HC.out.2.2.2.2.2.2.2.1 _).mono ?_
  rintro e w' ⟨rfl, rfl⟩
  go_wp2_with fail
  refine (HC.out.2.2.2.2.2.2.2.2.1 _).mono ?_
  rintro e w' ⟨rfl, rfl⟩
  go_wp2_with fail
  refine (HC.out.2.2.2.2.2.2.2.2.2.1 _).mono ?_
  rintro e w' ⟨rfl, rfl⟩
  go_wp2_with fail
  refine (HC.out.2.2.2.2.2.2.2.2.2.2.1 _).mono ?_
  rintro e w' ⟨rfl, rfl⟩
  go_wp2_with fail
  refine (HC.out.2.2.2.2.2.2.2.2.2.2.2.1 _).mono ?_
  rintro e w' ⟨rfl, rfl⟩
  go_wp2_with fail
  refine (HC.out.2.2.2.2.2.2.2.2.2.2.2.2.1 _).mono ?_
  rintro e w' ⟨rfl, rfl⟩
  go_wp2_with fail
  refine (HC.out.2.2.2.2.2.2.2.2.2.2.2.2.2.1 _).mono ?_
  rintro e w' ⟨rfl, rfl⟩
  go_wp2_with fail
  refine (HC.out.2.2.2.2.2.2.2.2.2.2.2.2.2.2.1 _).mono ?_
  rintro e w' ⟨rfl, rfl⟩
  go_wp2_with fail
  refine (HC.out.2.2.2.2.2.2.2.2.2.2.2.2.2.1 _).mono ?_
  rintro e w' ⟨rfl, rfl⟩
  go_wp2_with fail
  refine (HC.out.2.2.2.2.2.2.2.2.2.2.2.2.2.2.2.1 _).mono ?_
  rintro e w' ⟨rfl, rfl⟩
  go_wp2_with fail
  refine (HC.out.2.2.2.2.2.2.2.2.2.2.2.2.2.2.2.2.1 _).mono ?_
  rintro e w' ⟨rfl, rfl⟩
  go_wp2_with fail
  refine (HC.out.2.2.2.2.2.2.2.2.2.2.2.2.2.2.2.2.2.1 _).mono ?_
  rintro e w' ⟨rfl, rfl⟩
  go_wp2_with fail
  refine (HC.out.2.2.2.2.2.2.2.2.2.2.2.2.2.2.2.2.2.2.1 _).mono ?_
  rintro e w' ⟨rfl, rfl⟩
  go_wp2_with fail
  refine (HC.out.2.2.2.2.2.2.2.2.2.2.2.2.1 _).mono ?_
  rintro e w' ⟨rfl, rfl⟩
  go_wp2_with fail
  refine (HC.out.2.2.2.2.2.2.2.2.2.2.2.2.2.2.2.2.2.2.2.1 _).mono ?_
  rintro e w' ⟨rfl, rfl⟩
  go_wp2_with fail
  refine (HC.out.2.2.2.2.2.2.2.2.2.2.2.2.2.2.2.2.2.2.2.2.1 _).mono ?_
  rintro e w' ⟨rfl, rfl⟩
  go_wp2_with fail
  refine (HC.out.2.2.2.2.1 _).mono ?_
  rintro e w' ⟨rfl, rfl⟩
  go_wp2_with fail
  refine (HC.out.2.2.2.2.2.2.2.2.2.2.2.2.2.2.2.2.2.2.2.2.2.1 _).mono ?_
  rintro e w' ⟨rfl, rfl⟩
  go_wp2_with fail
  refine (HC.out.2.2.2.2.2.2.2.2.2.2.2.2.2.2.2.2.2.2.2.2.2.2.1 _).mono ?_
  rintro e w' ⟨rfl, rfl⟩
  go_wp2_with fail
  refine (HC.out.2.2.2.2.2.2.2.2.2.2.2.2.2.2.2.2.2.2.2.2.2.2.2.1 _).mono ?_
  rintro e w' ⟨rfl, rfl⟩
  go_wp2_with fail
  refine (HC.out.2.2.2.2.2.2.2.2.2.2.2.2.2.2.2.2.2.2.2.2.2.2.2.2.1 _).mono ?_
  rintro e w' ⟨rfl, rfl⟩
  go_wp2_with fail
  refine (HC.out.2.2.2.2.2.2.2.2.2.2.2.2.2.2.2.2.2.2.2.2.2.2.2.2.2.1 _).mono ?_
  rintro e w' ⟨rfl, rfl⟩
  go_wp2_with fail
  refine (HC.out.2.2.2.2.2.2.2.2.2.2.2.2.2.2.2.2.2.2.2.2.2.2.2.2.2.2.1 _).mono ?_
  rintro e w' ⟨rfl, rfl⟩
  go_wp2_with fail
  refine (HC.out.2.2.2.2.2.2.2.2.2.2.2.2.2.2.2.2.2.2.2.2.2.2.2.2.2.1 _).mono ?_
  rintro e w' ⟨rfl, rfl⟩
  go_wp2_with fail
  refine (HC.out.2.2.2.2.2.2.2.2.2.2.2.2.2.2.2.2.2.2.2.2.2.2.2.2.2.2.1 _).mono ?_
  rintro e w' ⟨rfl, rfl⟩
  go_wp2_with fail
  refine (HC.out.2.2.2.2.2.2.2.2.2.2.2.2.2.2.2.2.2.2.2.2.2.2.2.2.2.2.2.1 _).mono ?_
  rintro e w' ⟨rfl, rfl⟩
  go_wp2_with fail
  refine (HC.out.2.2.2.2.2.2.2.2.2.2.2.2.2.2.2.2.2.2.2.2.2.2.2.2.2.2.2.2.1 _).mono ?_
  rintro e w' ⟨rfl, rfl⟩
  go_wp2_with fail
  refine (HC.out.2.2.2.2.2.2.2.2.2.2.2.2.2.2.2.2.2.2.2.2.2.2.2.2.2.2.2.2.2.1 _).mono ?_
  rintro e w' ⟨rfl, rfl⟩
  go_wp2_with fail
  refine (HC.out.2.2.2.2.2.2.2.2.2.2.2.2.2.2.2.2.2.2.2.2.2.2.2.2.2.2.2.2.2.2.1 _).mono ?_
  rintro e w' ⟨rfl, rfl⟩
  go_wp2_with fail
  refine (HC.out.2.2.2.2.2.2.2.2.2.2.2.2.2.2.2.2.2.2.2.2.2.2.2.2.2.2.2.2.2.2.2.1 _).mono ?_
  rintro e w' ⟨rfl, rfl⟩
  go_wp2_with fail
  refine (HC.out.2.2.2.2.2.2.2.2.2.2.2.2.2.2.2.2.2.2.2.2.2.2.2.2.2.2.2.2.1 _).mono ?_
  rintro e w' ⟨rfl, rfl⟩
  go_wp2_with fail
  refine (HC.out.2.2.2.2.2.2.2.2.2.2.2.2.2.2.2.2.2.2.2.2.2.2.2.2.2.2.2.2.2.2.2.2.1 _).mono ?_
  rintro e w' ⟨rfl, rfl⟩
  go_wp2_with fail
  refine (HC.out.2.2.2.2.2.2.2.2.2.2.2.2.2.2.2.2.2.2.2.2.2.2.2.2.2.2.2.2.2.2.2.2.2.1 _).mono ?_
  rintro e w' ⟨rfl, rfl⟩
  go_wp2_with fail
  refine (HC.out.2.2.2.2.2.2.2.2.2.2.2.2.2.2.2.2.2.2.2.2.2.2.2.2.2.2.2.2.2.2.2.2.2.2 _).mono ?_
  rintro e w' ⟨rfl, rfl⟩
  go_wp2
  go_ret
  exact ⟨rfl, hb1⟩
end Go.Proofs.Ytchdpjgncojhaaa
