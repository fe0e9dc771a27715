/- A part of the proofs of the laws of one package; see the law's own text, which comes last in 'order'. No conditions of its own. -/
import Derived.Test.YtpeamehplhpcjaaGreatDoorWC03
import Derived.Test.YtpeamehplhpcjaaGreatDoorWC31
import Derived.Test.YtpeamehplhpcjaaGreatDoorWC33
set_option linter.unusedVariables false
set_option linter.unusedSimpArgs false
namespace Go.Proofs.YtpeamehplhpcjaaGreatDoor
def awL1 : Bs := [101, 120, 112, 111, 114, 116, 32, 102, 110, 32, 97, 100, 100, 32, 120, 32, 121, 32, 49]
def awL2 : Bs := [102, 110, 32, 97, 100, 100, 32, 48, 49]
def awL3 : Bs := [102, 110, 32, 108, 101, 116, 32, 49]
def awL4 : Bs := [102, 110, 32, 102, 32, 97, 32, 97, 32, 49]
def awApp : Bs := [97, 112, 112]
def awR1 : Bs := [108, 105, 98, 47, 120, 46, 115, 114, 99]
def awR2 : Bs := [64, 98, 97, 115, 101, 47, 121, 46, 115, 114, 99]
def awQ1 : Bs := [97, 112, 112, 47, 108, 105, 98, 47, 120, 46, 115, 114, 99]
def awQ2 : Bs := [98, 97, 115, 101, 47, 121, 46, 115, 114, 99]
def awP : Bs := [97, 112, 112, 47, 109, 46, 115, 114, 99]
def awD : Bs := [110, 111, 116, 101, 32, 49, 10, 97, 110, 121, 116, 104, 105, 110, 103, 10, 119, 104, 101, 110, 32, 98, 105, 103, 32, 49, 10, 101, 120, 116, 101, 114, 110, 32, 102, 10, 100, 97, 116, 97, 32, 100, 32, 49, 10, 49, 44, 50, 10]
def awT : List Fil := [⟨awP, awD⟩]
def awH : List Spn := [⟨awP, 0, 1⟩, ⟨awP, 2, 3⟩, ⟨awP, 4, 5⟩, ⟨awP, 6, 7⟩]
def awU : Unt := ⟨awP, [], [], [⟨[100], 2, 0, [], ⟨awP, 5, 6⟩⟩], awH, [awP]⟩
theorem aw1 : parseH awL1 = (⟨8, 1, [97, 100, 100], [[120], [121]], 1⟩, 0) := by decide +kernel
theorem aw2 : (parseH awL2).2 = 4 := by decide +kernel
theorem aw3 : (parseH awL3).2 = 2 := by decide +kernel
theorem aw4 : (parseH awL4).2 = 6 := by decide +kernel
theorem aw5 : refS awApp awR1 = (awQ1, 0) := by decide +kernel
theorem aw6 : refS awApp awR2 = (awQ2, 0) := by decide +kernel
theorem aw7 : scanS awT awP [] = (awU, flt0) := by decide +kernel
theorem aw8 : (findI awU [100]).2 = true := by decide +kernel
end Go.Proofs.YtpeamehplhpcjaaGreatDoor
namespace Go.Proofs.YtpeamehplhpcjaaGreatDoor
open Go.RowKit
theorem equalS_any (A : Option Addr) (n c : Nat) (xs : List Bs) (B : Option Addr) (m d : Nat) (ys : List Bs) (w : World) (S T : Nat → Prop) (hx : Sl w S A n c xs) (hy : Sl w T B m d ys) :
    Calls Tryz.prog 37 #[.slice A n c, .slice B m d] w fun e w' => e = .returned (.bool (xs == ys)) ∧ Below w.heap.size w w' := by
  have hn := hx.len; have hm := hy.len
  have hle := hx.le; have hle2 := hy.le
  by_cases hnm : n = m
  · subst hnm
    by_cases h0 : n = 0
    · subst h0
      have e1 : xs = [] := List.eq_nil_of_length_eq_zero hn.symm
      have e2 : ys = [] := List.eq_nil_of_length_eq_zero hm.symm
      subst e1 e2
      refine (Tryz.slices_Equal_string_empty A B c 0 d w (by omega)).mono ?_
      rintro e w' ⟨rfl, rfl⟩
      exact ⟨rfl, Below.refl _ _⟩
    · obtain ⟨b1, o1, rfl, -, -, -⟩ := hx.str (k := 0) (by omega)
      obtain ⟨b2, o2, rfl, -, -, -⟩ := hy.str (k := 0) (by omega)
      have hc1 : ∀ (b o : Nat) (zs : List Bs) (S : Nat → Prop) (n c : Nat), Sl w S (some ⟨b, o, none⟩) n c zs → ∀ j, j < (zs.map fun t : Bs => ByteArray.mk t.toArray).length → w.cell? ⟨b, o + j, none⟩ = some (.string ((zs.map fun t : Bs => ByteArray.mk t.toArray).getD j ByteArray.empty)) := by
        intro b o zs S n c h j hj
        rw [List.length_map] at hj
        obtain ⟨b', o', hA, -, -, hc⟩ := h.str hj
        injection hA with hA
        injection hA with h1 h2
        subst h1 h2
        rw [hc, List.getD_eq_getElem?_getD, List.getElem?_map, List.getElem?_eq_getElem hj]
        rfl
      have h := Tryz.slices_Equal_string b1 o1 n c b2 o2 n d (xs.map fun t : Bs => ByteArray.mk t.toArray) (ys.map fun t : Bs => ByteArray.mk t.toArray) w (by rw [List.length_map]; omega) (by rw [List.length_map]; omega) hle hle2 (hc1 _ _ _ _ _ _ hx) (hc1 _ _ _ _ _ _ hy)
      refine h.mono ?_
      rintro e w' ⟨rfl, q, rfl⟩
      refine ⟨ret_bool ?_, dN (Below.refl _ _) q⟩
      have hi : ∀ l m : List Bs, l.map (fun t : Bs => ByteArray.mk t.toArray) = m.map (fun t : Bs => ByteArray.mk t.toArray) → l = m := by
        intro l
        induction l with
        | nil => intro m h; cases m with
          | nil => rfl
          | cons a r => cases h
        | cons a r ih => intro m h; cases m with
          | nil => cases h
          | cons b t =>
            simp only [List.map_cons, List.cons.injEq] at h
            obtain ⟨h1, h2⟩ := h
            injection h1 with h1
            have h1 : a = b := by simpa using congrArg Array.toList h1
            rw [h1, ih t h2]
      rw [List.take_of_length_le (by rw [List.length_map]; omega), List.take_of_length_le (by rw [List.length_map]; omega), Bool.eq_iff_iff, beq_iff_eq, decide_eq_true_iff]
      exact ⟨fun h => by rw [h], hi _ _⟩
  · have hne : (xs == ys) = false := by rw [beq_eq_false_iff_ne]; intro e; subst e; omega
    rw [hne]
    refine (Tryz.slices_Equal_string_lens A B n c m d w hnm).mono ?_
    rintro e w' ⟨rfl, rfl⟩
    exact ⟨rfl, Below.refl _ _⟩
set_option maxHeartbeats 2000000 in
theorem equalP_any (A : Option Addr) (n c : Nat) (xs : List Spn) (B : Option Addr) (m d : Nat) (ys : List Spn) (w : World) (S T : Nat → Prop) (hx : Sl w S A n c xs) (hy : Sl w T B m d ys) :
    Calls Tryz.prog 38 #[.slice A n c, .slice B m d] w fun e w' => e = .returned (.bool (decide (xs = ys))) ∧ Below w.heap.size w w' := by
  have hn := hx.len; have hm := hy.len
  have hle := hx.le; have hle2 := hy.le
  subst hn hm
  rw [← sameL_eq]
  obtain ⟨R, hR⟩ : ∃ R, R = sameL xs ys := ⟨_, rfl⟩
  rw [← hR]
  by_cases hl : xs.length = ys.length
  · have HR0 : Hid (R = sameL (xs.drop 0) (ys.drop 0)) := hR
    have HX := Lib.hid hx; have HY := Lib.hid hy
    have HLN := Lib.hid hl
    have hlb : ((xs.length : Int) != (ys.length : Int)) = false := by simp [hl]
    clear hR hx hy
    go_enter Tryz.func38, Tryz.ntmps38
    go_wp2_with fail
    clear hlb hl
    go_loopw [13] (fun i wr => ∃ k : Nat, k ≤ xs.length ∧ i = .int .i64 k ∧ Below w.heap.size w wr ∧ Hid (R = sameL (xs.drop k) (ys.drop k))) (fun i _ => xs.length - (intOf i).toNat)
    case atStart => exact ⟨0, Nat.zero_le _, rfl, Below.refl _ _, HR0⟩
    case round =>
      obtain ⟨k, hk, rfl, hb, hf⟩ := hrel
      by_cases hlt : k < xs.length
      · have hlt2 : k < ys.length := by rw [← HLN.out]; exact hlt
        have hf2 := hf.out
        rw [drop_get hlt, drop_get hlt2, sameL] at hf2
        obtain ⟨b1, o1, rfl, -, -, g0, g1, g2⟩ := (HX.out.below hb).spn hlt
        obtain ⟨b2, o2, rfl, -, -, h0, h1, h2⟩ := (HY.out.below hb).spn hlt2
        generalize xs[k] = x at *
        generalize ys[k] = y at *
        obtain ⟨xp, xf, xt⟩ := x
        obtain ⟨yp, yf, yt⟩ := y
        simp only at g0 g1 g2 h0 h1 h2
        have HB := Lib.hid hb
        clear hf hb
        by_cases he : (⟨xp, xf, xt⟩ : Spn) = ⟨yp, yf, yt⟩
        · injection he with e1 e2 e3
          subst e1 e2 e3
          have HF : Hid (R = sameL (xs.drop (k + 1)) (ys.drop (k + 1))) := Lib.hid (by rw [hf2]; simp)
          clear hf2
          go_upto_region 6 with fail
          go_quiet (fail)
          clear g0 g1 g2 h0 h1 h2
          go_wp2_with fail
          go_roundw
          case rel => exact ⟨k + 1, by omega, by go_num, dN HB.out _, HF⟩
          case measure => simp [intOf]; omega
        · have hd : decide ((⟨xp, xf, xt⟩ : Spn) = ⟨yp, yf, yt⟩) = false := decide_eq_false he
          have HF := Lib.hid (show R = false by rw [hf2, hd]; rfl)
          have hd2 : ¬ ((!decide (xp = yp)) = false ∧ (!decide (xf = yf)) = false ∧ (!decide (xt = yt)) = false) := fun h => he (by simp at h; rw [h.1, h.2.1, h.2.2])
          clear hf2 he
          go_upto_region 6 with fail
          go_quiet (fail)
          clear g0 g1 g2 h0 h1 h2
          have HD2 := Lib.hid hd2
          clear hd2
          go_wp2_with fail
          all_goals first | (exfalso; exact HD2.out (by assumption)) | (go_ret; exact ⟨ret_bool HF.out, dN HB.out _⟩)
      · have hlt2 : ¬ k < ys.length := by rw [← HLN.out]; exact hlt
        have hR : R = true := by rw [hf.out, drop_end hlt, drop_end (by rw [← HLN.out]; exact hlt)]; rfl
        go_wp2_with fail
        go_ret
        exact ⟨ret_bool hR, hb⟩
  · have hR2 : R = false := by rw [hR, sameL_len hl]
    have hlb : ((xs.length : Int) != (ys.length : Int)) = true := by rw [bne_iff_ne]; omega
    clear hR
    go_enter Tryz.func38, Tryz.ntmps38
    go_wp2_with fail
    go_ret
    exact ⟨ret_bool hR2, Below.refl _ _⟩
theorem uFlt : Tryz.prog.underlying 40 = some (.struct (Tryz.prog.fieldsOf 40)) := by kernel_rfl
theorem pFlt : Tryz.prog.stoodInHeld 40 = false := by kernel_rfl
@[go_sem] theorem gFlt : Tryz.prog.eqGuardType Tryz.prog.depth 40 = false := by kernel_rfl
set_option maxHeartbeats 1000000 in
@[go_sem ↓] theorem eqlFlt (a0 a1 a2 : Int) (a3 : Bs) (a4 : Int) (b0 b1 b2 : Int) (b3 : Bs) (b4 : Int) (w : World) : (binOp .eql 40 (.agg #[.int .i64 a0, .int .i64 a1, .int .i64 a2, .string ⟨a3.toArray⟩, .int .i64 a4]) (.agg #[.int .i64 b0, .int .i64 b1, .int .i64 b2, .string ⟨b3.toArray⟩, .int .i64 b4])).run Tryz.prog w = .ok (.bool (decide ((⟨a0, a1, a2, ⟨a3, a4⟩⟩ : Flt) = ⟨b0, b1, b2, ⟨b3, b4⟩⟩))) w := by
  simp [run_eql_struct, run_equalIn_agg _ _ _ _ _ uFlt pFlt, run_equalIn_agg _ _ _ _ _ uLn pLn, go_sem, Tryz.underlying3, Tryz.underlying9, Tryz.underlying23]
  by_cases h0 : a0 = b0 <;> by_cases h1 : a1 = b1 <;> by_cases h2 : a2 = b2 <;> by_cases h3 : a3 = b3 <;> by_cases h4 : a4 = b4 <;> simp [h0, h1, h2, h3, h4]
theorem example_any (w : World) : Calls Tryz.prog 36 #[] w fun e w' => e = .returned (.slice (some ⟨w.heap.size, 0, none⟩) 1 1) ∧ Sl w' (fun k => w.heap.size ≤ k) (some ⟨w.heap.size, 0, none⟩) 1 1 awT ∧ Below w.heap.size w w' := by
  have hb := blkAt w (.cells #[.string ⟨awP.toArray⟩, .string ⟨awD.toArray⟩] 73) rfl
  go_enter Tryz.func36, Tryz.ntmps36
  go_wp2_with fail
  go_ret
  refine ⟨rfl, ⟨rfl, Nat.le_refl _, by decide, fun i hi => ⟨_, rfl, Nat.le_refl _, fun j => #[Value.string ⟨awP.toArray⟩, .string ⟨awD.toArray⟩].getD j undef, fun j hj => ?_, ?_⟩⟩, by ((repeat (first | (with_reducible exact Below.refl _ _) | (with_reducible refine belowA ?_ _) | (with_reducible refine belowD ?_) | (with_reducible refine belowS ?_ (Nat.le_refl _) _ _) | (with_reducible refine next ?_ (by assumption) (Nat.le_refl _)))); done)⟩
  · have hi : i < 1 := hi
    obtain rfl : i = 0 := by omega
    rw [add_plain]
    refine (cell_blk hb _).trans ?_
    have hj : j < 2 := hj
    rcases (by omega : j = 0 ∨ j = 1) with rfl | rfl <;> rfl
  · have hi : i < 1 := hi
    obtain rfl : i = 0 := by omega
    exact ⟨rfl, rfl⟩
end Go.Proofs.YtpeamehplhpcjaaGreatDoor
