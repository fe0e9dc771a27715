/- A part of the proofs of the laws of one package; see the law's own text, which comes last in 'order'. No conditions of its own. -/
import Derived.Test.YtpeamehplhpcjaaGreatDoorZ03
import Derived.Test.YtpeamehplhpcjaaGreatDoorZ23
import Derived.Test.YtpeamehplhpcjaaGreatDoorZ24
set_option linter.unusedVariables false
set_option linter.unusedSimpArgs false
namespace Go.Proofs.YtpeamehplhpcjaaGreatDoor
def awL1 : Bs := [101, 120, 112, 111, 114, 116, 32, 102, 110, 32, 97, 100, 100, 32, 120, 32, 121, 32, 49]
def awL2 : Bs := [102, 110, 32, 97, 100, 100, 32, 48, 49]
def awL3 : Bs := [102, 110, 32, 108, 101, 116, 32, 49]
def awL4 : Bs := [102, 110, 32, 102, 32, 97, 32, 97, 32, 49]
def awApp : Bs := [97, 112, 112]
def awR1 : Bs := [108, 105, 98, 47, 120, 46, 115, 114, 99]
def awR2 : Bs := [64, 98, 97, 115, 101, 47, 121, 46, 115, 114, 99]
def awQ1 : Bs := [97, 112, 112, 47, 108, 105, 98, 47, 120, 46, 115, 114, 99]
def awQ2 : Bs := [98, 97, 115, 101, 47, 121, 46, 115, 114, 99]
def awP : Bs := [97, 112, 112, 47, 109, 46, 115, 114, 99]
def awD : Bs := [110, 111, 116, 101, 32, 49, 10, 97, 110, 121, 116, 104, 105, 110, 103, 10, 119, 104, 101, 110, 32, 98, 105, 103, 32, 49, 10, 101, 120, 116, 101, 114, 110, 32, 102, 10, 100, 97, 116, 97, 32, 100, 32, 49, 10, 49, 44, 50, 10]
def awT : List Fil := [⟨awP, awD⟩]
def awH : List Spn := [⟨awP, 0, 1⟩, ⟨awP, 2, 3⟩, ⟨awP, 4, 5⟩, ⟨awP, 6, 7⟩]
def awU : Unt := ⟨awP, [], [], [⟨[100], 2, 0, [], ⟨awP, 5, 6⟩⟩], awH, [awP]⟩
theorem aw1 : parseH awL1 = (⟨8, 1, [97, 100, 100], [[120], [121]], 1⟩, 0) := by decide +kernel
theorem aw2 : (parseH awL2).2 = 4 := by decide +kernel
theorem aw3 : (parseH awL3).2 = 2 := by decide +kernel
theorem aw4 : (parseH awL4).2 = 6 := by decide +kernel
theorem aw5 : refS awApp awR1 = (awQ1, 0) := by decide +kernel
theorem aw6 : refS awApp awR2 = (awQ2, 0) := by decide +kernel
theorem aw7 : scanS awT awP [] = (awU, flt0) := by decide +kernel
theorem aw8 : (findI awU [100]).2 = true := by decide +kernel
end Go.Proofs.YtpeamehplhpcjaaGreatDoor
namespace Go.Proofs.YtpeamehplhpcjaaGreatDoor
open Go.RowKit
theorem equalS_any (A : Option Addr) (n c : Nat) (xs : List Bs) (B : Option Addr) (m d : Nat) (ys : List Bs) (w : World) (S T : Nat → Prop) (hx : Sl w S A n c xs) (hy : Sl w T B m d ys) :
    Calls Tryz.prog 37 #[.slice A n c, .slice B m d] w fun e w' => e = .returned (.bool (xs == ys)) ∧ Below w.heap.size w w' := by
  have hn := hx.len; have hm := hy.len
  have hle := hx.le; have hle2 := hy.le
  by_cases hnm : n = m
  · subst hnm
    by_cases h0 : n = 0
    · subst h0
      have e1 : xs = [] := List.eq_nil_of_length_eq_zero hn.symm
      have e2 : ys = [] := List.eq_nil_of_length_eq_zero hm.symm
      subst e1 e2
      refine (Tryz.slices_Equal_string_empty A B c 0 d w (by omega)).mono ?_
      rintro e w' ⟨rfl, rfl⟩
      exact ⟨rfl, Below.refl _ _⟩
    · obtain ⟨b1, o1, rfl, -, -, -⟩ := hx.str (k := 0) (by omega)
      obtain ⟨b2, o2, rfl, -, -, -⟩ := hy.str (k := 0) (by omega)
      have hc1 : ∀ (b o : Nat) (zs : List Bs) (S : Nat → Prop) (n c : Nat), Sl w S (some ⟨b, o, none⟩) n c zs → ∀ j, j < (zs.map fun t : Bs => ByteArray.mk t.toArray).length → w.cell? ⟨b, o + j, none⟩ = some (.string ((zs.map fun t : Bs => ByteArray.mk t.toArray).getD j ByteArray.empty)) := by
        intro b o zs S n c h j hj
        rw [List.length_map] at hj
        obtain ⟨b', o', hA, -, -, hc⟩ := h.str hj
        injection hA with hA
        injection hA with h1 h2
        subst h1 h2
        rw [hc, List.getD_eq_getElem?_getD, List.getElem?_map, List.getElem?_eq_getElem hj]
        rfl
      have h := Tryz.slices_Equal_string b1 o1 n c b2 o2 n d (xs.map fun t : Bs => ByteArray.mk t.toArray) (ys.map fun t : Bs => ByteArray.mk t.toArray) w (by rw [List.length_map]; omega) (by rw [List.length_map]; omega) hle hle2 (hc1 _ _ _ _ _ _ hx) (hc1 _ _ _ _ _ _ hy)
      refine h.mono ?_
      rintro e w' ⟨rfl, q, rfl⟩
      refine ⟨ret_bool ?_, dN (Below.refl _ _) q⟩
      have hi : ∀ l m : List Bs, l.map (fun t : Bs => ByteArray.mk t.toArray) = m.map (fun t : Bs => ByteArray.mk t.toArray) → l = m := by
        intro l
        induction l with
        | nil => intro m h; cases m with
          | nil => rfl
          | cons a r => cases h
        | cons a r ih => intro m h; cases m with
          | nil => cases h
          | cons b t =>
            simp only [List.map_cons, List.cons.injEq] at h
            obtain ⟨h1, h2⟩ := h
            injection h1 with h1
            have h1 : a = b := by simpa using congrArg Array.toList h1
            rw [h1, ih t h2]
      rw [List.take_of_length_le (by rw [List.length_map]; omega), List.take_of_length_le (by rw [List.length_map]; omega), Bool.eq_iff_iff, beq_iff_eq, decide_eq_true_iff]
      exact ⟨fun h => by rw [h], hi _ _⟩
  · have hne : (xs == ys) = false := by rw [beq_eq_false_iff_ne]; intro e; subst e; omega
    rw [hne]
    refine (Tryz.slices_Equal_string_lens A B n c m d w hnm).mono ?_
    rintro e w' ⟨rfl, rfl⟩
    exact ⟨rfl, Below.refl _ _⟩
set_option maxHeartbeats 2000000 in
theorem equalP_any (A : Option Addr) (n c : Nat) (xs : List Spn) (B : Option Addr) (m d : Nat) (ys : List Spn) (w : World) (S T : Nat → Prop) (hx : Sl w S A n c xs) (hy : Sl w T B m d ys) :
    Calls Tryz.prog 38 #[.slice A n c, .slice B m d] w fun e w' => e = .returned (.bool (decide (xs = ys))) ∧ Below w.heap.size w w' := by
  have hn := hx.len; have hm := hy.len
  have hle := hx.le; have hle2 := hy.le
  subst hn hm
  rw [← sameL_eq]
  obtain ⟨R, hR⟩ : ∃ R, R = sameL xs ys := ⟨_, rfl⟩
  rw [← hR]
  by_cases hl : xs.length = ys.length
  · have HR0 : Hid (R = sameL (xs.drop 0) (ys.drop 0)) := hR
    have HX := Lib.hid hx; have HY := Lib.hid hy
    have HLN := Lib.hid hl
    have hlb : ((xs.length : Int) != (ys.length : Int)) = false := by simp [hl]
    clear hR hx hy
    go_enter Tryz.func38, Tryz.ntmps38
    go_wp2_with fail
    clear hlb hl
    go_loopw [13] (fun i wr => ∃ k : Nat, k ≤ xs.length ∧ i = .int .i64 k ∧ Below w.heap.size w wr ∧ Hid (R = sameL (xs.drop k) (ys.drop k))) (fun i _ => xs.length - (intOf i).toNat)
    case atStart => exact ⟨0, Nat.zero_le _, rfl, Below.refl _ _, HR0⟩
    case round =>
      obtain ⟨k, hk, rfl, hb, hf⟩ := hrel
      by_cases hlt : k < xs.length
      · have hlt2 : k < ys.length := by rw [← HLN.out]; exact hlt
        have hf2 := hf.out
        rw [drop_get hlt, drop_get hlt2, sameL] at hf2
        obtain ⟨b1, o1, rfl, -, -, g0, g1, g2⟩ := (HX.out.below hb).spn hlt
        obtain ⟨b2, o2, rfl, -, -, h0, h1, h2⟩ := (HY.out.below hb).spn hlt2
        generalize xs[k] = x at *
        generalize ys[k] = y at *
        obtain ⟨xp, xf, xt⟩ := x
        obtain ⟨yp, yf, yt⟩ := y
        simp only at g0 g1 g2 h0 h1 h2
        have HB := Lib.hid hb
        clear hf hb
        by_cases he : (⟨xp, xf, xt⟩ : Spn) = ⟨yp, yf, yt⟩
        · injection he with e1 e2 e3
          subst e1 e2 e3
          have HF : Hid (R = sameL (xs.drop (k + 1)) (ys.drop (k + 1))) := Lib.hid (by rw [hf2]; simp)
          clear hf2
          go_upto_region 6 with fail
          go_quiet (fail)
          clear g0 g1 g2 h0 h1 h2
          go_wp2_with fail
          go_roundw
          case rel => exact ⟨k + 1, by omega, by go_num, dN HB.out _, HF⟩
          case measure => simp [intOf]; omega
        · have hd : decide ((⟨xp, xf, xt⟩ : Spn) = ⟨yp, yf, yt⟩) = false := decide_eq_false he
          have HF := Lib.hid (show R = false by rw [hf2, hd]; rfl)
          have hd2 : ¬ ((!decide (xp = yp)) = false ∧ (!decide (xf = yf)) = false ∧ (!decide (xt = yt)) = false) := fun h => he (by simp at h; rw [h.1, h.2.1, h.2.2])
          clear hf2 he
          go_upto_region 6 with fail
          go_quiet (fail)
          clear g0 g1 g2 h0 h1 h2
          have HD2 := Lib.hid hd2
          clear hd2
          go_wp2_with fail
          all_goals first | (exfalso; exact HD2.out (by assumption)) | (go_ret; exact ⟨ret_bool HF.out, dN HB.out _⟩)
      · have hlt2 : ¬ k < ys.length := by rw [← HLN.out]; exact hlt
        have hR : R = true := by rw [hf.out, drop_end hlt, drop_end (by rw [← HLN.out]; exact hlt)]; rfl
        go_wp2_with fail
        go_ret
        exact ⟨ret_bool hR, hb⟩
  · have hR2 : R = false := by rw [hR, sameL_len hl]
    have hlb : ((xs.length : Int) != (ys.length : Int)) = true := by rw [bne_iff_ne]; omega
    clear hR
    go_enter Tryz.func38, Tryz.ntmps38
    go_wp2_with fail
    go_ret
    exact ⟨ret_bool hR2, Below.refl _ _⟩
theorem uFlt : Tryz.prog.underlying 40 = some (.struct (Tryz.prog.fieldsOf 40)) := by kernel_rfl
theorem pFlt : Tryz.prog.stoodInHeld 40 = false := by kernel_rfl
@[go_sem] theorem gFlt : Tryz.prog.eqGuardType Tryz.prog.depth 40 = false := by kernel_rfl
set_option maxHeartbeats 1000000 in
@[go_sem ↓] theorem eqlFlt (a0 a1 a2 : Int) (a3 : Bs) (a4 : Int) (b0 b1 b2 : Int) (b3 : Bs) (b4 : Int) (w : World) : (binOp .eql 40 (.agg #[.int .i64 a0, .int .i64 a1, .int .i64 a2, .string ⟨a3.toArray⟩, .int .i64 a4]) (.agg #[.int .i64 b0, .int .i64 b1, .int .i64 b2, .string ⟨b3.toArray⟩, .int .i64 b4])).run Tryz.prog w = .ok (.bool (decide ((⟨a0, a1, a2, ⟨a3, a4⟩⟩ : Flt) = ⟨b0, b1, b2, ⟨b3, b4⟩⟩))) w := by
  simp [run_eql_struct, run_equalIn_agg _ _ _ _ _ uFlt pFlt, run_equalIn_agg _ _ _ _ _ uLn pLn, go_sem, Tryz.underlying3, Tryz.underlying9, Tryz.underlying23]
  by_cases h0 : a0 = b0 <;> by_cases h1 : a1 = b1 <;> by_cases h2 : a2 = b2 <;> by_cases h3 : a3 = b3 <;> by_cases h4 : a4 = b4 <;> simp [h0, h1, h2, h3, h4]
theorem example_any (w : World) : Calls Tryz.prog 36 #[] w fun e w' => e = .returned (.slice (some ⟨w.heap.size, 0, none⟩) 1 1) ∧ Sl w' (fun k => w.heap.size ≤ k) (some ⟨w.heap.size, 0, none⟩) 1 1 awT ∧ Below w.heap.size w w' := by
  have hb := blkAt w (.cells #[.string ⟨awP.toArray⟩, .string ⟨awD.toArray⟩] 73) rfl
  go_enter Tryz.func36, Tryz.ntmps36
  go_wp2_with fail
  go_ret
  refine ⟨rfl, ⟨rfl, Nat.le_refl _, by decide, fun i hi => ⟨_, rfl, Nat.le_refl _, fun j => #[Value.string ⟨awP.toArray⟩, .string ⟨awD.toArray⟩].getD j undef, fun j hj => ?_, ?_⟩⟩, by ((repeat (first | (with_reducible exact Below.refl _ _) | (with_reducible refine belowA ?_ _) | (with_reducible refine belowD ?_) | (with_reducible refine belowS ?_ (Nat.le_refl _) _ _) | (with_reducible refine next ?_ (by assumption) (Nat.le_refl _)))); done)⟩
  · have hi : i < 1 := hi
    obtain rfl : i = 0 := by omega
    rw [add_plain]
    refine (cell_blk hb _).trans ?_
    have hj : j < 2 := hj
    rcases (by omega : j = 0 ∨ j = 1) with rfl | rfl <;> rfl
  · have hi : i < 1 := hi
    obtain rfl : i = 0 := by omega
    exact ⟨rfl, rfl⟩
end Go.Proofs.YtpeamehplhpcjaaGreatDoor
namespace Go.Proofs.YtpeamehplhpcjaaGreatDoor
open Go.RowKit
theorem vunt_heads {w : World} {v : Value} {u : Unt} (h : VUnt w v u) : ∃ A1 n1 c1 A2 n2 c2 A3 n3 c3 A4 n4 c4 A5 n5 c5, v = .agg #[.string ⟨u.path.toArray⟩, .slice A1 n1 c1, .slice A2 n2 c2, .slice A3 n3 c3, .slice A4 n4 c4, .slice A5 n5 c5] ∧ n3 = u.items.length ∧ Sl w (fun _ => True) A4 n4 c4 u.heads := by
  obtain ⟨A1, n1, c1, A2, n2, c2, A3, n3, c3, A4, n4, c4, A5, n5, c5, e, h1, h2, h3, h4, h5⟩ := h
  exact ⟨A1, n1, c1, A2, n2, c2, A3, n3, c3, A4, n4, c4, A5, n5, c5, e, h3.len, h4⟩
theorem sl_two {w : World} {b : Nat} (hb : w.heap[b]? = some (.cells #[.string ⟨#[120]⟩, .string ⟨#[121]⟩] 9 (0, 0))) : Sl w (fun _ => True) (some ⟨b, 0, none⟩) 2 2 ([[120], [121]] : List Bs) := by
  refine ⟨rfl, Nat.le_refl _, by decide, fun i hi => ?_⟩
  have hi : i < 2 := hi
  rcases (by omega : i = 0 ∨ i = 1) with rfl | rfl
  · refine ⟨_, rfl, trivial, fun j => #[Value.string ⟨#[120]⟩, .string ⟨#[121]⟩].getD (0 + j) undef, fun j hj => ?_, rfl⟩
    have hj : j < 1 := hj
    obtain rfl : j = 0 := by omega
    rw [add_plain]
    exact (cell_blk hb _).trans rfl
  · refine ⟨_, rfl, trivial, fun j => #[Value.string ⟨#[120]⟩, .string ⟨#[121]⟩].getD (1 + j) undef, fun j hj => ?_, rfl⟩
    have hj : j < 1 := hj
    obtain rfl : j = 0 := by omega
    rw [add_plain]
    exact (cell_blk hb _).trans rfl
def awBlk : Array Value := #[.string ⟨awP.toArray⟩, .int .i64 0, .int .i64 1, .string ⟨awP.toArray⟩, .int .i64 2, .int .i64 3, .string ⟨awP.toArray⟩, .int .i64 4, .int .i64 5, .string ⟨awP.toArray⟩, .int .i64 6, .int .i64 7]
theorem sl_four {w : World} {b : Nat} (hb : w.heap[b]? = some (.cells awBlk 46 (0, 0))) : Sl w (fun _ => True) (some ⟨b, 0, none⟩) 4 4 awH := by
  refine ⟨rfl, Nat.le_refl _, by decide, fun i hi => ?_⟩
  have hi : i < 4 := hi
  rcases (by omega : i = 0 ∨ i = 1 ∨ i = 2 ∨ i = 3) with rfl | rfl | rfl | rfl
  · refine ⟨_, rfl, trivial, fun j => awBlk.getD (0 + j) undef, fun j hj => ?_, ⟨rfl, rfl, rfl⟩⟩
    have hj : j < 3 := hj
    rw [add_plain]
    refine (cell_blk hb _).trans ?_
    rcases (by omega : j = 0 ∨ j = 1 ∨ j = 2) with rfl | rfl | rfl <;> rfl
  · refine ⟨_, rfl, trivial, fun j => awBlk.getD (3 + j) undef, fun j hj => ?_, ⟨rfl, rfl, rfl⟩⟩
    have hj : j < 3 := hj
    rw [add_plain]
    refine (cell_blk hb _).trans ?_
    rcases (by omega : j = 0 ∨ j = 1 ∨ j = 2) with rfl | rfl | rfl <;> rfl
  · refine ⟨_, rfl, trivial, fun j => awBlk.getD (6 + j) undef, fun j hj => ?_, ⟨rfl, rfl, rfl⟩⟩
    have hj : j < 3 := hj
    rw [add_plain]
    refine (cell_blk hb _).trans ?_
    rcases (by omega : j = 0 ∨ j = 1 ∨ j = 2) with rfl | rfl | rfl <;> rfl
  · refine ⟨_, rfl, trivial, fun j => awBlk.getD (9 + j) undef, fun j hj => ?_, ⟨rfl, rfl, rfl⟩⟩
    have hj : j < 3 := hj
    rw [add_plain]
    refine (cell_blk hb _).trans ?_
    rcases (by omega : j = 0 ∨ j = 1 ∨ j = 2) with rfl | rfl | rfl <;> rfl
set_option maxRecDepth 100000 in
set_option maxHeartbeats 8000000 in
theorem awake_any (w : World) (hL : LS w) : Calls Tryz.prog 9 #[] w fun e w' => e = .returned (.bool true) ∧ Below w.heap.size w w' := by
  have hp1 := fun w' h => parse_any awL1 w' h (by decide)
  have hp2 := fun w' h => parse_any awL2 w' h (by decide)
  have hp3 := fun w' h => parse_any awL3 w' h (by decide)
  have hp4 := fun w' h => parse_any awL4 w' h (by decide)
  have hr1 := fun w' h => ref_any awApp awR1 w' h (by decide) (by decide)
  have hr2 := fun w' h => ref_any awApp awR2 w' h (by decide) (by decide)
  simp only [aw1] at hp1
  simp only [aw2] at hp2
  simp only [aw3] at hp3
  simp only [aw4] at hp4
  simp only [aw5] at hr1
  simp only [aw6] at hr2
  have hsc := fun (w' : World) (S : Nat → Prop) b h1 h2 => scan_any (some ⟨b, 0, none⟩) 1 1 none 0 0 w' S (fun _ => True) awT awP [] h1 (Sl.nil _ _ _ _ (by decide)) h2 (by decide) (fun _ => by decide) (by decide) (by decide)
  simp only [aw7] at hsc
  have HP1 := Lib.hid hp1; have HP2 := Lib.hid hp2; have HP3 := Lib.hid hp3; have HP4 := Lib.hid hp4; have HR1 := Lib.hid hr1; have HR2 := Lib.hid hr2; have HSC := Lib.hid hsc; have HL := Lib.hid hL
  clear hp1 hp2 hp3 hp4 hr1 hr2 hsc hL
  go_enter Tryz.func9, Tryz.ntmps9
  have HB0 := Lib.hid (Below.refl w.heap.size w)
  go_wp2_with fail
  refine (HP1.out w (HL.out.below HB0.out)).mono ?_
  rintro e y1 ⟨v, rfl, ⟨A1, n1, c1, rfl, hs⟩, hb⟩
  simp only at hs
  have HY1 := Lib.hid (HB0.out.trans (hb.mono HB0.out.size))
  have HS1 := Lib.hid hs
  clear hs hb
  go_upto_region 2 with fail
  have hbx : Below y1.heap.size y1 (y1.alloc (.cells #[.int .i64 8, .int .i64 1, .string ⟨#[97, 100, 100]⟩, .slice A1 n1 c1, .int .i64 1] 79)) := boxed
  have hh := blkAt y1 (.cells #[.int .i64 8, .int .i64 1, .string ⟨#[97, 100, 100]⟩, .slice A1 n1 c1, .int .i64 1] 79) rfl
  have hs1 := HS1.out.below hbx
  generalize (y1.alloc (.cells #[.int .i64 8, .int .i64 1, .string ⟨#[97, 100, 100]⟩, .slice A1 n1 c1, .int .i64 1] 79)) = x1 at *
  have HB1 := Lib.hid (HY1.out.trans (hbx.mono HY1.out.size)); have HH := Lib.hid hh; have HS1 := Lib.hid hs1
  clear hbx hh hs1 HP1
  go_wp2_with fail
  refine (HP2.out x1 (HL.out.below HB1.out)).mono ?_
  rintro e y2 ⟨v, rfl, ⟨A2, n2, c2, rfl, hs⟩, hb⟩
  have HY2 := Lib.hid (HB1.out.trans (hb.mono HB1.out.size))
  have HH := Lib.hid (keptBlk hb HH.out); have HS1 := Lib.hid (HS1.out.below hb)
  clear hs hb
  go_upto_region 3 with fail
  have hbx : Below y2.heap.size y2 (y2.alloc (.cells #[.int .i64 (parseH awL2).1.word, .int .i64 (parseH awL2).1.mode, .string ⟨(parseH awL2).1.name.toArray⟩, .slice A2 n2 c2, .int .i64 (parseH awL2).1.n] 79)) := boxed
  have hh := keptBlk hbx HH.out
  have hs1 := HS1.out.below hbx
  generalize (y2.alloc (.cells #[.int .i64 (parseH awL2).1.word, .int .i64 (parseH awL2).1.mode, .string ⟨(parseH awL2).1.name.toArray⟩, .slice A2 n2 c2, .int .i64 (parseH awL2).1.n] 79)) = x2 at *
  have HB2 := Lib.hid (HY2.out.trans (hbx.mono HY2.out.size)); have HH := Lib.hid hh; have HS1 := Lib.hid hs1
  clear hbx hh hs1 HP2
  go_wp2_with fail
  refine (HP3.out x2 (HL.out.below HB2.out)).mono ?_
  rintro e y3 ⟨v, rfl, ⟨A3, n3, c3, rfl, hs⟩, hb⟩
  have HY3 := Lib.hid (HB2.out.trans (hb.mono HB2.out.size))
  have HH := Lib.hid (keptBlk hb HH.out); have HS1 := Lib.hid (HS1.out.below hb)
  clear hs hb
  go_upto_region 4 with fail
  have hbx : Below y3.heap.size y3 (y3.alloc (.cells #[.int .i64 (parseH awL3).1.word, .int .i64 (parseH awL3).1.mode, .string ⟨(parseH awL3).1.name.toArray⟩, .slice A3 n3 c3, .int .i64 (parseH awL3).1.n] 79)) := boxed
  have hh := keptBlk hbx HH.out
  have hs1 := HS1.out.below hbx
  generalize (y3.alloc (.cells #[.int .i64 (parseH awL3).1.word, .int .i64 (parseH awL3).1.mode, .string ⟨(parseH awL3).1.name.toArray⟩, .slice A3 n3 c3, .int .i64 (parseH awL3).1.n] 79)) = x3 at *
  have HB3 := Lib.hid (HY3.out.trans (hbx.mono HY3.out.size)); have HH := Lib.hid hh; have HS1 := Lib.hid hs1
  clear hbx hh hs1 HP3
  go_wp2_with fail
  refine (HP4.out x3 (HL.out.below HB3.out)).mono ?_
  rintro e y4 ⟨v, rfl, ⟨A4, n4, c4, rfl, hs⟩, hb⟩
  have HY4 := Lib.hid (HB3.out.trans (hb.mono HB3.out.size))
  have HH := Lib.hid (keptBlk hb HH.out); have HS1 := Lib.hid (HS1.out.below hb)
  clear hs hb
  go_upto_region 5 with fail
  have hbx : Below y4.heap.size y4 (y4.alloc (.cells #[.int .i64 (parseH awL4).1.word, .int .i64 (parseH awL4).1.mode, .string ⟨(parseH awL4).1.name.toArray⟩, .slice A4 n4 c4, .int .i64 (parseH awL4).1.n] 79)) := boxed
  have hh := keptBlk hbx HH.out
  have hs1 := HS1.out.below hbx
  generalize (y4.alloc (.cells #[.int .i64 (parseH awL4).1.word, .int .i64 (parseH awL4).1.mode, .string ⟨(parseH awL4).1.name.toArray⟩, .slice A4 n4 c4, .int .i64 (parseH awL4).1.n] 79)) = x4 at *
  have HB4 := Lib.hid (HY4.out.trans (hbx.mono HY4.out.size)); have HH := Lib.hid hh; have HS1 := Lib.hid hs1
  clear hbx hh hs1 HP4
  go_wp2_with fail
  refine (HR1.out x4 (HL.out.below HB4.out)).mono ?_
  rintro e x5 ⟨rfl, hb⟩
  have HB5 := Lib.hid (HB4.out.trans (hb.mono HB4.out.size)); have HH := Lib.hid (keptBlk hb HH.out); have HS1 := Lib.hid (HS1.out.below hb)
  clear hb HR1
  go_wp2_with fail
  refine (HR2.out x5 (HL.out.below HB5.out)).mono ?_
  rintro e x6 ⟨rfl, hb⟩
  have HB6 := Lib.hid (HB5.out.trans (hb.mono HB5.out.size)); have HH := Lib.hid (keptBlk hb HH.out); have HS1 := Lib.hid (HS1.out.below hb)
  clear hb HR2
  go_wp2_with fail
  refine (example_any x6).mono ?_
  rintro e x7 ⟨rfl, hsx, hb⟩
  have HB7 := Lib.hid (HB6.out.trans (hb.mono HB6.out.size)); have HH := Lib.hid (keptBlk hb HH.out); have HS1 := Lib.hid (HS1.out.below hb)
  have HSX := Lib.hid hsx
  clear hb hsx
  go_wp2_with fail
  refine (HSC.out x7 _ x6.heap.size HSX.out (HL.out.below HB7.out)).mono ?_
  rintro e x8 ⟨v, rfl, hvu, hb⟩
  simp only at hvu
  have HB8 := Lib.hid (HB7.out.trans (hb.mono HB7.out.size)); have HH := Lib.hid (keptBlk hb HH.out); have HS1 := Lib.hid (HS1.out.below hb)
  have hfi := fun w' h => find_any awU v w' h [100] (by decide)
  obtain ⟨A1', n1', c1', A2', n2', c2', A3', n3', c3', A4', n4', c4', A5', n5', c5', rfl, hn3, hh4⟩ := vunt_heads hvu
  have HVU := Lib.hid hvu; have HFI := Lib.hid hfi; have HH4 := Lib.hid hh4; have HN3 := Lib.hid hn3
  rw [show vFlt flt0 = .agg #[.int .i64 0, .int .i64 0, .int .i64 0, .string ⟨#[]⟩, .int .i64 0] from rfl]
  clear hb hvu hfi hh4 hn3 HSC HSX
  go_upto_region 8 with fail
  have hbx : Below x8.heap.size x8 ((x8.alloc (.cells #[.string ⟨awU.path.toArray⟩, .slice A1' n1' c1', .slice A2' n2' c2', .slice A3' n3' c3', .slice A4' n4' c4', .slice A5' n5' c5'] 36)).alloc (.cells #[.int .i64 0, .int .i64 0, .int .i64 0, .string ⟨#[]⟩, .int .i64 0] 40)) := by ((repeat (first | (with_reducible exact Below.refl _ _) | (with_reducible refine belowA ?_ _) | (with_reducible refine belowD ?_) | (with_reducible refine belowS ?_ (Nat.le_refl _) _ _) | (with_reducible refine next ?_ (by assumption) (Nat.le_refl _)))); done)
  have hu : ((x8.alloc (.cells #[.string ⟨awU.path.toArray⟩, .slice A1' n1' c1', .slice A2' n2' c2', .slice A3' n3' c3', .slice A4' n4' c4', .slice A5' n5' c5'] 36)).alloc (.cells #[.int .i64 0, .int .i64 0, .int .i64 0, .string ⟨#[]⟩, .int .i64 0] 40)).heap[x8.heap.size]? = some (.cells #[.string ⟨awU.path.toArray⟩, .slice A1' n1' c1', .slice A2' n2' c2', .slice A3' n3' c3', .slice A4' n4' c4', .slice A5' n5' c5'] 36 (0, 0)) := by ((repeat (first | (with_reducible assumption) | ((with_reducible refine blkAt2 ?_ ?_); (focus (simp; done)); rfl) | (with_reducible refine blkOld ?_ _) | (with_reducible refine keptBlk (by assumption) ?_) | (with_reducible refine grownBlk (by assumption) ?_ (by simp; omega)) | (with_reducible refine blkDrw ?_))); done)
  have hf : ((x8.alloc (.cells #[.string ⟨awU.path.toArray⟩, .slice A1' n1' c1', .slice A2' n2' c2', .slice A3' n3' c3', .slice A4' n4' c4', .slice A5' n5' c5'] 36)).alloc (.cells #[.int .i64 0, .int .i64 0, .int .i64 0, .string ⟨#[]⟩, .int .i64 0] 40)).heap[x8.heap.size + 1]? = some (.cells #[.int .i64 0, .int .i64 0, .int .i64 0, .string ⟨#[]⟩, .int .i64 0] 40 (0, 0)) := by ((repeat (first | (with_reducible assumption) | ((with_reducible refine blkAt2 ?_ ?_); (focus (simp; done)); rfl) | (with_reducible refine blkOld ?_ _) | (with_reducible refine keptBlk (by assumption) ?_) | (with_reducible refine grownBlk (by assumption) ?_ (by simp; omega)) | (with_reducible refine blkDrw ?_))); done)
  have hh := keptBlk hbx HH.out
  have hvu := HVU.out.below hbx
  have hs1 := HS1.out.below hbx
  have hh4 := HH4.out.below hbx
  generalize ((x8.alloc (.cells #[.string ⟨awU.path.toArray⟩, .slice A1' n1' c1', .slice A2' n2' c2', .slice A3' n3' c3', .slice A4' n4' c4', .slice A5' n5' c5'] 36)).alloc (.cells #[.int .i64 0, .int .i64 0, .int .i64 0, .string ⟨#[]⟩, .int .i64 0] 40)) = x9 at *
  have HB9 := Lib.hid (HB8.out.trans (hbx.mono HB8.out.size))
  have u0 := (cell_blk hu 0).trans rfl
  have u1 := (cell_blk hu 1).trans rfl
  have u2 := (cell_blk hu 2).trans rfl
  have u3 := (cell_blk hu 3).trans rfl
  have u4 := (cell_blk hu 4).trans rfl
  have u5 := (cell_blk hu 5).trans rfl
  have HU := Lib.hid hu; have HF := Lib.hid hf; have HH := Lib.hid hh; have HS1 := Lib.hid hs1; have HH4 := Lib.hid hh4
  have hf9 := HFI.out x9 hvu
  rw [aw8] at hf9
  have HF9 := Lib.hid hf9
  clear hbx hu hf hh hvu hs1 hh4 hf9 HVU HFI
  go_wp2_with fail
  refine HF9.out.mono ?_
  rintro e x10 ⟨v', rfl, ⟨Ai, ni, ci, rfl, -⟩, hb⟩
  have HB10 := Lib.hid (HB9.out.trans (hb.mono HB9.out.size)); have HU := Lib.hid (keptBlk hb HU.out); have HF := Lib.hid (keptBlk hb HF.out); have HH := Lib.hid (keptBlk hb HH.out); have HS1 := Lib.hid (HS1.out.below hb); have HH4 := Lib.hid (HH4.out.below hb)
  clear hb HF9 u0 u1 u2 u3 u4 u5
  go_upto_region 9 with fail
  have hbx : Below x10.heap.size x10 (x10.alloc (.cells #[.string ⟨(findI awU [100]).1.name.toArray⟩, .int .i64 (findI awU [100]).1.kind, .int .i64 (findI awU [100]).1.mode, .slice Ai ni ci, .string ⟨(findI awU [100]).1.body.path.toArray⟩, .int .i64 (findI awU [100]).1.body.fr, .int .i64 (findI awU [100]).1.body.tu] 48)) := boxed
  have hh := keptBlk hbx HH.out
  have hu := keptBlk hbx HU.out
  have hf := keptBlk hbx HF.out
  have hs1 := HS1.out.below hbx
  have hh4 := HH4.out.below hbx
  generalize (x10.alloc (.cells #[.string ⟨(findI awU [100]).1.name.toArray⟩, .int .i64 (findI awU [100]).1.kind, .int .i64 (findI awU [100]).1.mode, .slice Ai ni ci, .string ⟨(findI awU [100]).1.body.path.toArray⟩, .int .i64 (findI awU [100]).1.body.fr, .int .i64 (findI awU [100]).1.body.tu] 48)) = x11 at *
  have HB11 := Lib.hid (HB10.out.trans (hbx.mono HB10.out.size))
  have q0 := (cell_blk hh 0).trans rfl
  have q1 := (cell_blk hh 1).trans rfl
  have q2 := (cell_blk hh 2).trans rfl
  have q3 := (cell_blk hh 3).trans rfl
  have q4 := (cell_blk hh 4).trans rfl
  have v3 := (cell_blk hu 3).trans rfl
  have v4 := (cell_blk hu 4).trans rfl
  have f0 := (cell_blk hf 0).trans rfl
  have f1 := (cell_blk hf 1).trans rfl
  have f2 := (cell_blk hf 2).trans rfl
  have f3 := (cell_blk hf 3).trans rfl
  have f4 := (cell_blk hf 4).trans rfl
  have lh := (Array.getElem?_eq_some_iff.mp hh).1
  have lu := (Array.getElem?_eq_some_iff.mp hu).1
  have lf := (Array.getElem?_eq_some_iff.mp hf).1
  have HH := Lib.hid hh; have HU := Lib.hid hu; have HF := Lib.hid hf; have HS1 := Lib.hid hs1; have HH4 := Lib.hid hh4
  clear hbx hh hu hf hs1 hh4
  go_wp2_with fail
  have hbz : Below x11.heap.size x11 ((x11.alloc (.cells #[.string ⟨#[97, 112, 112, 47, 109, 46, 115, 114, 99]⟩, .int .i64 0, .int .i64 1, .string ⟨#[97, 112, 112, 47, 109, 46, 115, 114, 99]⟩, .int .i64 2, .int .i64 3, .string ⟨#[97, 112, 112, 47, 109, 46, 115, 114, 99]⟩, .int .i64 4, .int .i64 5, .string ⟨#[97, 112, 112, 47, 109, 46, 115, 114, 99]⟩, .int .i64 6, .int .i64 7] 46)).alloc (.cells #[.string ⟨#[120]⟩, .string ⟨#[121]⟩] 9)) := by ((repeat (first | (with_reducible exact Below.refl _ _) | (with_reducible refine belowA ?_ _) | (with_reducible refine belowD ?_) | (with_reducible refine belowS ?_ (Nat.le_refl _) _ _) | (with_reducible refine next ?_ (by assumption) (Nat.le_refl _)))); done)
  have hsp : Sl ((x11.alloc (.cells #[.string ⟨#[97, 112, 112, 47, 109, 46, 115, 114, 99]⟩, .int .i64 0, .int .i64 1, .string ⟨#[97, 112, 112, 47, 109, 46, 115, 114, 99]⟩, .int .i64 2, .int .i64 3, .string ⟨#[97, 112, 112, 47, 109, 46, 115, 114, 99]⟩, .int .i64 4, .int .i64 5, .string ⟨#[97, 112, 112, 47, 109, 46, 115, 114, 99]⟩, .int .i64 6, .int .i64 7] 46)).alloc (.cells #[.string ⟨#[120]⟩, .string ⟨#[121]⟩] 9)) (fun _ => True) (some ⟨x11.heap.size, 0, none⟩) 4 4 awH := sl_four (by ((repeat (first | (with_reducible assumption) | ((with_reducible refine blkAt2 ?_ ?_); (focus (simp; done)); rfl) | (with_reducible refine blkOld ?_ _) | (with_reducible refine keptBlk (by assumption) ?_) | (with_reducible refine grownBlk (by assumption) ?_ (by simp; omega)) | (with_reducible refine blkDrw ?_))); done))
  have hst : Sl ((x11.alloc (.cells #[.string ⟨#[97, 112, 112, 47, 109, 46, 115, 114, 99]⟩, .int .i64 0, .int .i64 1, .string ⟨#[97, 112, 112, 47, 109, 46, 115, 114, 99]⟩, .int .i64 2, .int .i64 3, .string ⟨#[97, 112, 112, 47, 109, 46, 115, 114, 99]⟩, .int .i64 4, .int .i64 5, .string ⟨#[97, 112, 112, 47, 109, 46, 115, 114, 99]⟩, .int .i64 6, .int .i64 7] 46)).alloc (.cells #[.string ⟨#[120]⟩, .string ⟨#[121]⟩] 9)) (fun _ => True) (some ⟨x11.heap.size + 1, 0, none⟩) 2 2 ([[120], [121]] : List Bs) := sl_two (by ((repeat (first | (with_reducible assumption) | ((with_reducible refine blkAt2 ?_ ?_); (focus (simp; done)); rfl) | (with_reducible refine blkOld ?_ _) | (with_reducible refine keptBlk (by assumption) ?_) | (with_reducible refine grownBlk (by assumption) ?_ (by simp; omega)) | (with_reducible refine blkDrw ?_))); done))
  have hh := keptBlk hbz HH.out
  have hu := keptBlk hbz HU.out
  have hf := keptBlk hbz HF.out
  have hs1 := HS1.out.below hbz
  have hh4 := HH4.out.below hbz
  clear q0 q1 q2 q3 q4 v3 v4 f0 f1 f2 f3 f4 lh lu lf
  generalize ((x11.alloc (.cells #[.string ⟨#[97, 112, 112, 47, 109, 46, 115, 114, 99]⟩, .int .i64 0, .int .i64 1, .string ⟨#[97, 112, 112, 47, 109, 46, 115, 114, 99]⟩, .int .i64 2, .int .i64 3, .string ⟨#[97, 112, 112, 47, 109, 46, 115, 114, 99]⟩, .int .i64 4, .int .i64 5, .string ⟨#[97, 112, 112, 47, 109, 46, 115, 114, 99]⟩, .int .i64 6, .int .i64 7] 46)).alloc (.cells #[.string ⟨#[120]⟩, .string ⟨#[121]⟩] 9)) = z at *
  refine (equalS_any A1 n1 c1 [[120], [121]] _ 2 2 [[120], [121]] z _ _ hs1 hst).mono ?_
  rintro e x12 ⟨rfl, hb⟩
  have HB12 := Lib.hid (HB11.out.trans ((hbz.trans (hb.mono hbz.size)).mono HB11.out.size))
  have HSP := Lib.hid (hsp.below hb); have HH4 := Lib.hid (hh4.below hb)
  have hh := keptBlk hb hh; have hu := keptBlk hb hu; have hf := keptBlk hb hf
  obtain rfl : n3' = 1 := HN3.out.trans (by decide)
  have q4 := (cell_blk hh 4).trans rfl
  have v3 := (cell_blk hu 3).trans rfl
  have v4 := (cell_blk hu 4).trans rfl
  have f0 := (cell_blk hf 0).trans rfl
  have f1 := (cell_blk hf 1).trans rfl
  have f2 := (cell_blk hf 2).trans rfl
  have f3 := (cell_blk hf 3).trans rfl
  have f4 := (cell_blk hf 4).trans rfl
  clear hb hbz hsp hst hh hu hf hs1 hh4
  rw [show (([[120], [121]] : List Bs) == [[120], [121]]) = true from rfl]
  unfold awQ1 awQ2
  go_wp2_with fail
  refine (equalP_any A4' n4' c4' awU.heads _ 4 4 awH x12 _ _ HH4.out HSP.out).mono ?_
  rintro e x13 ⟨rfl, hb⟩
  have HB13 := Lib.hid (HB12.out.trans (hb.mono HB12.out.size))
  clear hb q4 v3 v4 f0 f1 f2 f3 f4 HH4 HSP
  rw [show decide (awU.heads = awH) = true from rfl]
  go_wp2_with fail
  go_ret
  exact ⟨rfl, HB13.out⟩
end Go.Proofs.YtpeamehplhpcjaaGreatDoor
