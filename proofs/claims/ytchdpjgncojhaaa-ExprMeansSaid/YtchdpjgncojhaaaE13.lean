/- Expressions: the walk of expr.Parse. -/
import Derived.Test.YtchdpjgncojhaaaE12
set_option linter.unusedVariables false
set_option linter.unusedSimpArgs false
namespace Go.Proofs.Ytchdpjgncojhaaa
open Go.RowKit

theorem printT_len {l : List Tok} (h : printT l = 0) : l.length ≤ 256 := by
  unfold printT at h
  split at h
  · cases h
  · omega
theorem PM.below {n0 g : Nat} {a b : World} (h : Frm (PM n0 g a) a b) (hn : n0 ≤ a.heap.size) : Below n0 a b := h.below hn fun _ hi hm => by have := hm.1; omega

theorem dN {B : Nat} {a w : World} (h : Below B a w) (n : Nat) : Below B a (w.drewN n) := h.trans ⟨rfl, rfl, rfl, Nat.le_refl _, fun _ _ => rfl⟩
theorem fin_below {w w1 b : World} {o : Obj} (h1 : Below w.heap.size w w1) (h : Frm (PM w1.heap.size w1.heap.size (w1.alloc o)) (w1.alloc o) b) : Below w.heap.size w b :=
  h1.trans ((((Below.refl _ _).alloc (Nat.le_refl _) o).trans (PM.below h (by simp))).mono h1.size)

set_option maxRecDepth 100000 in
set_option maxHeartbeats 2000000 in
theorem parse_any (A : Option Addr) (n c : Nat) (w : World) (S : Nat → Prop) (l : List Tok) (hl : Sl w S A n c l) (hs : ∀ t ∈ l, t.text.length ≤ 9223372036854775807) :
    Calls Try.prog 12 #[.slice A n c] w fun e w' => ∃ A' n' c', e = .returned (.tuple #[.slice A' n' c', .int .i64 (parseE l).2]) ∧ Sl w' (fun b => w.heap.size ≤ b) A' n' c' (parseE l).1 ∧ Below w.heap.size w w' := by
  obtain ⟨v, hv⟩ : ∃ v, v = parseE l := ⟨_, rfl⟩
  rw [← hv]
  have hpr := print_any A n c w S l hl hs
  unfold parseE at hv
  by_cases hp : printT l = 0
  · rw [if_neg (fun h => h hp)] at hv
    rw [hp] at hpr
    have hlen := printT_len hp
    have hn := hl.len
    subst hn
    obtain ⟨x, hx⟩ := pr_some (16 * l.length + 20) (.bin 1) ⟨l, 0, [], 0⟩ (by simp [okTag]) (by simp only [rank]; omega)
    have hI := pr_inv _ _ _ _ hx
    rw [hx] at hv
    have HL := Lib.hid hl; clear hl
    have HPR := Lib.hid hpr; clear hpr
    have HS := Lib.hid hs; clear hs
    have HX := Lib.hid hx; clear hx
    obtain ⟨xb, s, xn⟩ := x
    simp only at hv hI
    have HV := Lib.hid hv; clear hv hI hp
    go_enter Try.func12, Try.ntmps12
    go_wp2_with fail
    refine HPR.out.mono ?_
    rintro e w1 ⟨bs, rfl, hb1⟩
    go_wp2_with fail
    have hpw : PW (w1.alloc (.cells #[.slice A l.length c, .int .i64 0, .slice none 0 0, .int .i64 0] 59)) w1.heap.size w1.heap.size ⟨l, 0, [], 0⟩ :=
      ⟨Nat.le_refl _, by simp, HS.out, A, l.length, c, none, 0, heap_alloc_new w1 _, ((HL.out.below hb1).wide (fun k hk _ => hk) (by decide)).alloc _, Own.nil _ _ _ _⟩
    refine (whole_step w1.heap.size w1.heap.size _ (parser_all w1.heap.size w1.heap.size _).1 ⟨l, 0, [], 0⟩ _ (xb, s, xn) HX.out hpw (by simp) (by simp only [PSt.m, List.length_nil]; omega)).mono ?_
    rintro e w2 ⟨rfl, hw2, hf2⟩
    simp only at hw2
    cases xb
    · have hv2 : v = if s.err ≠ 0 then ([], s.err) else (s.out, 0) := HV.out
      have HV2 := Lib.hid hv2; clear hv2 HV HX
      obtain ⟨-, -, -, A3, n3, c3, Ao3, co3, hbk3, hsl3, hown3⟩ := hw2
      have k2 := cell_blk hbk3 2
      have k3 := cell_blk hbk3 3
      simp only [List.getElem?_toArray, List.getElem?_cons_succ, List.getElem?_cons_zero] at k2 k3
      have HO3 := Lib.hid hown3; clear hown3 hsl3 hbk3
      by_cases her : s.err = 0
      · have her' : (s.err != 0) = false := by rw [her]; rfl
        have hv3 : v = (s.out, 0) := by rw [HV2.out, if_neg (fun h => h her)]
        have HV3 := Lib.hid hv3; clear hv3 her
        go_wp2
        go_ret2
        rw [HV3.out]
        exact ⟨Ao3, _, co3, rfl, (HO3.out.sl (by decide)).wide (fun k _ hk => by rcases hk with hk | hk; exact hk.elim; have := (HO3.out.lt k hk).1; have := hb1.size; omega) (by decide), fin_below hb1 hf2⟩
      · have her' : (s.err != 0) = true := by rw [bne_iff_ne]; exact her
        have hv3 : v = ([], s.err) := by rw [HV2.out, if_pos her]
        have HV3 := Lib.hid hv3; clear hv3 her
        go_wp2
        go_quiet (fail)
        go_wp2
        go_ret2
        rw [HV3.out]
        exact ⟨none, 0, 0, rfl, Sl.nil _ _ _ _ (by decide), dN (fin_below hb1 hf2) _⟩
    · have hq := hw2
      obtain ⟨-, -, -, A2, n2, c2, Ao2, co2, hbk, hsl, -⟩ := hq
      have k0 := cell_blk hbk 0
      simp only [List.getElem?_toArray, List.getElem?_cons_zero] at k0
      have hn2 := hsl.len
      subst hn2
      clear hbk hsl
      by_cases hre : 0 < s.rest.length
      · have hv2 : v = if (pfail s 4).2.err ≠ 0 then ([], (pfail s 4).2.err) else ((pfail s 4).2.out, 0) := by
          have : s.rest.isEmpty = false := by cases hr : s.rest with | nil => rw [hr] at hre; simp at hre | cons a r => rfl
          rw [HV.out, this]; rfl
        have HV2 := Lib.hid hv2; clear hv2 HV HX
        go_wp2_with fail
        refine (fail_any w1.heap.size w1.heap.size s 4 _ hw2).mono ?_
        rintro e w3 ⟨rfl, hw3, hf3⟩
        have hf4 := PM.trans hf2 hf3
        generalize (pfail s 4).2 = s4 at *
        obtain ⟨-, -, -, A3, n3, c3, Ao3, co3, hbk3, hsl3, hown3⟩ := hw3
        have k2 := cell_blk hbk3 2
        have k3 := cell_blk hbk3 3
        simp only [List.getElem?_toArray, List.getElem?_cons_succ, List.getElem?_cons_zero] at k2 k3
        have HO3 := Lib.hid hown3; clear hown3 hsl3 hbk3
        by_cases her : s4.err = 0
        · have her' : (s4.err != 0) = false := by rw [her]; rfl
          have hv3 : v = (s4.out, 0) := by rw [HV2.out, if_neg (fun h => h her)]
          have HV3 := Lib.hid hv3; clear hv3 her
          go_wp2
          go_ret2
          rw [HV3.out]
          exact ⟨Ao3, _, co3, rfl, (HO3.out.sl (by decide)).wide (fun k _ hk => by rcases hk with hk | hk; exact hk.elim; have := (HO3.out.lt k hk).1; have := hb1.size; omega) (by decide), fin_below hb1 hf4⟩
        · have her' : (s4.err != 0) = true := by rw [bne_iff_ne]; exact her
          have hv3 : v = ([], s4.err) := by rw [HV2.out, if_pos her]
          have HV3 := Lib.hid hv3; clear hv3 her
          go_wp2
          go_quiet (fail)
          go_wp2
          go_ret2
          rw [HV3.out]
          exact ⟨none, 0, 0, rfl, Sl.nil _ _ _ _ (by decide), dN (fin_below hb1 hf4) _⟩
      · have hv2 : v = if s.err ≠ 0 then ([], s.err) else (s.out, 0) := by
          have : s.rest.isEmpty = true := by cases hr : s.rest with | nil => rfl | cons a r => rw [hr] at hre; simp at hre
          rw [HV.out, this]; rfl
        have HV2 := Lib.hid hv2; clear hv2 HV HX
        obtain ⟨-, -, -, A3, n3, c3, Ao3, co3, hbk3, hsl3, hown3⟩ := hw2
        have k2 := cell_blk hbk3 2
        have k3 := cell_blk hbk3 3
        simp only [List.getElem?_toArray, List.getElem?_cons_succ, List.getElem?_cons_zero] at k2 k3
        have HO3 := Lib.hid hown3; clear hown3 hsl3 hbk3
        by_cases her : s.err = 0
        · have her' : (s.err != 0) = false := by rw [her]; rfl
          have hv3 : v = (s.out, 0) := by rw [HV2.out, if_neg (fun h => h her)]
          have HV3 := Lib.hid hv3; clear hv3 her
          go_wp2
          go_ret2
          rw [HV3.out]
          exact ⟨Ao3, _, co3, rfl, (HO3.out.sl (by decide)).wide (fun k _ hk => by rcases hk with hk | hk; exact hk.elim; have := (HO3.out.lt k hk).1; have := hb1.size; omega) (by decide), fin_below hb1 hf2⟩
        · have her' : (s.err != 0) = true := by rw [bne_iff_ne]; exact her
          have hv3 : v = ([], s.err) := by rw [HV2.out, if_pos her]
          have HV3 := Lib.hid hv3; clear hv3 her
          go_wp2
          go_quiet (fail)
          go_wp2
          go_ret2
          rw [HV3.out]
          exact ⟨none, 0, 0, rfl, Sl.nil _ _ _ _ (by decide), dN (fin_below hb1 hf2) _⟩
  · rw [if_pos hp] at hv
    have HPR := Lib.hid hpr; clear hpr
    have HV := Lib.hid hv; clear hv
    have hp' : (printT l != 0) = true := by rw [bne_iff_ne]; exact hp
    clear hl hs
    go_enter Try.func12, Try.ntmps12
    go_wp2_with fail
    refine HPR.out.mono ?_
    rintro e w1 ⟨bs, rfl, hb1⟩
    go_wp2
    go_ret2
    rw [HV.out]
    exact ⟨none, 0, 0, rfl, Sl.nil _ _ _ _ (by decide), hb1⟩
end Go.Proofs.Ytchdpjgncojhaaa
