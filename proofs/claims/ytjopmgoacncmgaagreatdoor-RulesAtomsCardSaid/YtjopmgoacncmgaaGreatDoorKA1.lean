/- Rules: awake. -/
import Derived.Test.YtjopmgoacncmgaaGreatDoorK9
import Derived.Test.YtjopmgoacncmgaaGreatDoorKQ1
import Derived.Test.YtjopmgoacncmgaaGreatDoorKR2
import Derived.Test.YtjopmgoacncmgaaGreatDoorK13
import Derived.Test.YtjopmgoacncmgaaGreatDoorAwkS
set_option linter.unusedVariables false
set_option linter.unusedSimpArgs false
namespace Go.Proofs.YtjopmgoacncmgaaGreatDoor
open Go.RowKit

theorem equalS_any (A : Option Addr) (n c : Nat) (xs : List Bs) (B : Option Addr) (m d : Nat) (ys : List Bs) (w : World) (S T : Nat → Prop) (hx : Sl w S A n c xs) (hy : Sl w T B m d ys) :
    Calls Tryz.prog 24 #[.slice A n c, .slice B m d] w fun e w' => e = .returned (.bool (xs == ys)) ∧ Below w.heap.size w w' := by
  have hn := hx.len; have hm := hy.len
  have hle := hx.le; have hle2 := hy.le
  by_cases hnm : n = m
  · subst hnm
    by_cases h0 : n = 0
    · subst h0
      have e1 : xs = [] := List.eq_nil_of_length_eq_zero hn.symm
      have e2 : ys = [] := List.eq_nil_of_length_eq_zero hm.symm
      subst e1 e2
      refine (Tryz.slices_Equal_string_empty A B c 0 d w (by omega)).mono ?_
      rintro e w' ⟨rfl, rfl⟩
      exact ⟨rfl, Below.refl _ _⟩
    · obtain ⟨b1, o1, rfl, -, -, -⟩ := hx.str (k := 0) (by omega)
      obtain ⟨b2, o2, rfl, -, -, -⟩ := hy.str (k := 0) (by omega)
      have hc1 : ∀ (b o : Nat) (zs : List Bs) (S : Nat → Prop) (n c : Nat), Sl w S (some ⟨b, o, none⟩) n c zs → ∀ j, j < (zs.map fun t : Bs => ByteArray.mk t.toArray).length → w.cell? ⟨b, o + j, none⟩ = some (.string ((zs.map fun t : Bs => ByteArray.mk t.toArray).getD j ByteArray.empty)) := by
        intro b o zs S n c h j hj
        rw [List.length_map] at hj
        obtain ⟨b', o', hA, -, -, hc⟩ := h.str hj
        injection hA with hA
        injection hA with h1 h2
        subst h1 h2
        rw [hc, List.getD_eq_getElem?_getD, List.getElem?_map, List.getElem?_eq_getElem hj]
        rfl
      have h := Tryz.slices_Equal_string b1 o1 n c b2 o2 n d (xs.map fun t : Bs => ByteArray.mk t.toArray) (ys.map fun t : Bs => ByteArray.mk t.toArray) w (by rw [List.length_map]; omega) (by rw [List.length_map]; omega) hle hle2 (hc1 _ _ _ _ _ _ hx) (hc1 _ _ _ _ _ _ hy)
      refine h.mono ?_
      rintro e w' ⟨rfl, q, rfl⟩
      refine ⟨ret_bool ?_, dN (Below.refl _ _) q⟩
      have hi : ∀ l m : List Bs, l.map (fun t : Bs => ByteArray.mk t.toArray) = m.map (fun t : Bs => ByteArray.mk t.toArray) → l = m := by
        intro l
        induction l with
        | nil => intro m h; cases m with
          | nil => rfl
          | cons a r => cases h
        | cons a r ih => intro m h; cases m with
          | nil => cases h
          | cons b t =>
            simp only [List.map_cons, List.cons.injEq] at h
            obtain ⟨h1, h2⟩ := h
            injection h1 with h1
            have h1 : a = b := by simpa using congrArg Array.toList h1
            rw [h1, ih t h2]
      rw [List.take_of_length_le (by rw [List.length_map]; omega), List.take_of_length_le (by rw [List.length_map]; omega), Bool.eq_iff_iff, beq_iff_eq, decide_eq_true_iff]
      exact ⟨fun h => by rw [h], hi _ _⟩
  · have hne : (xs == ys) = false := by rw [beq_eq_false_iff_ne]; intro e; subst e; omega
    rw [hne]
    refine (Tryz.slices_Equal_string_lens A B n c m d w hnm).mono ?_
    rintro e w' ⟨rfl, rfl⟩
    exact ⟨rfl, Below.refl _ _⟩
end Go.Proofs.YtjopmgoacncmgaaGreatDoor

namespace Go.Proofs.YtjopmgoacncmgaaGreatDoor
open Go.RowKit

theorem Sl.row {w : World} {S : Nat → Prop} {A : Option Addr} {n c k : Nat} {xs : List (List Bs)} (h : Sl w S A n c xs) (hk : k < xs.length) : ∃ b o, A = some ⟨b, o, none⟩ ∧ S b ∧ b < w.heap.size ∧
    ∃ A' n' c', w.cell? ⟨b, o + k, none⟩ = some (.slice A' n' c') ∧ Sl w S A' n' c' xs[k] := by
  obtain ⟨b, o, hA, hS, hb, g, hc, A', n', c', h0, hs, _⟩ := h.plain (by decide) hk
  have c0 := hc 0 (by decide)
  rw [h0] at c0
  exact ⟨b, o, hA, hS, hb, A', n', c', by simpa [GoT.size] using c0, hs⟩

set_option maxRecDepth 100000 in
set_option maxHeartbeats 4000000 in
theorem awake_any (w : World) (hL : LD w) :
    Calls Tryz.prog 12 #[] w fun e w' => e = .returned (.bool true) ∧ Below w.heap.size w w' := by
  have h1 := fun w hL => Parse_any tx1 w hL (by decide)
  have h2 := fun w hL => Parse_any tx2 w hL (by decide)
  have h3 := fun w hL => Parse_any tx3 w hL (by decide)
  have e1 := awake1; have e1p := awake1p; have e2 := awake2; have e2s := awake2s; have e3 := awake3
  generalize parseS tx1 = r1 at *
  generalize parseS tx2 = r2 at *
  generalize parseS tx3 = r3 at *
  obtain ⟨l1, c1⟩ := r1
  obtain ⟨l2, c2⟩ := r2
  obtain ⟨l3, c3⟩ := r3
  simp only at e1 e1p e2 e2s e3
  subst e1 e2
  have hp := fun A c w S hs ho hL => Print_any A l1.length c l1 w S hs ho hL
  rw [e1p] at hp
  have hs := fun A c w S hs ho hL => Strata_any A l2.length c l2 w S hs ho hL
  rw [e2s] at hs
  have hc := fun A c w S hs ho hL => Check_any A l3.length c l3 w S hs ho hL
  rw [e3] at hc
  have H1 := Lib.hid h1; have H2 := Lib.hid h2; have H3 := Lib.hid h3; have HP := Lib.hid hp; have HS := Lib.hid hs; have HC := Lib.hid hc; have HL := Lib.hid hL
  clear h1 h2 h3 hp hs hc hL e1p e2s e3
  go_enter Tryz.func12, Tryz.ntmps12
  go_wp2_with fail
  refine (show Calls Tryz.prog 13 _ w (PaPost w (l1, 0, 0)) from H1.out w HL.out).mono ?_
  rintro e w1 ⟨A1, k1, rfl, s1, b1, o1⟩
  have L1 := HL.out.below b1
  go_wp2_with fail
  refine (HP.out A1 k1 w1 _ s1 o1 L1).mono ?_
  rintro e w2 ⟨rfl, b2⟩
  have L2 := L1.below b2
  go_wp2_with fail
  refine (show Calls Tryz.prog 13 _ w2 (PaPost w2 (l2, 0, 0)) from H2.out w2 L2).mono ?_
  rintro e w3 ⟨A3, k3, rfl, s3, b3, o3⟩
  have L3 := L2.below b3
  go_wp2_with fail
  refine (HS.out A3 k3 w3 _ s3 o3 L3).mono ?_
  rintro e w4 ⟨A4, k4, rfl, s4, b4⟩
  have L4 := L3.below b4
  have s4 : Sl w4 (fun b => w3.heap.size ≤ b) A4 2 k4 ([[[113], [114], [115]], [[112]]] : List (List Bs)) := s4
  obtain ⟨b, o, rfl, hS, hb, B1, m1, d1, q0, r0⟩ := s4.row (k := 0) (by decide)
  obtain ⟨_, _, hA, _, _, B2, m2, d2, q1, r1⟩ := s4.row (k := 1) (by decide)
  obtain ⟨rfl, rfl⟩ : b = _ ∧ o = _ := by simpa using hA
  have e0 := r0.len; have e1 := r1.len
  simp only [List.getElem_cons_zero, List.getElem_cons_succ, List.length_cons, List.length_nil] at e0 e1 r0 r1
  subst e0 e1
  have Q0 := q0; have Q1 := q1
  simp only [Nat.add_zero] at Q0 Q1
  go_wp2_with fail
  have x1 : Sl (w4.alloc (Obj.cells #[Value.string ⟨#[113]⟩, Value.string ⟨#[114]⟩, Value.string ⟨#[115]⟩] 9)) (fun _ => True) (some ⟨w4.heap.size, 0, none⟩) 3 3 ([[113], [114], [115]] : List Bs) :=
    Sl.lits (xs := [[113], [114], [115]]) (blkAt w4 _ rfl) trivial (by decide)
  refine (equalS_any _ _ _ _ _ _ _ _ _ _ _ (r0.alloc _) x1).mono ?_
  rintro e w5 ⟨rfl, b5⟩
  have b45 : Below w4.heap.size w4 w5 := (belowA (Below.refl w4.heap.size w4) _).trans (b5.mono (by simp))
  have Q1' := cell_later b45 Q1
  have r1' := r1.below b45
  have L5 := L4.below b45
  clear b5 x1
  go_wp2_with fail
  have x2 : Sl (w5.alloc (Obj.cells #[Value.string ⟨#[112]⟩] 9)) (fun _ => True) (some ⟨w5.heap.size, 0, none⟩) 1 1 ([[112]] : List Bs) :=
    Sl.lits (xs := [[112]]) (blkAt w5 _ rfl) trivial (by decide)
  refine (equalS_any _ _ _ _ _ _ _ _ _ _ _ (r1'.alloc _) x2).mono ?_
  rintro e w6 ⟨rfl, b6⟩
  have b56 : Below w5.heap.size w5 w6 := (belowA (Below.refl w5.heap.size w5) _).trans (b6.mono (by simp))
  have L6 := L5.below b56
  clear b6 x2
  go_wp2_with fail
  refine (show Calls Tryz.prog 13 _ w6 (PaPost w6 (l3, c3)) from H3.out w6 L6).mono ?_
  rintro e w7 ⟨A7, k7, rfl, s7, b7, o7⟩
  have L7 := L6.below b7
  go_wp2_with fail
  refine (HC.out A7 k7 w7 _ s7 o7 L7).mono ?_
  rintro e w8 ⟨rfl, b8⟩
  go_wp2_with fail
  exact bodyPost_ret (v := .bool true) (by simp [results, Tryz.results12, go_sem]) rfl ⟨rfl, by ((repeat (first | (with_reducible exact Below.refl _ _) | (with_reducible refine belowA ?_ _) | (with_reducible refine belowD ?_) | (with_reducible refine belowS ?_ (Nat.le_refl _) _ _) | (with_reducible refine next ?_ (by assumption) (Nat.le_refl _)))); done)⟩
end Go.Proofs.YtjopmgoacncmgaaGreatDoor
