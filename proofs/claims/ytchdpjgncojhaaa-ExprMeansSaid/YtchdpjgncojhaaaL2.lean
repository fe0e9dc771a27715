/- The law's examples: awake answers true. -/
import Derived.Test.YtchdpjgncojhaaaL1
set_option linter.unusedVariables false
set_option linter.unusedSimpArgs false
namespace Go.Proofs.Ytchdpjgncojhaaa
open Go.RowKit

theorem all_len {l : List Tok} (h : (l.all fun t => decide (t.text.length ≤ 100)) = true) : ∀ t ∈ l, t.text.length ≤ 9223372036854775807 := fun t ht => by
  have := List.all_eq_true.1 h t ht
  simp at this
  omega
theorem all_ok {f : List Opn} (h : (f.all fun o => decide (o.text.length ≤ 100) && decide (0 ≤ o.n) && decide (o.n ≤ 4294967295)) = true) : OkF f := fun o ho => by
  have := List.all_eq_true.1 h o ho
  simp at this
  exact ⟨by omega, by omega, by omega⟩
theorem pair_eq {α : Type} {p : α × Int} (h : p.2 = 0) : p = (p.1, 0) := by rw [← h]

theorem tkA_len : ∀ t ∈ tkA, t.text.length ≤ 9223372036854775807 := all_len (by kernel_rfl)
theorem fmA_ok : OkF fmA := all_ok (by kernel_rfl)
def bsB : Bs := [102, 40, 120, 44, 32, 105, 110, 40, 41, 41]
def tkB : List Tok := (tokens5 bsB).1
theorem tkB_eq : tokens5 bsB = (tkB, 0) := pair_eq (by kernel_rfl)
def fmB : List Opn := (parseE tkB).1
theorem fmB_eq : (parseE tkB).1 = fmB := rfl
theorem tkB_len : ∀ t ∈ tkB, t.text.length ≤ 9223372036854775807 := all_len (by kernel_rfl)
theorem fmB_ok : OkF fmB := all_ok (by kernel_rfl)
def bsC : Bs := [50, 32, 42, 32, 51, 32, 43, 32, 97]
def tkC : List Tok := (tokens5 bsC).1
theorem tkC_eq : tokens5 bsC = (tkC, 0) := pair_eq (by kernel_rfl)
def fmC : List Opn := (parseE tkC).1
theorem fmC_eq : (parseE tkC).1 = fmC := rfl
theorem tkC_len : ∀ t ∈ tkC, t.text.length ≤ 9223372036854775807 := all_len (by kernel_rfl)
theorem fmC_ok : OkF fmC := all_ok (by kernel_rfl)
def bsD : Bs := [97, 32, 43, 32, 50, 32, 42, 32, 51]
def tkD : List Tok := (tokens5 bsD).1
theorem tkD_eq : tokens5 bsD = (tkD, 0) := pair_eq (by kernel_rfl)
def fmD : List Opn := (parseE tkD).1
theorem fmD_eq : (parseE tkD).1 = fmD := rfl
theorem tkD_len : ∀ t ∈ tkD, t.text.length ≤ 9223372036854775807 := all_len (by kernel_rfl)
theorem fmD_ok : OkF fmD := all_ok (by kernel_rfl)
def bsE : Bs := [45, 55, 32, 47, 32, 50]
def tkE : List Tok := (tokens5 bsE).1
theorem tkE_eq : tokens5 bsE = (tkE, 0) := pair_eq (by kernel_rfl)
def fmE : List Opn := (parseE tkE).1
theorem fmE_eq : (parseE tkE).1 = fmE := rfl
theorem tkE_len : ∀ t ∈ tkE, t.text.length ≤ 9223372036854775807 := all_len (by kernel_rfl)
theorem fmE_ok : OkF fmE := all_ok (by kernel_rfl)
def bsF : Bs := [45, 55, 32, 37, 32, 50]
def tkF : List Tok := (tokens5 bsF).1
theorem tkF_eq : tokens5 bsF = (tkF, 0) := pair_eq (by kernel_rfl)
def fmF : List Opn := (parseE tkF).1
theorem fmF_eq : (parseE tkF).1 = fmF := rfl
theorem tkF_len : ∀ t ∈ tkF, t.text.length ≤ 9223372036854775807 := all_len (by kernel_rfl)
theorem fmF_ok : OkF fmF := all_ok (by kernel_rfl)
def bsG : Bs := [40, 49, 32, 43, 32, 50, 41, 32, 42, 32, 40, 97, 32, 45, 32, 51, 41]
def tkG : List Tok := (tokens5 bsG).1
theorem tkG_eq : tokens5 bsG = (tkG, 0) := pair_eq (by kernel_rfl)
def fmG : List Opn := (parseE tkG).1
theorem fmG_eq : (parseE tkG).1 = fmG := rfl
theorem tkG_len : ∀ t ∈ tkG, t.text.length ≤ 9223372036854775807 := all_len (by kernel_rfl)
theorem fmG_ok : OkF fmG := all_ok (by kernel_rfl)
def bsH : Bs := [40, 49, 32, 42, 32, 50, 41, 32, 43, 32, 97]
def tkH : List Tok := (tokens5 bsH).1
theorem tkH_eq : tokens5 bsH = (tkH, 0) := pair_eq (by kernel_rfl)
def fmH : List Opn := (parseE tkH).1
theorem fmH_eq : (parseE tkH).1 = fmH := rfl
theorem tkH_len : ∀ t ∈ tkH, t.text.length ≤ 9223372036854775807 := all_len (by kernel_rfl)
theorem fmH_ok : OkF fmH := all_ok (by kernel_rfl)
def bsI : Bs := [97, 32, 45, 32, 40, 98, 32, 45, 32, 99, 41]
def tkI : List Tok := (tokens5 bsI).1
theorem tkI_eq : tokens5 bsI = (tkI, 0) := pair_eq (by kernel_rfl)
def fmI : List Opn := (parseE tkI).1
theorem fmI_eq : (parseE tkI).1 = fmI := rfl
theorem tkI_len : ∀ t ∈ tkI, t.text.length ≤ 9223372036854775807 := all_len (by kernel_rfl)
theorem fmI_ok : OkF fmI := all_ok (by kernel_rfl)
def foC : List Opn := (foldS fmC).1
theorem foC_eq : foldS fmC = (foC, 0) := pair_eq (by kernel_rfl)
theorem foC_ok : OkF foC := all_ok (by kernel_rfl)
def foD : List Opn := (foldS fmD).1
theorem foD_eq : foldS fmD = (foD, 0) := pair_eq (by kernel_rfl)
theorem foD_ok : OkF foD := all_ok (by kernel_rfl)
theorem foC_pr : exprPrintS foC = ((exprPrintS foC).1, 0) := pair_eq (by kernel_rfl)
theorem foC_tx : text5 (exprPrintS foC).1 = [54, 32, 43, 32, 97] := by kernel_rfl
theorem foD_pr : exprPrintS foD = ((exprPrintS foD).1, 0) := pair_eq (by kernel_rfl)
theorem foD_tx : text5 (exprPrintS foD).1 = [97, 32, 43, 32, 54] := by kernel_rfl
theorem fmG_pr : exprPrintS fmG = ((exprPrintS fmG).1, 0) := pair_eq (by kernel_rfl)
theorem fmG_tx : text5 (exprPrintS fmG).1 = [40, 32, 49, 32, 43, 32, 50, 32, 41, 32, 42, 32, 40, 32, 97, 32, 45, 32, 51, 32, 41] := by kernel_rfl
theorem fmH_pr : exprPrintS fmH = ((exprPrintS fmH).1, 0) := pair_eq (by kernel_rfl)
theorem fmH_tx : text5 (exprPrintS fmH).1 = [49, 32, 42, 32, 50, 32, 43, 32, 97] := by kernel_rfl
theorem fmI_pr : exprPrintS fmI = ((exprPrintS fmI).1, 0) := pair_eq (by kernel_rfl)
theorem fmI_tx : text5 (exprPrintS fmI).1 = [97, 32, 45, 32, 40, 32, 98, 32, 45, 32, 99, 32, 41] := by kernel_rfl
theorem vE : valueS fmE = (4294967293, true) := by kernel_rfl
theorem vF : valueS fmF = (4294967295, true) := by kernel_rfl
theorem fmB_eq2 : fmB = [⟨2, [120], 0⟩, ⟨5, [], 0⟩, ⟨3, [102], 2⟩] := by kernel_rfl

set_option maxRecDepth 100000 in
set_option maxHeartbeats 8000000 in
theorem awake_any (w : World) : Calls Try.prog 10 #[] w fun e w' => e = .returned (.bool true) ∧ Below w.heap.size w w' := by
  go_enter Try.func10, Try.ntmps10
  go_wp2_with fail
  refine (formula_at bsA tkA fmA _ (by decide) tkA_eq fmA_eq tkA_len).mono ?_
  rintro e w1 ⟨A1, n1, c1, rfl, hs1, hb1⟩
  obtain rfl : n1 = 6 := hs1.len
  obtain ⟨b, o, rfl, -, -, a30, -, -⟩ := hs1.opn (k := 3) (by decide)
  obtain ⟨b', o', he, -, -, -, a41, -⟩ := hs1.opn (k := 4) (by decide)
  injection he with he; injection he with he1 he2; subst he1 he2
  obtain ⟨b', o', he, -, -, -, a51, -⟩ := hs1.opn (k := 5) (by decide)
  injection he with he; injection he with he1 he2; subst he1 he2
  simp only [fmA, List.getElem_cons_succ, List.getElem_cons_zero] at a30 a41 a51
  clear hs1
  go_wp2_with fail
  refine (formula_at bsB tkB fmB _ (by decide) tkB_eq fmB_eq tkB_len).mono ?_
  rintro e w2 ⟨A2, n2, c2, rfl, hs2, hb2⟩
  rw [fmB_eq2] at hs2
  obtain rfl : n2 = 3 := hs2.len
  obtain ⟨bB, oB, rfl, -, hBl, b0, b1, b2⟩ := hs2.opn (k := 2) (by decide)
  simp only [List.getElem_cons_succ, List.getElem_cons_zero] at b0 b1 b2
  have HS2 := Lib.hid hs2; clear hs2
  go_wp2_with fail
  refine (formula_at bsC tkC fmC _ (by decide) tkC_eq fmC_eq tkC_len).mono ?_
  rintro e w3 ⟨A3, n3, c3, rfl, hs3, hb3⟩
  have HS3 := Lib.hid hs3; clear hs3
  go_wp2_with fail
  refine (fold_any A3 n3 c3 _ _ fmC HS3.out fmC_ok).mono ?_
  rw [foC_eq]
  rintro e w4 ⟨A4, n4, c4, rfl, hs4, hb4⟩
  have HS4 := Lib.hid hs4; clear hs4
  go_wp2_with fail
  refine (formula_at bsD tkD fmD _ (by decide) tkD_eq fmD_eq tkD_len).mono ?_
  rintro e w5 ⟨A5, n5, c5, rfl, hs5, hb5⟩
  have HS5 := Lib.hid hs5; clear hs5
  go_wp2_with fail
  refine (fold_any A5 n5 c5 _ _ fmD HS5.out fmD_ok).mono ?_
  rw [foD_eq]
  rintro e w6 ⟨A6, n6, c6, rfl, hs6, hb6⟩
  have HS6 := Lib.hid hs6; clear hs6
  go_wp2_with fail
  refine (formula_at bsE tkE fmE _ (by decide) tkE_eq fmE_eq tkE_len).mono ?_
  rintro e w7 ⟨A7, n7, c7, rfl, hs7, hb7⟩
  have HS7 := Lib.hid hs7; clear hs7
  go_wp2_with fail
  refine (value_any A7 n7 c7 _ _ fmE HS7.out fmE_ok).mono ?_
  rw [vE]
  rintro e w8 ⟨rfl, hb8⟩
  go_wp2_with fail
  refine (formula_at bsF tkF fmF _ (by decide) tkF_eq fmF_eq tkF_len).mono ?_
  rintro e w9 ⟨A9, n9, c9, rfl, hs9, hb9⟩
  have HS9 := Lib.hid hs9; clear hs9
  go_wp2_with fail
  refine (value_any A9 n9 c9 _ _ fmF HS9.out fmF_ok).mono ?_
  rw [vF]
  rintro e w10 ⟨rfl, hb10⟩
  have hbB : Below w2.heap.size w2 w10 := by ((repeat (first | (with_reducible exact Below.refl _ _) | (with_reducible refine belowA ?_ _) | (with_reducible refine belowD ?_) | (with_reducible refine belowS ?_ (Nat.le_refl _) _ _) | (with_reducible refine next ?_ (by assumption) (Nat.le_refl _)))); done)
  have d0 := cell_later hbB b0
  have d1 := cell_later hbB b1
  have d2 := cell_later hbB b2
  clear b0 b1 b2 a30 a41 a51 hbB
  go_wp2_with fail
  refine (printed_at foC (exprPrintS foC).1 [54, 32, 43, 32, 97] A4 n4 c4 _ _ (HS4.out.below (by ((repeat (first | (with_reducible exact Below.refl _ _) | (with_reducible refine belowA ?_ _) | (with_reducible refine belowD ?_) | (with_reducible refine belowS ?_ (Nat.le_refl _) _ _) | (with_reducible refine next ?_ (by assumption) (Nat.le_refl _)))); done))) foC_ok foC_pr foC_tx (by decide)).mono ?_
  rintro e w11 ⟨rfl, hb11⟩
  go_wp2_with fail
  refine (printed_at foD (exprPrintS foD).1 [97, 32, 43, 32, 54] A6 n6 c6 _ _ (HS6.out.below (by ((repeat (first | (with_reducible exact Below.refl _ _) | (with_reducible refine belowA ?_ _) | (with_reducible refine belowD ?_) | (with_reducible refine belowS ?_ (Nat.le_refl _) _ _) | (with_reducible refine next ?_ (by assumption) (Nat.le_refl _)))); done))) foD_ok foD_pr foD_tx (by decide)).mono ?_
  rintro e w12 ⟨rfl, hb12⟩
  go_wp2_with fail
  refine (formula_at bsG tkG fmG _ (by decide) tkG_eq fmG_eq tkG_len).mono ?_
  rintro e w13 ⟨A13, n13, c13, rfl, hs13, hb13⟩
  have HS13 := Lib.hid hs13; clear hs13
  go_wp2_with fail
  refine (printed_at fmG (exprPrintS fmG).1 [40, 32, 49, 32, 43, 32, 50, 32, 41, 32, 42, 32, 40, 32, 97, 32, 45, 32, 51, 32, 41] A13 n13 c13 _ _ (HS13.out.below (by ((repeat (first | (with_reducible exact Below.refl _ _) | (with_reducible refine belowA ?_ _) | (with_reducible refine belowD ?_) | (with_reducible refine belowS ?_ (Nat.le_refl _) _ _) | (with_reducible refine next ?_ (by assumption) (Nat.le_refl _)))); done))) fmG_ok fmG_pr fmG_tx (by decide)).mono ?_
  rintro e w14 ⟨rfl, hb14⟩
  go_wp2_with fail
  refine (formula_at bsH tkH fmH _ (by decide) tkH_eq fmH_eq tkH_len).mono ?_
  rintro e w15 ⟨A15, n15, c15, rfl, hs15, hb15⟩
  have HS15 := Lib.hid hs15; clear hs15
  go_wp2_with fail
  refine (printed_at fmH (exprPrintS fmH).1 [49, 32, 42, 32, 50, 32, 43, 32, 97] A15 n15 c15 _ _ (HS15.out.below (by ((repeat (first | (with_reducible exact Below.refl _ _) | (with_reducible refine belowA ?_ _) | (with_reducible refine belowD ?_) | (with_reducible refine belowS ?_ (Nat.le_refl _) _ _) | (with_reducible refine next ?_ (by assumption) (Nat.le_refl _)))); done))) fmH_ok fmH_pr fmH_tx (by decide)).mono ?_
  rintro e w16 ⟨rfl, hb16⟩
  go_wp2_with fail
  refine (formula_at bsI tkI fmI _ (by decide) tkI_eq fmI_eq tkI_len).mono ?_
  rintro e w17 ⟨A17, n17, c17, rfl, hs17, hb17⟩
  have HS17 := Lib.hid hs17; clear hs17
  go_wp2_with fail
  refine (printed_at fmI (exprPrintS fmI).1 [97, 32, 45, 32, 40, 32, 98, 32, 45, 32, 99, 32, 41] A17 n17 c17 _ _ (HS17.out.below (by ((repeat (first | (with_reducible exact Below.refl _ _) | (with_reducible refine belowA ?_ _) | (with_reducible refine belowD ?_) | (with_reducible refine belowS ?_ (Nat.le_refl _) _ _) | (with_reducible refine next ?_ (by assumption) (Nat.le_refl _)))); done))) fmI_ok fmI_pr fmI_tx (by decide)).mono ?_
  rintro e w18 ⟨rfl, hb18⟩
  go_wp2
  go_ret
  exact ⟨rfl, by ((repeat (first | (with_reducible exact Below.refl _ _) | (with_reducible refine belowA ?_ _) | (with_reducible refine belowD ?_) | (with_reducible refine belowS ?_ (Nat.le_refl _) _ _) | (with_reducible refine next ?_ (by assumption) (Nat.le_refl _)))); done)⟩
end Go.Proofs.Ytchdpjgncojhaaa
