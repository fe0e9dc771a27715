/- expr.Value; the law's formula, printed. -/
import Derived.Test.YtchdpjgncojhaaaG9
import Derived.Test.YtchdpjgncojhaaaE13
import Derived.Test.YtchdpjgncojhaaaTokW4
import Derived.Test.YtchdpjgncojhaaaTokEq
set_option linter.unusedVariables false
set_option linter.unusedSimpArgs false
namespace Go.Proofs.Ytchdpjgncojhaaa
open Go.RowKit

set_option maxRecDepth 100000 in
set_option maxHeartbeats 2000000 in
theorem value_any (A : Option Addr) (n c : Nat) (w : World) (S : Nat → Prop) (f : List Opn) (hl : Sl w S A n c f) (hf : OkF f) :
    Calls Try.prog 23 #[.slice A n c] w fun e w' => e = .returned (.tuple #[.int .u32 (valueS f).1, .bool (valueS f).2]) ∧ Below w.heap.size w w' := by
  have hfo := fold_any A n c w S f hl hf
  obtain ⟨v, hv⟩ : ∃ v, v = valueS f := ⟨_, rfl⟩
  rw [← hv]
  unfold valueS at hv
  have HF := Lib.hid hfo; clear hfo hl hf
  generalize foldS f = F at *
  obtain ⟨F1, F2⟩ := F
  simp only at hv HF
  have Hv := Lib.hid hv; clear hv
  go_enter Try.func23, Try.ntmps23
  go_wp2_with fail
  refine HF.out.mono ?_
  rintro e w1 ⟨A1, n1, c1, rfl, hs1, hb1⟩
  have hn1 := hs1.len
  by_cases h0 : F2 = 0
  · have q0 : (F2 != 0) = false := by rw [h0]; rfl
    by_cases h1 : F1.length = 1
    · have q1 : ((n1 : Int) != 1) = false := by rw [hn1, h1]; rfl
      have q1' : n1 = 1 := by omega
      obtain ⟨b, o, rfl, -, -, k0, k1, k2⟩ := hs1.opn (k := 0) (by omega)
      have hg : F1.getD 0 default = F1[0] := by simp [h1]
      simp only [Nat.zero_mul, Nat.add_zero] at k0 k1 k2
      rw [← hg] at k0 k1 k2
      have hv2 := Hv.out
      rw [hg] at k0 k1 k2 hv2
      generalize F1[0] = X at *
      subst q1'
      have HV := Lib.hid hv2; have HH0 := Lib.hid h0; have HH1 := Lib.hid h1
      clear hs1 hg hn1 hv2 h0 h1 Hv HF
      by_cases h2 : X.kind = 1
      · have q2 : (X.kind != 1) = false := by rw [h2]; rfl
        have hv3 : v = (X.n, true) := by rw [HV.out, if_neg]; simp [HH0.out, HH1.out, h2]
        have HV3 := Lib.hid hv3; clear hv3 h2
        go_wp2
        go_ret2
        exact ⟨by rw [HV3.out]; rfl, hb1⟩
      · have q2 : (X.kind != 1) = true := by rw [bne_iff_ne]; exact h2
        have hv3 : v = (0, false) := by rw [HV.out, if_pos]; simp [h2]
        have HV3 := Lib.hid hv3; clear hv3 h2
        go_wp2
        go_ret2
        exact ⟨by rw [HV3.out]; rfl, hb1⟩
    · have q1 : ((n1 : Int) != 1) = true := by rw [bne_iff_ne]; omega
      have hv3 : v = (0, false) := by rw [Hv.out, if_pos]; simp [h1]
      have HV3 := Lib.hid hv3; have H0 := Lib.hid h0; clear hv3 h1 h0 hn1 hs1
      go_wp2
      go_ret2
      exact ⟨by rw [HV3.out]; rfl, hb1⟩
  · have q0 : (F2 != 0) = true := by rw [bne_iff_ne]; exact h0
    have hv3 : v = (0, false) := by rw [Hv.out, if_pos]; simp [h0]
    have HV3 := Lib.hid hv3; clear hv3 h0 hn1 hs1
    go_wp2
    go_ret2
    exact ⟨by rw [HV3.out]; rfl, hb1⟩

set_option maxRecDepth 100000 in
set_option maxHeartbeats 1000000 in
theorem formula_at (s : Bs) (l : List Tok) (f : List Opn) (w : World) (hs : s.length ≤ 9223372036854775807) (h1 : tokens5 s = (l, 0)) (h2 : (parseE l).1 = f) (h3 : ∀ t ∈ l, t.text.length ≤ 9223372036854775807) :
    Calls Try.prog 33 #[.string ⟨s.toArray⟩] w fun e w' => ∃ A n c, e = .returned (.slice A n c) ∧ Sl w' (fun b => w.heap.size ≤ b) A n c f ∧ Below w.heap.size w w' := by
  have ht := fun w => tokens5_any s w hs
  rw [h1] at ht
  have hp := fun A n c w S hl => parse_any A n c w S l hl h3
  rw [h2] at hp
  generalize (parseE l).2 = pe at *
  have HT := Lib.hid ht; have HP := Lib.hid hp; clear ht hp h1 h2 h3
  go_enter Try.func33, Try.ntmps33
  go_wp2_with fail
  refine (HT.out _).mono ?_
  rintro e w1 ⟨A1, n1, c1, rfl, hs1, hb1⟩
  have HS1 := Lib.hid hs1; clear hs1
  go_wp2_with fail
  refine (HP.out _ _ _ _ _ HS1.out).mono ?_
  rintro e w2 ⟨A2, n2, c2, rfl, hs2, hb2⟩
  have HS2 := Lib.hid hs2; clear hs2
  go_wp2
  go_ret
  exact ⟨A2, n2, c2, rfl, HS2.out.wide (fun k _ hk => Nat.le_trans hb1.size hk) (by decide), hb1.trans (hb2.mono hb1.size)⟩

set_option maxRecDepth 100000 in
set_option maxHeartbeats 1000000 in
theorem printed_at (f : List Opn) (l : List Tok) (x : Bs) (A : Option Addr) (n c : Nat) (w : World) (S : Nat → Prop) (hl : Sl w S A n c f) (hf : OkF f) (h1 : exprPrintS f = (l, 0)) (h2 : text5 l = x) (h3 : x.length ≤ 9223372036854775807) :
    Calls Try.prog 34 #[.slice A n c] w fun e w' => e = .returned (.string ⟨x.toArray⟩) ∧ Below w.heap.size w w' := by
  have hp := exprPrint_any A n c w S f hl hf
  rw [h1] at hp
  have ht := fun A n c w S hl => text5_any A n c w S l hl (by rw [h2]; exact h3)
  rw [h2] at ht
  have HT := Lib.hid ht; have HP := Lib.hid hp; clear ht hp h1 h2 hl hf
  go_enter Try.func34, Try.ntmps34
  go_wp2_with fail
  refine HP.out.mono ?_
  rintro e w1 ⟨A1, n1, c1, rfl, hs1, hb1⟩
  have HS1 := Lib.hid hs1; clear hs1
  go_wp2_with fail
  refine (HT.out _ _ _ _ _ HS1.out).mono ?_
  rintro e w2 ⟨rfl, hb2⟩
  go_wp2
  go_ret
  exact ⟨rfl, hb1.trans (hb2.mono hb1.size)⟩

def bsA : Bs := [97, 32, 43, 32, 98, 32, 42, 32, 45, 50]
def tkA : List Tok := [⟨1, [97]⟩, ⟨3, [43]⟩, ⟨1, [98]⟩, ⟨3, [42]⟩, ⟨3, [45]⟩, ⟨2, [50]⟩]
theorem tkA_eq : tokens5 bsA = (tkA, 0) := by kernel_rfl
def fmA : List Opn := [⟨2, [97], 0⟩, ⟨2, [98], 0⟩, ⟨1, [], 2⟩, ⟨6, [45], 0⟩, ⟨7, [42], 0⟩, ⟨7, [43], 0⟩]
theorem fmA_eq : (parseE tkA).1 = fmA := by kernel_rfl
end Go.Proofs.Ytchdpjgncojhaaa
