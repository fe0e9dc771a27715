/- slices.Concat at []api.Token. -/
import Derived.Test.YtchdpjgncojhaaaG4
import Derived.Test.YtchdpjgncojhaaaExprSpec3
set_option linter.unusedVariables false
set_option linter.unusedSimpArgs false
namespace Go.Proofs.Ytchdpjgncojhaaa
open Go.RowKit

/-- A slice of slices of tokens. -/
theorem Sl.sl {w : World} {S : Nat → Prop} {A : Option Addr} {n c k : Nat} {xs : List (List Tok)} (h : Sl w S A n c xs) (hk : k < xs.length) : ∃ b o, A = some ⟨b, o, none⟩ ∧ S b ∧ b < w.heap.size ∧
    ∃ A' n' c', w.cell? ⟨b, o + k, none⟩ = some (.slice A' n' c') ∧ Sl w S A' n' c' xs[k] := by
  obtain ⟨b, o, hA, hS, hb, g, hc, A', n', c', h0, hs, _⟩ := h.plain (by decide) hk
  have c0 := hc 0 (by decide)
  rw [h0] at c0
  exact ⟨b, o, hA, hS, hb, A', n', c', by simpa [GoT.size] using c0, hs⟩
def lenK (xs : List (List Tok)) : Nat := (xs.map List.length).sum
theorem lenK_flat (xs : List (List Tok)) : xs.flatten.length = lenK xs := by simp [lenK]
theorem lenK_append (a b : List (List Tok)) : lenK (a ++ b) = lenK a + lenK b := by simp [lenK]
theorem lenK_take (xs : List (List Tok)) (k : Nat) (hk : k < xs.length) : lenK (xs.take (k + 1)) = lenK (xs.take k) + xs[k].length := by
  rw [List.take_succ_eq_append_getElem hk, lenK_append]; rfl
theorem lenK_le (xs : List (List Tok)) (k : Nat) : lenK (xs.take k) ≤ lenK xs := by
  have := lenK_append (xs.take k) (xs.drop k)
  rw [List.take_append_drop] at this
  omega
theorem flat_take (xs : List (List Tok)) (k : Nat) (hk : k < xs.length) : (xs.take (k + 1)).flatten = (xs.take k).flatten ++ xs[k] := by
  rw [List.take_succ_eq_append_getElem hk, List.flatten_append, List.flatten_cons, List.flatten_nil, List.append_nil]
theorem Own.tokT {w : World} {T T' : Nat → Prop} {base e : Nat} {A : Option Addr} {c : Nat} {xs : List Tok} (h : Own w T base e A c xs) : Own w T' base e A c xs := by
  obtain ⟨cs, h1, h3⟩ := h
  exact ⟨cs, h1, fun i hi => h3 i hi⟩

set_option maxRecDepth 100000 in
set_option maxHeartbeats 2000000 in
theorem concat_any (A : Option Addr) (n c : Nat) (w : World) (S : Nat → Prop) (xs : List (List Tok)) (hl : Sl w S A n c xs) (hb : lenK xs ≤ 100000) (hn8 : n ≤ 1000) :
    Calls Try.prog 48 #[.slice A n c] w fun e w' => ∃ A' n' c', e = .returned (.slice A' n' c') ∧ Sl w' (fun b => w.heap.size ≤ b) A' n' c' xs.flatten ∧ Below w.heap.size w w' := by
  have hlen := hl.len
  subst hlen
  have HL := Lib.hid hl; clear hl
  have HX := Lib.hid (lenK_le xs); have HXT := Lib.hid (lenK_take xs); have HFT := Lib.hid (flat_take xs); have HLF := Lib.hid (fun k => lenK_flat (xs.take k))
  go_enter Try.func48, Try.ntmps48
  go_wp2
  go_loop [3, 11] (fun s i => ∃ k : Nat, k ≤ xs.length ∧ i = .int .i64 k ∧ s = .int .i64 (lenK (xs.take k))) (fun _ i => xs.length - (intOf i).toNat)
  case atStart => exact ⟨0, by omega, rfl, rfl⟩
  case round =>
    obtain ⟨k, hk, rfl, rfl⟩ := hrel
    by_cases hlt : k < xs.length
    · obtain ⟨b, o, rfl, -, hbs, A', n', c', h1, hs⟩ := HL.out.sl hlt
      have hn := hs.len
      have h2 := HXT.out k hlt
      have h3 := HX.out (k + 1)
      rw [h2] at h3
      generalize lenK (xs.take k) = L at *
      have H2 := Lib.hid h2; clear h2
      have hH := Lib.hid hn; clear hn hs
      have hn' : n' ≤ 100000 := by have := hH.out; omega
      have h5 : L + n' ≤ 100000 := by have := hH.out; omega
      go_wp2
      go_round
      case rel => exact ⟨k + 1, by omega, by go_num, by rw [H2.out, ← hH.out]; go_num⟩
      case measure => simp [intOf]; omega
    · have hfull : lenK (xs.take k) = lenK xs := by rw [List.take_of_length_le (by omega)]
      rw [hfull]
      have hgr := fun w T => growTok_any (lenK xs) w T (by omega)
      have Hgr := Lib.hid hgr; clear hgr hfull
      have hbl : lenK xs ≤ 100000 := hb
      generalize lenK xs = L at *
      go_wp2_with (go_at_call 69; refine (Hgr.out _ (fun b => b < w.heap.size)).mono ?_; rintro e w1 ⟨A1, c1, rfl, hown1, hb1⟩)
      have HO1 := Lib.hid hown1; clear hown1
      go_loopw [6, 27] (fun s i wr => ∃ (k : Nat) (A2 : Option Addr) (n2 c2 : Nat), k ≤ xs.length ∧ i = .int .i64 k ∧ s = .slice A2 n2 c2 ∧ n2 = (xs.take k).flatten.length ∧ Below w.heap.size w wr ∧ Hid (Own wr (fun b => b < w.heap.size) w.heap.size 54 A2 c2 (xs.take k).flatten)) (fun _ i _ => xs.length - (intOf i).toNat)
      case atStart => exact ⟨0, A1, 0, c1, by omega, rfl, rfl, rfl, hb1, HO1⟩
      case round =>
        obtain ⟨k, A2, n2, c2, hk, rfl, rfl, hn2, hb2, HO⟩ := hrel
        by_cases hlt : k < xs.length
        · obtain ⟨b, o, rfl, -, hbs, A', n', c', h0, hs⟩ := HL.out.sl hlt
          have h1 := (World.cell?_of_block (w := w) (w' := wr) (a := ⟨b, o + k, none⟩) (hb2.block b hbs)).trans h0
          clear h0
          have hf := HFT.out k hlt
          have hnn := hs.len
          have hn2' := hn2
          rw [HLF.out] at hn2'
          have h3 := HX.out (k + 1)
          rw [HXT.out k hlt] at h3
          have h5 : n2 + n' ≤ 100000 := by omega
          have h6 : (xs.take k).flatten.length + n' ≤ 100000 := by omega
          have hsl : Sl wr (fun b => b < w.heap.size ∧ A2.map Addr.block ≠ some b) A' n' c' xs[k] := by
            refine (hs.wide (fun q hq _ => ⟨hq, fun e => ?_⟩) (by decide)).below hb2
            have := (HO.out.lt q e).1
            omega
          have Hs := Lib.hid hsl; clear hsl hs
          have HF := Lib.hid hf; clear hf
          have HN := Lib.hid hn2; have HNN := Lib.hid hnn; clear hn2 hnn hn2' h3
          go_wp2_with (at_builtin; refine wpList_appN rfl (.tmp 31) (.tmp 32) eltTok rfl (by decide) rfl rfl HN.out HO.out rfl Hs.out (by omega) (by omega) (by have := hb2.size; omega) ?_; intro A3 c3 w3 hown3 hg3 hat3)
          go_roundw
          case rel => exact ⟨k + 1, A3, _, c3, by omega, by go_num, rfl, by rw [HF.out, List.length_append, ← HNN.out, ← HN.out], hb2.grown hg3 hb2.size (fun q hq => (HO.out.lt q hq).1), by rw [HF.out]; exact hown3⟩
          case measure => simp [intOf]; omega
        · go_wp2
          go_ret
          have he : xs.take k = xs := List.take_of_length_le (by omega)
          rw [he] at HO hn2
          exact ⟨A2, n2, c2, rfl, by rw [hn2]; exact (HO.out.tokT (T' := fun b => w.heap.size ≤ b)).res, hb2⟩
end Go.Proofs.Ytchdpjgncojhaaa
