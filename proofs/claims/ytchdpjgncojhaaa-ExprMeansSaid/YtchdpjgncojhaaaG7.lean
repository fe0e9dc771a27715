/- expr.call. -/
import Derived.Test.YtchdpjgncojhaaaG6
set_option linter.unusedVariables false
set_option linter.unusedSimpArgs false
namespace Go.Proofs.Ytchdpjgncojhaaa
open Go.RowKit

theorem Sl.wideT {w : World} {S : Nat → Prop} {A : Option Addr} {n c : Nat} {xs : List Tok} (h : Sl w S A n c xs) {P : Nat → Prop} (hP : ∀ k, k < w.heap.size → P k) : Sl w P A n c xs := h.wide (fun k hk _ => hP k hk) (by decide)
theorem lit2 {w : World} {b : Nat} {k1 k2 : Int} {s1 s2 : Bs} {T : Nat → Prop} {base : Nat} (hb : w.heap[b]? = some (.cells #[.int .i64 k1, .string ⟨s1.toArray⟩, .int .i64 k2, .string ⟨s2.toArray⟩] 54 (0, 0))) (hbb : base ≤ b) : Own w T base 54 (some ⟨b, 0, none⟩) 2 [(⟨k1, s1⟩ : Tok), ⟨k2, s2⟩] :=
  Own.lit (cs := [.int .i64 k1, .string ⟨s1.toArray⟩, .int .i64 k2, .string ⟨s2.toArray⟩]) hb hbb rfl (by simp) (fun i hi => match i, hi with
    | 0, _ => ⟨rfl, rfl⟩
    | 1, _ => ⟨rfl, rfl⟩)

set_option maxRecDepth 100000 in
set_option maxHeartbeats 2000000 in
theorem call_any (name : Bs) (A : Option Addr) (n c : Nat) (w : World) (S : Nat → Prop) (args : List Txt) (hl : Sl w S A n c args) (hb : tot args ≤ 10000) (hn8 : n ≤ 1000) :
    Calls Try.prog 44 #[.string ⟨name.toArray⟩, .slice A n c] w fun e w' => ∃ A' n' c', e = .returned (.slice A' n' c') ∧ Sl w' (fun b => w.heap.size ≤ b) A' n' c' (callS name args) ∧ Below w.heap.size w w' := by
  have hlen := hl.len
  subst hlen
  obtain ⟨v, hv⟩ : ∃ v, v = callS name args := ⟨_, rfl⟩
  have hal := argsGo_len args true
  rw [← hv]
  have HL := Lib.hid hl; clear hl
  obtain ⟨u, hu⟩ : ∃ u : List Tok, v = u ++ [symK [41]] ∧ u = [⟨1, name⟩, symK [40]] ++ argsGo (args.drop 0) (decide (0 = 0)) := ⟨_, by rw [hv]; rfl, rfl⟩
  obtain ⟨hu1, hu2⟩ := hu
  have hul : u.length ≤ 20000 := by
    rw [hu2]
    have : (args.drop 0) = args := rfl
    rw [this]
    simp
    omega
  have Hul := Lib.hid hul
  have Hu1 := Lib.hid hu1; have Hu2 := Lib.hid hu2; clear hu1 hu2 hv hal hul
  go_enter Try.func44, Try.ntmps44
  go_wp2_with (first | (go_at_call 45; refine (symT_any _ _).mono ?_; rintro e w1 ⟨rfl, hb1⟩))
  have hown0 : Own (w1.alloc (Obj.cells #[.int .i64 1, .string ⟨name.toArray⟩, .int .i64 3, .string ⟨[40].toArray⟩] 54)) (fun _ => True) w.heap.size 54 (some ⟨w1.heap.size, 0, none⟩) 2 [(⟨1, name⟩ : Tok), ⟨3, [40]⟩] := lit2 (blkAt _ _ rfl) hb1.size
  have HO0 := Lib.hid hown0; clear hown0
  go_loopw [5, 14] (fun s i wr => ∃ (k : Nat) (A2 : Option Addr) (n2 c2 : Nat) (out : List Tok), k ≤ args.length ∧ i = .int .i64 k ∧ s = .slice A2 n2 c2 ∧ Hid (n2 = out.length) ∧ Below w.heap.size w wr ∧ Hid (Own wr (fun _ => True) w.heap.size 54 A2 c2 out) ∧ Hid (u = out ++ argsGo (args.drop k) (decide (k = 0)))) (fun _ i _ => args.length - (intOf i).toNat)
  case atStart => exact ⟨0, some ⟨w1.heap.size, 0, none⟩, 2, 2, _, by omega, rfl, rfl, Lib.hid (show 2 = List.length [(⟨1, name⟩ : Tok), ⟨3, [40]⟩] from rfl), hb1.alloc hb1.size _, HO0, Hu2⟩
  case round =>
    obtain ⟨k, A2, n2, c2, out, hk, rfl, rfl, hn2, hb2, HO, hd⟩ := hrel
    by_cases hlt : k < args.length
    · obtain ⟨b, o, rfl, -, hbs, A', n', c', h1, h2, hs⟩ := HL.out.txt hlt
      rw [← World.cell?_of_block (w := w) (w' := wr) (hb2.block b hbs)] at h1 h2
      have hnn := hs.len
      have hd2 := hd.out
      rw [drop_get hlt, argsGo] at hd2
      generalize args[k] = x at *
      have hlim : out.length + x.toks.length + 1 ≤ 30000 := by
        have h3 := Hul.out
        rw [hd2] at h3
        simp at h3
        omega
      have hsw : Sl w (fun q => q < w.heap.size) A' n' c' x.toks := hs.wideT (fun q hq => hq)
      have hs2 : Sl wr (fun b => True ∧ A2.map Addr.block ≠ some b) A' n' c' x.toks := by
        refine (hs.wideT (fun q hq => ⟨trivial, fun e => ?_⟩)).below hb2
        have := (HO.out.lt q e).1
        omega
      have HSW := Lib.hid hsw; clear hsw
      have HD := Lib.hid hd2; have HS2 := Lib.hid hs2; have HNN := Lib.hid hnn; clear hd2 hs2 hs hd hnn
      have hn' : n' ≤ 30000 := by have := HNN.out; omega
      by_cases hk0 : k = 0
      · have hki : ¬ ((0 : Int) < (k : Int)) := by omega
        have HK := Lib.hid hk0; clear hk0
        go_wp2_with (at_builtin; refine wpList_appN rfl (.tmp 25) (.tmp 27) eltTok rfl (by decide) rfl rfl hn2.out (HO.out.alloc _) rfl (HS2.out.alloc _) (by omega) (by omega) (by have := hb2.size; simp; omega) ?_; intro A3 c3 w3 hown3 hg3 hat3)
        go_roundw
        case rel => exact ⟨k + 1, A3, _, c3, out ++ x.toks, by omega, by go_num, rfl, Lib.hid (by rw [List.length_append, ← HNN.out, ← hn2.out]), (hb2.alloc hb2.size _).grown hg3 (by have := hb2.size; simp; omega) (fun q hq => (HO.out.lt q hq).1), hown3, Lib.hid (by rw [HD.out, HK.out]; simp)⟩
        case measure => simp [intOf]; omega
      · have hki : (0 : Int) < (k : Int) := by omega
        have hx1 : n2 + 1 = (out ++ [symK [44]]).length := by rw [List.length_append, ← hn2.out]; rfl
        have hx2 : (out ++ [symK [44]]).length ≤ 30001 := by rw [← hx1, hn2.out]; omega
        have HX1 := Lib.hid hx1; clear hx1
        have HK := Lib.hid hk0; clear hk0
        have h0s : ∀ (w3 : World) (hb3 : Below (wr.alloc (.cells #[.slice A' n' c', .int .i64 x.lev] 69)).heap.size (wr.alloc (.cells #[.slice A' n' c', .int .i64 x.lev] 69)) w3), w3.cell? ⟨wr.heap.size, 0, none⟩ = some (.slice A' n' c') := fun w3 hb3 => (keptCell hb3 (blkAt _ _ rfl) 0).trans rfl
        have H0S := Lib.hid h0s; clear h0s
        go_wp2_with (first | (go_at_call 45; refine (symT_any _ _).mono ?_; rintro e w3 ⟨rfl, hb3⟩; have h3c := H0S.out w3 hb3; have tok1 : True := trivial) | (at_builtin; have _t := tok1; refine wpList_app1 rfl (.tmp 21) (.tmp 23) eltTok rfl (by decide) rfl rfl hn2.out (((HO.out.alloc _).below hb3).alloc _) rfl [.int .i64 3, .string ⟨[44].toArray⟩] (symK [44]) (blkAt _ _ rfl) rfl ⟨rfl, rfl⟩ (by omega) (by omega) (by have := hb2.size; have := hb3.size; simp at this; simp; omega) ?_; intro A3 c3 w4 hown3 hg3 hat3; clear tok1; have h4c := (grownCell hg3 (blkOld (keptBlk hb3 (blkAt _ _ rfl)) _) (HO.out.ne (Nat.le_refl _)) 0).trans rfl; have h4b : Below w.heap.size w w4 := ((next (hb2.alloc hb2.size _) hb3 (Nat.le_refl _)).alloc (by have := hb2.size; have := hb3.size; simp at this; omega) _).grown hg3 (by have := hb2.size; have := hb3.size; simp at this; simp; omega) (fun q hq => (HO.out.lt q hq).1); have tok2 : True := trivial; have HO3 := Lib.hid hown3; have HG3 := Lib.hid h4b; clear hown3 h4b hg3 hat3) | (at_builtin; have _t := tok2; refine wpList_appN rfl (.tmp 25) (.tmp 27) eltTok rfl (by decide) rfl rfl HX1.out HO3.out rfl ((HSW.out.wide (fun q hq _ => ⟨trivial, fun e => by have := (HO3.out.lt q e).1; omega⟩) (by decide)).below HG3.out) (by omega) (by omega) (by have := HG3.out.size; omega) ?_; intro A5 c5 w5 hown5 hg5 hat5; clear tok2))
        go_roundw
        case rel => exact ⟨k + 1, A5, _, c5, (out ++ [symK [44]]) ++ x.toks, by omega, by go_num, rfl, Lib.hid (by rw [List.length_append, ← HNN.out, ← HX1.out]), HG3.out.grown hg5 HG3.out.size (fun q hq => (HO3.out.lt q hq).1), hown5, Lib.hid (by rw [HD.out]; simp [HK.out])⟩
        case measure => simp [intOf]; omega
    · have hd2 : u = out := by rw [hd.out, drop_end hlt, argsGo, List.append_nil]
      have hol : out.length ≤ 20000 := by have := Hul.out; rw [hd2] at this; exact this
      have HD := Lib.hid hd2; clear hd2
      go_wp2_with (first | (go_at_call 45; refine (symT_any _ _).mono ?_; rintro e w3 ⟨rfl, hb3⟩) | (at_builtin; refine wpList_app1 rfl (.tmp 30) (.tmp 32) eltTok rfl (by decide) rfl rfl hn2.out ((HO.out.below hb3).alloc _) rfl [.int .i64 3, .string ⟨[41].toArray⟩] (symK [41]) (blkAt _ _ rfl) rfl ⟨rfl, rfl⟩ (by omega) (by omega) (by have := hb2.size; have := hb3.size; simp; omega) ?_; intro A4 c4 w4 hown4 hg4 hat4))
      go_ret
      rw [Hu1.out, HD.out]
      refine ⟨A4, _, c4, rfl, ?_, ((hb2.trans (hb3.mono hb2.size)).alloc (by have := hb2.size; have := hb3.size; omega) _).grown hg4 (by have := hb2.size; have := hb3.size; simp; omega) (fun q hq => (HO.out.lt q hq).1)⟩
      have := (hown4.tokT (T' := fun b => w.heap.size ≤ b)).res
      rw [hn2.out]
      simpa using this
end Go.Proofs.Ytchdpjgncojhaaa
