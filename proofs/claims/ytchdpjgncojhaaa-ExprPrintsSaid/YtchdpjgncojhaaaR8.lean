/- licitref08.call. -/
import Derived.Test.YtchdpjgncojhaaaR7
set_option linter.unusedVariables false
set_option linter.unusedSimpArgs false
namespace Go.Proofs.Ytchdpjgncojhaaa
open Go.RowKit

set_option maxRecDepth 100000 in
set_option maxHeartbeats 2000000 in
theorem call8_any (name : Bs) (A : Option Addr) (n c : Nat) (w : World) (S : Nat → Prop) (args : List Txt) (hl : Sl w S A n c args) (hb : tot args ≤ 10000) (hn8 : n ≤ 1000) :
    Calls Try.prog 51 #[.string ⟨name.toArray⟩, .slice A n c] w fun e w' => ∃ A' n' c', e = .returned (.agg #[.slice A' n' c', .int .i64 12]) ∧ Sl w' (fun b => w.heap.size ≤ b) A' n' c' (callS name args) ∧ Below w.heap.size w w' := by
  have hlen := hl.len
  subst hlen
  obtain ⟨v, hv⟩ : ∃ v, v = callS name args := ⟨_, rfl⟩
  have hal := argsGo_len args true
  rw [← hv]
  have HL := Lib.hid hl; clear hl
  obtain ⟨u, hu⟩ : ∃ u : List Tok, v = u ++ [symK [41]] ∧ u = [⟨1, name⟩, symK [40]] ++ argsGo (args.drop 0) (decide (0 = 0)) := ⟨_, by rw [hv]; rfl, rfl⟩
  obtain ⟨hu1, hu2⟩ := hu
  have hul : u.length ≤ 20000 := by
    rw [hu2]
    have : (args.drop 0) = args := rfl
    rw [this]
    simp
    omega
  have Hul := Lib.hid hul
  have Hu1 := Lib.hid hu1; have Hu2 := Lib.hid hu2; clear hu1 hu2 hv hal hul
  go_enter Try.func51, Try.ntmps51
  go_wp2_with fail
  have hR : (w.alloc (.cells #[.slice none 0 0, .int .i64 0] 78)).heap[w.heap.size]? = some (.cells #[.slice none 0 0, .int .i64 0] 78 (0, 0)) := blkAt _ _ rfl
  have hL0 : Sl (w.alloc (.cells #[.slice none 0 0, .int .i64 0] 78)) S A args.length c args := HL.out.alloc _
  have hB0 : Below w.heap.size w (w.alloc (.cells #[.slice none 0 0, .int .i64 0] 78)) := boxed
  have hS0 : w.heap.size < (w.alloc (.cells #[.slice none 0 0, .int .i64 0] 78)).heap.size := lt_alloc _ _
  clear HL
  have HL := Lib.hid hL0; have HR := Lib.hid hR; have HB0 := Lib.hid hB0; clear hL0 hR hB0
  generalize (w.alloc (.cells #[.slice none 0 0, .int .i64 0] 78)) = w0 at *
  go_wp2_with (first | (go_at_call 52; refine (sym8_any _ _).mono ?_; rintro e w1 ⟨rfl, hb1⟩))
  have hown0 : Own (w1.alloc (Obj.cells #[.int .i64 1, .string ⟨name.toArray⟩, .int .i64 3, .string ⟨[40].toArray⟩] 54)) (fun _ => True) w0.heap.size 54 (some ⟨w1.heap.size, 0, none⟩) 2 [(⟨1, name⟩ : Tok), ⟨3, [40]⟩] := lit2 (blkAt _ _ rfl) hb1.size
  have HO0 := Lib.hid hown0; clear hown0
  go_loopw [5, 14] (fun s i wr => ∃ (k : Nat) (A2 : Option Addr) (n2 c2 : Nat) (out : List Tok), k ≤ args.length ∧ i = .int .i64 k ∧ s = .slice A2 n2 c2 ∧ Hid (n2 = out.length) ∧ Below w0.heap.size w0 wr ∧ Hid (Own wr (fun _ => True) w0.heap.size 54 A2 c2 out) ∧ Hid (u = out ++ argsGo (args.drop k) (decide (k = 0)))) (fun _ i _ => args.length - (intOf i).toNat)
  case atStart => exact ⟨0, some ⟨w1.heap.size, 0, none⟩, 2, 2, _, by omega, rfl, rfl, Lib.hid (show 2 = List.length [(⟨1, name⟩ : Tok), ⟨3, [40]⟩] from rfl), hb1.alloc hb1.size _, HO0, Hu2⟩
  case round =>
    obtain ⟨k, A2, n2, c2, out, hk, rfl, rfl, hn2, hb2, HO, hd⟩ := hrel
    by_cases hlt : k < args.length
    · obtain ⟨b, o, rfl, -, hbs, A', n', c', h1, h2, hs⟩ := HL.out.txt hlt
      rw [← World.cell?_of_block (w := w0) (w' := wr) (hb2.block b hbs)] at h1 h2
      have hnn := hs.len
      have hd2 := hd.out
      rw [drop_get hlt, argsGo] at hd2
      generalize args[k] = x at *
      have hlim : out.length + x.toks.length + 1 ≤ 30000 := by
        have h3 := Hul.out
        rw [hd2] at h3
        simp at h3
        omega
      have hsw : Sl w0 (fun q => q < w0.heap.size) A' n' c' x.toks := hs.wideT (fun q hq => hq)
      have hs2 : Sl wr (fun b => True ∧ A2.map Addr.block ≠ some b) A' n' c' x.toks := by
        refine (hs.wideT (fun q hq => ⟨trivial, fun e => ?_⟩)).below hb2
        have := (HO.out.lt q e).1
        omega
      have HSW := Lib.hid hsw; clear hsw
      have HD := Lib.hid hd2; have HS2 := Lib.hid hs2; have HNN := Lib.hid hnn; clear hd2 hs2 hs hd hnn
      have hn' : n' ≤ 30000 := by have := HNN.out; omega
      by_cases hk0 : k = 0
      · have hki : ¬ ((0 : Int) < (k : Int)) := by omega
        have HK := Lib.hid hk0; clear hk0
        go_wp2_with (at_builtin; refine wpList_appN rfl (.tmp 25) (.tmp 27) eltTok rfl (by decide) rfl rfl hn2.out (HO.out.alloc _) rfl (HS2.out.alloc _) (by omega) (by omega) (by have := hb2.size; simp; omega) ?_; intro A3 c3 w3 hown3 hg3 hat3)
        go_roundw
        case rel => exact ⟨k + 1, A3, _, c3, out ++ x.toks, by omega, by go_num, rfl, Lib.hid (by rw [List.length_append, ← HNN.out, ← hn2.out]), (hb2.alloc hb2.size _).grown hg3 (by have := hb2.size; simp; omega) (fun q hq => (HO.out.lt q hq).1), hown3, Lib.hid (by rw [HD.out, HK.out]; simp)⟩
        case measure => simp [intOf]; omega
      · have hki : (0 : Int) < (k : Int) := by omega
        have hx1 : n2 + 1 = (out ++ [symK [44]]).length := by rw [List.length_append, ← hn2.out]; rfl
        have hx2 : (out ++ [symK [44]]).length ≤ 30001 := by rw [← hx1, hn2.out]; omega
        have HX1 := Lib.hid hx1; clear hx1
        have HK := Lib.hid hk0; clear hk0
        have h0s : ∀ (w3 : World) (hb3 : Below (wr.alloc (.cells #[.slice A' n' c', .int .i64 x.lev] 78)).heap.size (wr.alloc (.cells #[.slice A' n' c', .int .i64 x.lev] 78)) w3), w3.cell? ⟨wr.heap.size, 0, none⟩ = some (.slice A' n' c') := fun w3 hb3 => (keptCell hb3 (blkAt _ _ rfl) 0).trans rfl
        have H0S := Lib.hid h0s; clear h0s
        go_wp2_with (first | (go_at_call 52; refine (sym8_any _ _).mono ?_; rintro e w3 ⟨rfl, hb3⟩; have h3c := H0S.out w3 hb3; have tok1 : True := trivial) | (at_builtin; have _t := tok1; refine wpList_app1 rfl (.tmp 21) (.tmp 23) eltTok rfl (by decide) rfl rfl hn2.out (((HO.out.alloc _).below hb3).alloc _) rfl [.int .i64 3, .string ⟨[44].toArray⟩] (symK [44]) (blkAt _ _ rfl) rfl ⟨rfl, rfl⟩ (by omega) (by omega) (by have := hb2.size; have := hb3.size; simp at this; simp; omega) ?_; intro A3 c3 w4 hown3 hg3 hat3; clear tok1; have h4c := (grownCell hg3 (blkOld (keptBlk hb3 (blkAt _ _ rfl)) _) (HO.out.ne (Nat.le_refl _)) 0).trans rfl; have h4b : Below w0.heap.size w0 w4 := ((next (hb2.alloc hb2.size _) hb3 (Nat.le_refl _)).alloc (by have := hb2.size; have := hb3.size; simp at this; omega) _).grown hg3 (by have := hb2.size; have := hb3.size; simp at this; simp; omega) (fun q hq => (HO.out.lt q hq).1); have tok2 : True := trivial; have HO3 := Lib.hid hown3; have HG3 := Lib.hid h4b; clear hown3 h4b hg3 hat3) | (at_builtin; have _t := tok2; refine wpList_appN rfl (.tmp 25) (.tmp 27) eltTok rfl (by decide) rfl rfl HX1.out HO3.out rfl ((HSW.out.wide (fun q hq _ => ⟨trivial, fun e => by have := (HO3.out.lt q e).1; omega⟩) (by decide)).below HG3.out) (by omega) (by omega) (by have := HG3.out.size; omega) ?_; intro A5 c5 w5 hown5 hg5 hat5; clear tok2))
        go_roundw
        case rel => exact ⟨k + 1, A5, _, c5, (out ++ [symK [44]]) ++ x.toks, by omega, by go_num, rfl, Lib.hid (by rw [List.length_append, ← HNN.out, ← HX1.out]), HG3.out.grown hg5 HG3.out.size (fun q hq => (HO3.out.lt q hq).1), hown5, Lib.hid (by rw [HD.out]; simp [HK.out])⟩
        case measure => simp [intOf]; omega
    · have hd2 : u = out := by rw [hd.out, drop_end hlt, argsGo, List.append_nil]
      have hol : out.length ≤ 20000 := by have := Hul.out; rw [hd2] at this; exact this
      have HD := Lib.hid hd2; clear hd2
      go_wp2_with (first | (go_at_call 52; refine (sym8_any _ _).mono ?_; rintro e w3 ⟨rfl, hb3⟩) | (at_builtin; refine wpList_app1 rfl (.tmp 30) (.tmp 32) eltTok rfl (by decide) rfl rfl hn2.out ((HO.out.below hb3).alloc _) rfl [.int .i64 3, .string ⟨[41].toArray⟩] (symK [41]) (blkAt _ _ rfl) rfl ⟨rfl, rfl⟩ (by omega) (by omega) (by have := hb2.size; have := hb3.size; simp; omega) ?_; intro A4 c4 w4 hown4 hg4 hat4; have hR4 := grownBlk hg4 (blkOld (keptBlk hb3 (keptBlk hb2 HR.out)) _) (fun e => by have := (HO.out.lt _ e).1; omega); have r0 : w4.cell? ⟨w.heap.size, 0, none⟩ = some (.slice none 0 0) := (cell_blk hR4 0).trans rfl; have r1 : w4.cell? ⟨w.heap.size, 1, none⟩ = some (.int .i64 0) := (cell_blk hR4 1).trans rfl; have z0 := frz_blk hR4 0; have z1 := frz_blk hR4 1; have HR4 := Lib.hid hR4; clear hR4))
      have hb4 : Below w0.heap.size w0 w4 := ((hb2.trans (hb3.mono hb2.size)).alloc (by have := hb2.size; have := hb3.size; omega) _).grown hg4 (by have := hb2.size; have := hb3.size; simp; omega) (fun q hq => (HO.out.lt q hq).1)
      refine bodyPost_ret (v := .agg #[.slice A4 (n2 + 1) c4, .int .i64 12]) ?_ rfl ⟨A4, n2 + 1, c4, rfl, ?_, ?_⟩
      · have q0 := Blk.set w4 HR4.out 0 (.slice A4 (n2 + 1) c4)
        have q1 := Blk.set _ q0 1 (.int .i64 12)
        have d0 : (w4.setCell ⟨w.heap.size, 0, none⟩ (.slice A4 (n2 + 1) c4)).cell? ⟨w.heap.size, 0, none⟩ = some (.slice A4 (n2 + 1) c4) := (cell_blk q0 0).trans rfl
        have d2 : ((w4.setCell ⟨w.heap.size, 0, none⟩ (.slice A4 (n2 + 1) c4)).setCell ⟨w.heap.size, 1, none⟩ (.int .i64 12)).cell? ⟨w.heap.size, 0, none⟩ = some (.slice A4 (n2 + 1) c4) := (cell_blk q1 0).trans rfl
        have d1 : ((w4.setCell ⟨w.heap.size, 0, none⟩ (.slice A4 (n2 + 1) c4)).setCell ⟨w.heap.size, 1, none⟩ (.int .i64 12)).cell? ⟨w.heap.size, 1, none⟩ = some (.int .i64 12) := (cell_blk q1 1).trans rfl
        simp [results, Try.results51, go_sem, d0, d1, d2]
      · rw [Hu1.out, HD.out]
        have hs4 := (hown4.tokT (T' := fun b => w0.heap.size ≤ b)).res
        have hs5 : Sl w4 (fun b => w0.heap.size ≤ b) A4 (n2 + 1) c4 (out ++ [symK [41]]) := by rw [hn2.out]; simpa using hs4
        have hs6 := hs5.wide (S' := fun b => w.heap.size < b) (fun k _ hk => Nat.lt_of_lt_of_le hS0 hk) (by decide)
        refine (hs6.keep (w' := (w4.setCell ⟨w.heap.size, 0, none⟩ (.slice A4 (n2 + 1) c4)).setCell ⟨w.heap.size, 1, none⟩ (.int .i64 12)) (fun k _ hk => ?_)).wide (fun k _ hk => Nat.le_of_lt hk) (by decide)
        exact (set_other _ _ _ _ _ (by omega)).trans (set_other _ _ _ _ _ (by omega))
      · exact stored2 (HB0.out.trans (hb4.mono HB0.out.size)) _ _
end Go.Proofs.Ytchdpjgncojhaaa
