/- Query (package licitlaw54): a part of the proofs of its laws; see the law's own text, which comes last in 'order'. No conditions of its own. -/
import Derived.Test.YtkjoaodoioicpaaGreatDoorWC04
import Derived.Test.YtkjoaodoioicpaaGreatDoorWC08
import Derived.Test.YtkjoaodoioicpaaGreatDoorWC09
import Derived.Test.YtkjoaodoioicpaaGreatDoorWC14
import Derived.Test.YtkjoaodoioicpaaGreatDoorWC35
set_option linter.unusedVariables false
set_option linter.unusedSimpArgs false
namespace Go.Proofs.YtkjoaodoioicpaaGreatDoor
open Go.RowKit
variable {N : Nat}
theorem rarg_len (p : RSt) : (rarg p).2.1.length ≤ p.1.length := by
  rw [rarg_eq]
  simp only
  split <;> simp
theorem ris_len (p : RSt) (k : Nat) (s : Bs) : (ris p k s).2.1.length ≤ p.1.length := by
  unfold ris
  split <;> simp
theorem ris_lt {p : RSt} {k : Nat} {s : Bs} (hk : k ≠ 0) (h : (ris p k s).1 = true) : (ris p k s).2.1.length + 1 ≤ p.1.length := by
  unfold ris at *
  split at h
  · rename_i he
    rw [if_pos he]
    unfold rnext at he
    cases hp : p.1 with
    | nil => rw [hp] at he; exact absurd (congrArg RTk.kind he).symm hk
    | cons a r => simp
  · cases h
theorem ris_no {p : RSt} {k : Nat} {s : Bs} (h : (ris p k s).1 = false) : (ris p k s).2 = p := by
  unfold ris at *
  split at h
  · cases h
  · rename_i he; rw [if_neg he]
theorem rarg_ok {w : World} {g : Nat} {p : RSt} (h : RW N w g p) : OkA (rarg p).1 := okA_rargOf h.nextOk
structure ATR (N : Nat) (w wx : World) (g b2 b3 : Nat) (nm : Bs) (args : List Arg) (p : RSt) : Prop where
  pw : RW N wx g p
  hg : g < w.heap.size
  h2 : w.heap.size ≤ b2
  h3 : b2 < b3
  res : wx.heap[b2]? = some (.cells #[.string ⟨#[]⟩, .slice none 0 0] 31 (0, 0))
  own : ∃ A c, wx.heap[b3]? = some (.cells #[.string ⟨nm.toArray⟩, .slice A args.length c] 31 (0, 0)) ∧ Own wx (fun _ => False) (b3 + 1) 46 A c args
  frm : Frm (MG g) w wx
  ok : OkT ⟨nm, args⟩
theorem ATR.call {w wx wy : World} {g b2 b3 : Nat} {nm : Bs} {args : List Arg} {p q : RSt} (h : ATR N w wx g b2 b3 nm args p) (hp : RW N wy g q) (hf : Frm (MG g) wx wy) : ATR N w wy g b2 b3 nm args q := by
  obtain ⟨A, c, hb, ho⟩ := h.own
  have := h.hg; have := h.h2; have := h.h3
  exact ⟨hp, h.hg, h.h2, h.h3, (hf.block _ (Array.getElem?_eq_some_iff.1 h.res).1 (fun e => by have : b2 = g := e; omega)).trans h.res,
    ⟨A, c, (hf.block _ (Array.getElem?_eq_some_iff.1 hb).1 (fun e => by have : b3 = g := e; omega)).trans hb, ho.keep (fun k hk hs => hf.block k hk (fun e => by
      have e : k = g := e
      rcases hs with hs | hs
      · exact hs
      · have := (ho.lt k hs).1; omega))⟩, h.frm.trans hf, h.ok⟩
theorem ATR.bad {w wx : World} {g b2 b3 : Nat} {nm : Bs} {args : List Arg} {p : RSt} (h : ATR N w wx g b2 b3 nm args p) (b : Bool) : ATR N w (wx.setCell ⟨g, 2, none⟩ (.bool b)) g b2 b3 nm args (p.1, b) :=
  h.call (h.pw.bad b) ((Frm.refl (MG g) wx).setCell (p := ⟨g, 2, none⟩) (fun _ => rfl) _)
theorem ATR.below {w wx wy : World} {g b2 b3 : Nat} {nm : Bs} {args : List Arg} {p : RSt} (h : ATR N w wx g b2 b3 nm args p) (hb : Below wx.heap.size wx wy) : ATR N w wy g b2 b3 nm args p := h.call (h.pw.below hb) (Frm.any hb)
theorem ATR.app {w wx w6 : World} {g b2 b3 : Nat} {nm : Bs} {args : List Arg} {p : RSt} {A A' : Option Addr} {c c' : Nat} {a : Arg} (h : ATR N w wx g b2 b3 nm args p)
    (hb : wx.heap[b3]? = some (.cells #[.string ⟨nm.toArray⟩, .slice A args.length c] 31 (0, 0))) (ho : Own wx (fun _ => False) (b3 + 1) 46 A c args)
    (ho' : Own w6 (fun _ => False) (b3 + 1) 46 A' c' (args ++ [a])) (hgr : wx.grownBy w6 (A.map Addr.block)) (ha : OkA a) :
    ATR N w (w6.setCell ⟨b3, 1, none⟩ (.slice A' (args.length + 1) c')) g b2 b3 nm (args ++ [a]) p := by
  have e1 := h.hg; have e2 := h.h2; have e3 := h.h3
  have hne : ∀ k, k ≤ b3 → A.map Addr.block ≠ some k := fun k hk e => by have := (ho.lt k e).1; omega
  have hk6 : ∀ k, k < wx.heap.size → k ≤ b3 → w6.heap[k]? = wx.heap[k]? := fun k hk hk3 => hgr.block k hk (fun e => hne k hk3 e.symm)
  have hlt3 := (Array.getElem?_eq_some_iff.1 hb).1
  have hb6 := (hk6 b3 hlt3 (Nat.le_refl _)).trans hb
  refine ⟨h.pw.keepG (fun k hk => (set_other _ _ _ _ _ (by omega)).trans (hk6 k (by have := h.pw.lt; omega) (by omega))), e1, e2, e3, (set_other _ _ _ _ _ (by omega)).trans ((hk6 b2 (by omega) (by omega)).trans h.res), ?_, ?_, h.ok.1, ?_⟩
  · refine ⟨A', c', ?_, ho'.keep (fun k _ hs => set_other _ _ _ _ _ (fun e => by rcases hs with hs | hs; exact hs; have := (ho'.lt k hs).1; omega))⟩
    rw [Blk.set w6 hb6 1]
    simp
  · exact (h.frm.grown hgr (fun k hk hkw => by have := (ho.lt k hk).1; omega)).setCell (p := ⟨b3, 1, none⟩) (fun hk => by have hk : b3 < w.heap.size := hk; omega) _
  · intro x hx
    rcases List.mem_append.1 hx with hx | hx
    · exact h.ok.2 x hx
    · rw [List.mem_singleton.1 hx]; exact ha
theorem ATR.same {w wx wy : World} {g b2 b3 : Nat} {nm : Bs} {args : List Arg} {p : RSt} {A : Option Addr} {c : Nat} (h : ATR N w wx g b2 b3 nm args p)
    (hb : wx.heap[b3]? = some (.cells #[.string ⟨nm.toArray⟩, .slice A args.length c] 31 (0, 0))) (ho : Own wx (fun _ => False) (b3 + 1) 46 A c args) (hf : Frm (MG g) wx wy) :
    wy.heap[b3]? = some (.cells #[.string ⟨nm.toArray⟩, .slice A args.length c] 31 (0, 0)) ∧ Own wy (fun _ => False) (b3 + 1) 46 A c args := by
  have := h.hg; have := h.h2; have := h.h3
  exact ⟨(hf.block _ (Array.getElem?_eq_some_iff.1 hb).1 (fun e => by have : b3 = g := e; omega)).trans hb, ho.keep (fun k hk hs => hf.block k hk (fun e => by
      have e : k = g := e
      rcases hs with hs | hs
      · exact hs
      · have := (ho.lt k hs).1; omega))⟩
def ARPost (N : Nat) (w : World) (g : Nat) (r : Atm × RSt) (e : Ending) (w' : World) : Prop :=
  (∃ A n c, e = .returned (.agg #[.string ⟨r.1.name.toArray⟩, .slice A n c]) ∧ Sl w' (fun b => w.heap.size ≤ b) A n c r.1.args) ∧ RW N w' g r.2 ∧ Frm (MG g) w w' ∧ OkT r.1
theorem rmore_cons (f : Nat) (p : RSt) (out : List Arg) : rmore (f + 1) p out = if !p.2 && (ris p 115 [44]).1 then (let a := rarg (ris p 115 [44]).2; rmore f a.2 (out ++ [a.1])) else (out, p) := rfl
set_option maxRecDepth 100000 in
set_option maxHeartbeats 16000000 in
theorem ratom_any (g : Nat) (p : RSt) (w : World) (h : RW N w g p) :
    Calls Tryz.prog 69 #[.pointer (some ⟨g, 0, none⟩)] w (ARPost N w g (ratom p)) := by
  have hn := rnext_any g p (w.alloc (.cells #[.string ⟨#[]⟩, .slice none 0 0] 31)) (h.alloc _)
  have hgw := h.lt
  have hok := h.nextOk
  have hN := h.len
  have hadv := fun w' (h' : RW N w' g p) => h'.adv
  obtain ⟨R, hR⟩ : ∃ R, R = ratom p := ⟨_, rfl⟩
  rw [← hR]
  unfold ratom at hR
  simp only at hR
  obtain ⟨t, ht⟩ : ∃ t, t = rnext p := ⟨_, rfl⟩
  rw [← ht] at hn hok hadv hR
  obtain ⟨tk, tt⟩ := t
  obtain ⟨pl, pb⟩ := p
  unfold vTk at hn
  simp only at hn hok hadv hR hN
  obtain ⟨ok1, ok2, -⟩ := hok
  simp only at ok1 ok2
  have hpr := fun w => rpredicate_any tt w (by omega)
  have hcs : (tk ≠ 119 ∧ R = (default, (pl, true))) ∨ (tk = 119 ∧ predS tt = false ∧ R = (default, (pl, true))) ∨ (tk = 119 ∧ predS tt = true ∧ R = if !(ris (pl.drop 1, pb) 115 [40]).1 then (⟨tt, []⟩, (pl.drop 1, pb)) else
      (if (rmore ((ris (pl.drop 1, pb) 115 [40]).2.1.length + 1) (rarg (ris (pl.drop 1, pb) 115 [40]).2).2 [(rarg (ris (pl.drop 1, pb) 115 [40]).2).1]).2.2 then (⟨tt, (rmore ((ris (pl.drop 1, pb) 115 [40]).2.1.length + 1) (rarg (ris (pl.drop 1, pb) 115 [40]).2).2 [(rarg (ris (pl.drop 1, pb) 115 [40]).2).1]).1⟩, (rmore ((ris (pl.drop 1, pb) 115 [40]).2.1.length + 1) (rarg (ris (pl.drop 1, pb) 115 [40]).2).2 [(rarg (ris (pl.drop 1, pb) 115 [40]).2).1]).2)
        else (⟨tt, (rmore ((ris (pl.drop 1, pb) 115 [40]).2.1.length + 1) (rarg (ris (pl.drop 1, pb) 115 [40]).2).2 [(rarg (ris (pl.drop 1, pb) 115 [40]).2).1]).1⟩, ((ris (rmore ((ris (pl.drop 1, pb) 115 [40]).2.1.length + 1) (rarg (ris (pl.drop 1, pb) 115 [40]).2).2 [(rarg (ris (pl.drop 1, pb) 115 [40]).2).1]).2 115 [41]).2.1, !(ris (rmore ((ris (pl.drop 1, pb) 115 [40]).2.1.length + 1) (rarg (ris (pl.drop 1, pb) 115 [40]).2).2 [(rarg (ris (pl.drop 1, pb) 115 [40]).2).1]).2 115 [41]).1 || decide (6 < (rmore ((ris (pl.drop 1, pb) 115 [40]).2.1.length + 1) (rarg (ris (pl.drop 1, pb) 115 [40]).2).2 [(rarg (ris (pl.drop 1, pb) 115 [40]).2).1]).1.length))))) := by
    by_cases hk : tk = 119
    · cases hp : predS tt with
      | false => right; left; exact ⟨hk, rfl, by rw [hR, if_pos (by simp [hp])]⟩
      | true => right; right; exact ⟨hk, rfl, by rw [hR, if_neg (by simp [hp, hk])]⟩
    · left; exact ⟨hk, by rw [hR, if_pos (by simp [hk])]⟩
  clear hR ht
  have HN := Lib.hid hn; have HH := Lib.hid h; have HADV := Lib.hid hadv; have HPR := Lib.hid hpr; have HCS := Lib.hid hcs
  clear hn h hadv hpr hcs
  rcases HCS.out with ⟨h1, h2⟩ | ⟨h1, h2, h3⟩ | ⟨h1, h2, h3⟩
  · have HR := Lib.hid h2; clear h2 HCS
    have kb : ((tk : Int) == 119) = false := by rw [beq_eq_false_iff_ne]; omega
    go_enter Tryz.func69, Tryz.ntmps69
    go_wp2_with fail
    refine HN.out.mono ?_
    rintro e w1 ⟨rfl, hb1⟩
    have hs1 : w.heap.size < w1.heap.size := by { have := hb1.size; simp at this; omega }
    have hR1 := keptBlk hb1 (blkAt w (.cells #[.string ⟨#[]⟩, .slice none 0 0] 31) rfl)
    have hrw1 := (HH.out.alloc (.cells #[.string ⟨#[]⟩, .slice none 0 0] 31)).below hb1
    have hbw : Below w.heap.size w w1 := boxed.trans (hb1.mono (by simp))
    have hg1 : g < w1.heap.size := by omega
    have hgn : g ≠ w.heap.size := by omega
    have hgm : g ≠ w1.heap.size := by omega
    have hgm2 : g ≠ w1.heap.size + 1 := by omega
    have hnn : w.heap.size ≠ w1.heap.size + 1 := by omega
    obtain ⟨c2, z2⟩ := hrw1.c2
    simp only at c2
    have r0 := (cell_blk hR1 0).trans rfl; have r1 := (cell_blk hR1 1).trans rfl
    have y0 := frz_blk hR1 0; have y1 := frz_blk hR1 1
    have HRB := Lib.hid hR1; have HBW := Lib.hid hbw; have HRW := Lib.hid hrw1
    clear hR1 hbw hrw1 hb1
    go_wp2_with fail
    have hrb := HRW.out.bad true
    have hR2 : (w1.setCell ⟨g, 2, none⟩ (.bool true)).heap[w.heap.size]? = some (.cells #[.string ⟨#[]⟩, .slice none 0 0] 31 (0, 0)) := (set_other _ _ _ _ _ (Ne.symm hgn)).trans HRB.out
    have hRF := blkOld (Blk.set _ (Blk.set _ hR2 0 (.string ⟨#[]⟩)) 1 (.slice none 0 0)) (.cells #[.int .u8 tk, .string ⟨tt.toArray⟩] 114)
    have q0 := (cell_blk hRF 0).trans rfl; have q1 := (cell_blk hRF 1).trans rfl
    refine bodyPost_ret (v := .agg #[.string ⟨#[]⟩, .slice none 0 0]) (by simp [results, Tryz.results69, go_sem, q0, q1]) rfl ?_
    unfold ARPost
    rw [HR.out]
    exact ⟨⟨none, 0, 0, rfl, Sl.nil _ _ _ _ (by decide)⟩, ((hrb.other (by omega) 0 (.string ⟨#[]⟩)).other (by omega) 1 (.slice none 0 0)).alloc (.cells #[.int .u8 tk, .string ⟨tt.toArray⟩] 114), (((((Frm.any (M := MG g) HBW.out).setCell (p := ⟨g, 2, none⟩) (fun _ => rfl) (.bool true)).setCell (p := ⟨w.heap.size, 0, none⟩) (fun h => absurd h (Nat.lt_irrefl _)) (.string ⟨#[]⟩)).setCell (p := ⟨w.heap.size, 1, none⟩) (fun h => absurd h (Nat.lt_irrefl _)) (.slice none 0 0)).alloc (.cells #[.int .u8 tk, .string ⟨tt.toArray⟩] 114)), ⟨by simp [default, instInhabitedAtm.default], fun a ha => by cases ha⟩⟩
  · have HR := Lib.hid h3; clear h3 HCS
    subst h1
    have hp2 := fun w => HPR.out w
    rw [h2] at hp2
    have HPR2 := Lib.hid hp2; clear hp2 h2
    go_enter Tryz.func69, Tryz.ntmps69
    go_wp2_with fail
    refine HN.out.mono ?_
    rintro e w1 ⟨rfl, hb1⟩
    have hs1 : w.heap.size < w1.heap.size := by { have := hb1.size; simp at this; omega }
    have hR1 := keptBlk hb1 (blkAt w (.cells #[.string ⟨#[]⟩, .slice none 0 0] 31) rfl)
    have hrw1 := (HH.out.alloc (.cells #[.string ⟨#[]⟩, .slice none 0 0] 31)).below hb1
    have hbw : Below w.heap.size w w1 := boxed.trans (hb1.mono (by simp))
    have hg1 : g < w1.heap.size := by omega
    have hgn : g ≠ w.heap.size := by omega
    have hgm : g ≠ w1.heap.size := by omega
    have hgm2 : g ≠ w1.heap.size + 1 := by omega
    have hnn : w.heap.size ≠ w1.heap.size + 1 := by omega
    obtain ⟨c2, z2⟩ := hrw1.c2
    simp only at c2
    have r0 := (cell_blk hR1 0).trans rfl; have r1 := (cell_blk hR1 1).trans rfl
    have y0 := frz_blk hR1 0; have y1 := frz_blk hR1 1
    have HRB := Lib.hid hR1; have HBW := Lib.hid hbw; have HRW := Lib.hid hrw1
    clear hR1 hbw hrw1 hb1
    go_wp2_with fail
    refine (HPR2.out _).mono ?_
    rintro e w' ⟨rfl, rfl⟩
    go_wp2_with fail
    have hrb := HRW.out.bad true
    have hR2 : (w1.setCell ⟨g, 2, none⟩ (.bool true)).heap[w.heap.size]? = some (.cells #[.string ⟨#[]⟩, .slice none 0 0] 31 (0, 0)) := (set_other _ _ _ _ _ (Ne.symm hgn)).trans HRB.out
    have hRF := blkOld (Blk.set _ (Blk.set _ hR2 0 (.string ⟨#[]⟩)) 1 (.slice none 0 0)) (.cells #[.int .u8 119, .string ⟨tt.toArray⟩] 114)
    have q0 := (cell_blk hRF 0).trans rfl; have q1 := (cell_blk hRF 1).trans rfl
    refine bodyPost_ret (v := .agg #[.string ⟨#[]⟩, .slice none 0 0]) (by simp [results, Tryz.results69, go_sem, q0, q1]) rfl ?_
    unfold ARPost
    rw [HR.out]
    exact ⟨⟨none, 0, 0, rfl, Sl.nil _ _ _ _ (by decide)⟩, ((hrb.other (by omega) 0 (.string ⟨#[]⟩)).other (by omega) 1 (.slice none 0 0)).alloc (.cells #[.int .u8 119, .string ⟨tt.toArray⟩] 114), (((((Frm.any (M := MG g) HBW.out).setCell (p := ⟨g, 2, none⟩) (fun _ => rfl) (.bool true)).setCell (p := ⟨w.heap.size, 0, none⟩) (fun h => absurd h (Nat.lt_irrefl _)) (.string ⟨#[]⟩)).setCell (p := ⟨w.heap.size, 1, none⟩) (fun h => absurd h (Nat.lt_irrefl _)) (.slice none 0 0)).alloc (.cells #[.int .u8 119, .string ⟨tt.toArray⟩] 114)), ⟨by simp [default, instInhabitedAtm.default], fun a ha => by cases ha⟩⟩
  · subst h1
    have hp2 := fun w => HPR.out w
    rw [h2] at hp2
    have HPR2 := Lib.hid hp2; have HR0 := Lib.hid h3; clear hp2 h2 h3 HCS
    go_enter Tryz.func69, Tryz.ntmps69
    go_wp2_with fail
    refine HN.out.mono ?_
    rintro e w1 ⟨rfl, hb1⟩
    have hs1 : w.heap.size < w1.heap.size := by { have := hb1.size; simp at this; omega }
    have hR1 := keptBlk hb1 (blkAt w (.cells #[.string ⟨#[]⟩, .slice none 0 0] 31) rfl)
    have hrw1 := (HH.out.alloc (.cells #[.string ⟨#[]⟩, .slice none 0 0] 31)).below hb1
    have hbw : Below w.heap.size w w1 := boxed.trans (hb1.mono (by simp))
    have hg1 : g < w1.heap.size := by omega
    have hgn : g ≠ w.heap.size := by omega
    have hgm : g ≠ w1.heap.size := by omega
    have hgm2 : g ≠ w1.heap.size + 1 := by omega
    have hnn : w.heap.size ≠ w1.heap.size + 1 := by omega
    obtain ⟨c2, z2⟩ := hrw1.c2
    simp only at c2
    have r0 := (cell_blk hR1 0).trans rfl; have r1 := (cell_blk hR1 1).trans rfl
    have y0 := frz_blk hR1 0; have y1 := frz_blk hR1 1
    have HRB := Lib.hid hR1; have HBW := Lib.hid hbw; have HRW := Lib.hid hrw1
    clear hR1 hbw hrw1 hb1
    obtain ⟨pos, a1, a2, a3, a4⟩ := HADV.out _ HRW.out (by omega)
    have hq : IntKind.i64.wrap ((pos : Int) + 1) = (pos : Int) + 1 := by simp [IntKind.wrap, IntKind.signed, IntKind.bits]; omega
    have HQ := Lib.hid a4; clear a4
    go_wp2_with fail
    refine (HPR2.out _).mono ?_
    rintro e w' ⟨rfl, rfl⟩
    have hat : ATR N w (((w1.setCell ⟨g, 1, none⟩ (.int .i64 ((pos : Int) + 1))).alloc (.cells #[.int .u8 119, .string ⟨tt.toArray⟩] 114)).alloc (.cells #[.string ⟨tt.toArray⟩, .slice none 0 0] 31)) g w.heap.size (w1.heap.size + 1) tt [] (pl.drop 1, pb) :=
      ⟨(HQ.out.alloc _).alloc _, hgw, Nat.le_refl _, by omega, blkOld (blkOld ((set_other _ _ _ _ _ (Ne.symm hgn)).trans HRB.out) _) _, ⟨none, 0, blkAt _ _ (by simp [World.setCell]), Own.nil _ _ _ _⟩, (((Frm.any (M := MG g) HBW.out).setCell (p := ⟨g, 1, none⟩) (fun _ => rfl) _).alloc _).alloc _, ⟨by simp only; omega, fun a ha => by cases ha⟩⟩
    have hta := ris_any g (pl.drop 1, pb) 115 [40] _ hat.pw (by omega)
    have htl := ris_len (pl.drop 1, pb) 115 [40]
    have hlt := ris_lt (p := (pl.drop 1, pb)) (k := 115) (s := [40]) (by omega)
    have hno := ris_no (p := (pl.drop 1, pb)) (k := 115) (s := [40])
    generalize ris (pl.drop 1, pb) 115 [40] = t at *
    obtain ⟨t1, t2⟩ := t
    simp only at hta htl hlt hno
    have hpl : (pl.drop 1).length ≤ 1000000 := by rw [List.length_drop]; omega
    generalize hb3 : w1.heap.size + 1 = b3 at *
    have HAT := Lib.hid hat; have HTA := Lib.hid hta; clear hat hta
    go_wp2_with fail
    (try rw [hb3])
    clear hb3
    refine HTA.out.mono ?_
    rintro e w2 ⟨rfl, hw2, hf2⟩
    have hat2 := HAT.out.call hw2 hf2
    have HAT2 := Lib.hid hat2; clear hat2 hw2 hf2 HAT HTA a1 a2 c2 z2 r0 r1 y0 y1
    cases t1
    · have hqq := hno rfl
      subst hqq
      have hr := HR0.out
      simp only [Bool.not_false, if_true] at hr
      have HR := Lib.hid hr; clear hr HR0
      have hres := HAT2.out.res
      obtain ⟨A, c, hb, ho⟩ := HAT2.out.own
      have h3 := HAT2.out.h3
      have k0 := (cell_blk hb 0).trans rfl; have k1 := (cell_blk hb 1).trans rfl
      have r0 := (cell_blk hres 0).trans rfl; have r1 := (cell_blk hres 1).trans rfl
      have y0 := frz_blk hres 0; have y1 := frz_blk hres 1
      have HRES := Lib.hid hres; have HO := Lib.hid ho; clear hres hb ho
      go_wp2_with fail
      have hRF := Blk.set _ (Blk.set _ HRES.out 0 (.string ⟨tt.toArray⟩)) 1 (.slice A 0 c)
      have q0 := (cell_blk hRF 0).trans rfl; have q1 := (cell_blk hRF 1).trans rfl
      refine bodyPost_ret (v := .agg #[.string ⟨tt.toArray⟩, .slice A 0 c]) (by simp [results, Tryz.results69, go_sem, q0, q1]) rfl ?_
      unfold ARPost
      rw [HR.out]
      exact ⟨⟨A, 0, c, rfl, Sl.nil _ _ _ _ HO.out.cap.2⟩, (HAT2.out.pw.other (by omega) 0 _).other (by omega) 1 _, (HAT2.out.frm.setCell (p := ⟨w.heap.size, 0, none⟩) (fun h => absurd h (Nat.lt_irrefl _)) _).setCell (p := ⟨w.heap.size, 1, none⟩) (fun h => absurd h (Nat.lt_irrefl _)) _, HAT2.out.ok⟩
    · have hr := HR0.out
      simp only [Bool.not_true, Bool.false_eq_true, if_false] at hr
      clear hlt hno
      have hga := fun w h => rargR_any (N := N) g t2 w h
      have hgl := rarg_len t2
      have hgo := rarg_ok HAT2.out.pw
      generalize rarg t2 = a1 at *
      obtain ⟨a1, p1⟩ := a1
      simp only at hga hgl hgo hr
      obtain ⟨M, hM⟩ : ∃ M, M = rmore (t2.1.length + 1) p1 [a1] := ⟨_, rfl⟩
      rw [← hM] at hr
      have HMM := Lib.hid hM; clear hM
      have HR2 := Lib.hid hr; have HGA := Lib.hid hga; have HGO := Lib.hid hgo
      clear hr hga hgo HR0
      have hD := HAT2.out.below (wy := w2.drew) (Below.refl _ _).drew
      obtain ⟨A, c, hb, ho⟩ := hD.own
      have hS : w2.drew.cell? ⟨b3, 1, none⟩ = some (.slice A 0 c) := (cell_blk hb 1).trans rfl
      have hcap := ho.cap
      have HD := Lib.hid hD; have HB := Lib.hid hb; have HO := Lib.hid ho; clear hD hb ho
      go_wp2_with fail
      refine wpY_region (fun x => x.cell? ⟨b3, 1, none⟩ = some (.slice A 0 c)) 7 (by kernel_rfl) ?_
      have HX := Lib.hid (fun (x : World) (hx : x.cell? ⟨b3, 1, none⟩ = some (.slice A 0 c)) => hx)
      (refine wpAnyY_takeW 0 rfl rfl (by kernel_rfl) (by kernel_rfl) (by kernel_rfl) (by kernel_rfl) (fun _ _ _ h => h) (v := ?_) (by kernel_rfl) hS ?_ ?_; rotate_left; (focus (intro x hx; have fx := HX.out x hx; go_simp; (try with_reducible rfl); done)); (try simp only [Act.put, lsa, lsz, lss]))
      (refine wpAnyY_takeW 1 rfl rfl (by kernel_rfl) (by kernel_rfl) (by kernel_rfl) (by kernel_rfl) (fun _ _ _ h => h) (v := ?_) (by kernel_rfl) hS ?_ ?_; rotate_left; (focus (intro x hx; have fx := HX.out x hx; go_simp; (try with_reducible rfl); done)); (try simp only [Act.put, lsa, lsz, lss]))
      (refine wpAnyY_takeW 2 rfl rfl (by kernel_rfl) (by kernel_rfl) (by kernel_rfl) (by kernel_rfl) (fun _ _ _ h => h) (v := ?_) (by kernel_rfl) hS ?_ ?_; rotate_left; (focus (intro x hx; have fx := HX.out x hx; go_simp; (try with_reducible rfl); done)); (try simp only [Act.put, lsa, lsz, lss]))
      refine wpAnyY_one 3 (by kernel_rfl) rfl ?_
      intro K' hK'
      go_simp
      refine (HGA.out _ HD.out.pw).mono ?_
      rintro e w3 ⟨rfl, hw3, hf3⟩
      have hat3 := HD.out.call hw3 hf3
      obtain ⟨hb3', ho3⟩ := HD.out.same HB.out HO.out hf3
      have hS3 : w3.cell? ⟨b3, 1, none⟩ = some (.slice A 0 c) := (cell_blk hb3' 1).trans rfl
      have hb4 := blkOld hb3' (.cells (argC a1) 46)
      have hlt3 := (Array.getElem?_eq_some_iff.1 hb3').1
      have HAT4 := Lib.hid (hat3.below (wy := w3.alloc (.cells (argC a1) 46)) boxed); have HB4 := Lib.hid hb4; have HO4 := Lib.hid (ho3.alloc (.cells (argC a1) 46))
      clear hw3 hf3 hat3 hb3' ho3 hb4
      refine hK'.out _ _ (fun _ => hS3) ?_
      clear hK' K'
      unfold vArg
      refine wpAnyY_one 4 (by kernel_rfl) rfl ?_
      intro K' hK'
      go_simp
      refine hK'.out _ _ (fun _ => cell_alloc' hS3 _) ?_
      clear hK' K'
      refine wpAnyY_one 5 (by kernel_rfl) rfl ?_
      intro K' hK'
      refine step_app1 (T := fun _ => False) (base := b3 + 1) (xs := []) rfl _ _ eltArg rfl (by decide) rfl rfl rfl HO4.out rfl [.int .i64 a1.kind, .string ⟨a1.text.toArray⟩, .int .i64 a1.num] a1 (blkAt _ _ rfl) rfl ⟨rfl, rfl, rfl⟩ (by simp only [List.length_nil]; omega) (by simp only [List.length_nil]; omega) (by simp; omega) ?_
      intro A' c' w6 hown6 hg6 hat6
      have hb6 := grownBlk hg6 HB4.out (fun e => by have := (HO4.out.lt b3 e).1; omega)
      have hS6 : w6.cell? ⟨b3, 1, none⟩ = some (.slice A 0 c) := (cell_blk hb6 1).trans rfl
      have hZ6 := frz_blk hb6 1
      have hat7 := HAT4.out.app HB4.out HO4.out hown6 hg6 HGO.out
      have HAT7 := Lib.hid hat7; clear hat7 hown6 hg6 hat6 hb6
      refine hK'.out _ _ (fun _ => hS6) ?_
      clear hK' K'
      refine wpAnyY_one 6 (by kernel_rfl) rfl ?_
      intro K' hK'
      go_simp
      refine hK'.out _ _ (fun _ => hS6) ?_
      clear hK' K'
      (refine wpAnyY_one 7 (by kernel_rfl) rfl ?_; intro K' hK'; go_simp; refine hK'.out _ _ (fun h => absurd rfl h) ?_; clear hK' K'; refine wpAnyY_done (by kernel_rfl) ?_ _)
      clear HB4 HO4 HAT4 HB HO HD hS hS3 hS6 hZ6 HX HAT2
      go_wp2_with fail
      go_loopg [41] (t2.1.length + 1) (fun f o wx => ∃ args q, ATR N w wx g w.heap.size b3 tt args q ∧ q.1.length < f ∧ q.1.length + args.length ≤ 1000001 ∧ q.1.length ≤ (pl.drop 1).length ∧ Hid (M = rmore f q args))
      case atStart => exact ⟨[a1], p1, HAT7.out, by omega, by simp; omega, by omega, HMM⟩
      case round =>
        obtain ⟨args, q, haq, hqf, hqa, hqp, hmq⟩ := hrel
        obtain ⟨f, rfl⟩ : ∃ f, gk = f + 1 := ⟨gk - 1, by omega⟩
        have hm := hmq.out
        rw [rmore_cons] at hm
        obtain ⟨c1, z1⟩ := haq.pw.c2
        have HAQ := Lib.hid haq; clear haq hmq
        obtain ⟨ql, qb⟩ := q
        simp only at c1 hm hqf hqa hqp
        cases qb
        · have htk := fun w h => ris_any (N := N) g (ql, false) 115 [44] w h (by omega)
          have htl2 := ris_len (ql, false) 115 [44]
          have htl3 := ris_lt (p := (ql, false)) (k := 115) (s := [44]) (by omega)
          have htf := ris_no (p := (ql, false)) (k := 115) (s := [44])
          generalize ris (ql, false) 115 [44] = tq at *
          obtain ⟨tq1, tq2⟩ := tq
          simp only [Bool.not_false, Bool.true_and] at htk htl2 htl3 htf hm
          have HTQ := Lib.hid htk; have HM := Lib.hid hm; clear htk hm
          go_wp2_with fail
          refine (HTQ.out _ HAQ.out.pw).mono ?_
          rintro e w4 ⟨rfl, hw4, hf4⟩
          have haq4 := HAQ.out.call hw4 hf4
          clear HAQ hw4 hf4 c1 z1
          have HAQ := Lib.hid haq4; clear haq4
          cases tq1
          · have hqq := htf rfl
            subst hqq
            have hm := HM.out
            (try simp only [Bool.false_eq_true, if_false] at hm)
            have hr := HR2.out
            rw [hm] at hr
            simp only [Bool.false_eq_true, if_false] at hr
            have htc := fun w h => ris_any (N := N) g (ql, false) 115 [41] w h (by omega)
            generalize ris (ql, false) 115 [41] = tc at *
            obtain ⟨tc1, tc2⟩ := tc
            obtain ⟨tcl, tcb⟩ := tc2
            simp only at htc hr
            have HTC := Lib.hid htc; have HR3 := Lib.hid hr
            obtain ⟨c1, z1⟩ := HAQ.out.pw.c2
            simp only at c1
            clear htc hr hm HM HTQ HR2 HGA htl2 htl3 htf
            go_wp2_with fail
            refine (HTC.out _ HAQ.out.pw).mono ?_
            rintro e w5 ⟨rfl, hw5, hf5⟩
            have haq5 := HAQ.out.call hw5 hf5
            have HAQ5 := Lib.hid haq5; clear HAQ haq5 hw5 hf5 c1 z1
            obtain ⟨c1, z1⟩ := HAQ5.out.pw.c2
            simp only at c1
            obtain ⟨A, c, hb, ho⟩ := HAQ5.out.own
            have hres := HAQ5.out.res
            have h3 := HAQ5.out.h3
            have k0 := (cell_blk hb 0).trans rfl; have k1 := (cell_blk hb 1).trans rfl
            have r0 := (cell_blk hres 0).trans rfl; have r1 := (cell_blk hres 1).trans rfl
            have y0 := frz_blk hres 0; have y1 := frz_blk hres 1
            have hgb : g ≠ b3 := by omega
            have HRES := Lib.hid hres; have HO := Lib.hid ho; clear hres hb ho
            cases tc1
            · go_wp2_with fail
              have hRF := Blk.set _ (Blk.set _ ((set_other w5 g 2 (.bool (true)) _ (by omega)).trans HRES.out) 0 (.string ⟨tt.toArray⟩)) 1 (.slice A args.length c)
              have q0 := (cell_blk hRF 0).trans rfl; have q1 := (cell_blk hRF 1).trans rfl
              refine bodyPost_ret (v := .agg #[.string ⟨tt.toArray⟩, .slice A args.length c]) (by simp [results, Tryz.results69, go_sem, q0, q1]) rfl ?_
              unfold ARPost
              rw [HR3.out]
              refine ⟨⟨A, args.length, c, rfl, ?_⟩, ((HAQ5.out.pw.bad (true)).other (by omega) 0 _).other (by omega) 1 _, ((HAQ5.out.frm.setCell (p := ⟨g, 2, none⟩) (fun _ => rfl) _).setCell (p := ⟨w.heap.size, 0, none⟩) (fun h => absurd h (Nat.lt_irrefl _)) _).setCell (p := ⟨w.heap.size, 1, none⟩) (fun h => absurd h (Nat.lt_irrefl _)) _, HAQ5.out.ok⟩
              have hk := HO.out.keep (w' := ((w5.setCell ⟨g, 2, none⟩ (.bool (true))).setCell ⟨w.heap.size, 0, none⟩ (.string ⟨tt.toArray⟩)).setCell ⟨w.heap.size, 1, none⟩ (.slice A args.length c)) (fun k _ hs => by
                rcases hs with hs | hs
                · exact hs.elim
                · have := (HO.out.lt k hs).1
                  exact (set_other _ _ _ _ _ (by omega)).trans ((set_other _ _ _ _ _ (by omega)).trans (set_other _ _ _ _ _ (by omega))))
              exact (hk.sl (by decide)).wide (fun k _ hs => by
                rcases hs with hs | hs
                · exact hs.elim
                · have := (hk.lt k hs).1; omega) (by decide)
            · have hd6 : decide (6 < args.length) = decide ((6 : Int) < (args.length : Int)) := by rw [decide_eq_decide]; omega
              rw [hd6] at HR3
              go_wp2_with fail
              have hRF := Blk.set _ (Blk.set _ ((set_other w5 g 2 (.bool ((decide ((6 : Int) < (args.length : Int))))) _ (by omega)).trans HRES.out) 0 (.string ⟨tt.toArray⟩)) 1 (.slice A args.length c)
              have q0 := (cell_blk hRF 0).trans rfl; have q1 := (cell_blk hRF 1).trans rfl
              refine bodyPost_ret (v := .agg #[.string ⟨tt.toArray⟩, .slice A args.length c]) (by simp [results, Tryz.results69, go_sem, q0, q1]) rfl ?_
              unfold ARPost
              rw [HR3.out]
              refine ⟨⟨A, args.length, c, rfl, ?_⟩, ((HAQ5.out.pw.bad ((decide ((6 : Int) < (args.length : Int))))).other (by omega) 0 _).other (by omega) 1 _, ((HAQ5.out.frm.setCell (p := ⟨g, 2, none⟩) (fun _ => rfl) _).setCell (p := ⟨w.heap.size, 0, none⟩) (fun h => absurd h (Nat.lt_irrefl _)) _).setCell (p := ⟨w.heap.size, 1, none⟩) (fun h => absurd h (Nat.lt_irrefl _)) _, HAQ5.out.ok⟩
              have hk := HO.out.keep (w' := ((w5.setCell ⟨g, 2, none⟩ (.bool ((decide ((6 : Int) < (args.length : Int)))))).setCell ⟨w.heap.size, 0, none⟩ (.string ⟨tt.toArray⟩)).setCell ⟨w.heap.size, 1, none⟩ (.slice A args.length c)) (fun k _ hs => by
                rcases hs with hs | hs
                · exact hs.elim
                · have := (HO.out.lt k hs).1
                  exact (set_other _ _ _ _ _ (by omega)).trans ((set_other _ _ _ _ _ (by omega)).trans (set_other _ _ _ _ _ (by omega))))
              exact (hk.sl (by decide)).wide (fun k _ hs => by
                rcases hs with hs | hs
                · exact hs.elim
                · have := (hk.lt k hs).1; omega) (by decide)
          · have hm := HM.out
            (try simp only [if_true] at hm)
            have hgb := fun w h => rargR_any (N := N) g tq2 w h
            have hgl2 := rarg_len tq2
            have hgp := rarg_ok HAQ.out.pw
            generalize rarg tq2 = a2 at *
            obtain ⟨a2, p2⟩ := a2
            simp only at hgb hgl2 hgp hm
            have HM2 := Lib.hid hm; have HGB := Lib.hid hgb; have HGP := Lib.hid hgp
            have htl4 := htl3 rfl
            clear hm hgb hgp HM htl3 htf
            have hD := HAQ.out.below (wy := w4.drew) (Below.refl _ _).drew
            obtain ⟨A, c, hb, ho⟩ := hD.own
            have hS : w4.drew.cell? ⟨b3, 1, none⟩ = some (.slice A args.length c) := (cell_blk hb 1).trans rfl
            have hcap := ho.cap
            have HD := Lib.hid hD; have HB := Lib.hid hb; have HO := Lib.hid ho; clear hD hb ho
            go_wp2_with fail
            refine wpY_region (fun x => x.cell? ⟨b3, 1, none⟩ = some (.slice A args.length c)) 7 (by kernel_rfl) ?_
            have HX := Lib.hid (fun (x : World) (hx : x.cell? ⟨b3, 1, none⟩ = some (.slice A args.length c)) => hx)
            (refine wpAnyY_takeW 0 rfl rfl (by kernel_rfl) (by kernel_rfl) (by kernel_rfl) (by kernel_rfl) (fun _ _ _ h => h) (v := ?_) (by kernel_rfl) hS ?_ ?_; rotate_left; (focus (intro x hx; have fx := HX.out x hx; go_simp; (try with_reducible rfl); done)); (try simp only [Act.put, lsa, lsz, lss]))
            (refine wpAnyY_takeW 1 rfl rfl (by kernel_rfl) (by kernel_rfl) (by kernel_rfl) (by kernel_rfl) (fun _ _ _ h => h) (v := ?_) (by kernel_rfl) hS ?_ ?_; rotate_left; (focus (intro x hx; have fx := HX.out x hx; go_simp; (try with_reducible rfl); done)); (try simp only [Act.put, lsa, lsz, lss]))
            (refine wpAnyY_takeW 2 rfl rfl (by kernel_rfl) (by kernel_rfl) (by kernel_rfl) (by kernel_rfl) (fun _ _ _ h => h) (v := ?_) (by kernel_rfl) hS ?_ ?_; rotate_left; (focus (intro x hx; have fx := HX.out x hx; go_simp; (try with_reducible rfl); done)); (try simp only [Act.put, lsa, lsz, lss]))
            refine wpAnyY_one 3 (by kernel_rfl) rfl ?_
            intro K' hK'
            go_simp
            refine (HGB.out _ HD.out.pw).mono ?_
            rintro e w5 ⟨rfl, hw5, hf5⟩
            have hat3 := HD.out.call hw5 hf5
            obtain ⟨hb3', ho3⟩ := HD.out.same HB.out HO.out hf5
            have hS3 : w5.cell? ⟨b3, 1, none⟩ = some (.slice A args.length c) := (cell_blk hb3' 1).trans rfl
            have hb4 := blkOld hb3' (.cells (argC a2) 46)
            have hlt3 := (Array.getElem?_eq_some_iff.1 hb3').1
            have HAT4 := Lib.hid (hat3.below (wy := w5.alloc (.cells (argC a2) 46)) boxed); have HB4 := Lib.hid hb4; have HO4 := Lib.hid (ho3.alloc (.cells (argC a2) 46))
            clear hw5 hf5 hat3 hb3' ho3 hb4
            refine hK'.out _ _ (fun _ => hS3) ?_
            clear hK' K'
            unfold vArg
            refine wpAnyY_one 4 (by kernel_rfl) rfl ?_
            intro K' hK'
            go_simp
            refine hK'.out _ _ (fun _ => cell_alloc' hS3 _) ?_
            clear hK' K'
            refine wpAnyY_one 5 (by kernel_rfl) rfl ?_
            intro K' hK'
            refine step_app1 (T := fun _ => False) (base := b3 + 1) (xs := args) rfl _ _ eltArg rfl (by decide) rfl rfl rfl HO4.out rfl [.int .i64 a2.kind, .string ⟨a2.text.toArray⟩, .int .i64 a2.num] a2 (blkAt _ _ rfl) rfl ⟨rfl, rfl, rfl⟩ (by omega) (by omega) (by simp; omega) ?_
            intro A' c' w7 hown6 hg6 hat6
            have hb6 := grownBlk hg6 HB4.out (fun e => by have := (HO4.out.lt b3 e).1; omega)
            have hS6 : w7.cell? ⟨b3, 1, none⟩ = some (.slice A args.length c) := (cell_blk hb6 1).trans rfl
            have hZ6 := frz_blk hb6 1
            have hat7 := HAT4.out.app HB4.out HO4.out hown6 hg6 HGP.out
            have HAT7 := Lib.hid hat7; clear hat7 hown6 hg6 hat6 hb6
            refine hK'.out _ _ (fun _ => hS6) ?_
            clear hK' K'
            refine wpAnyY_one 6 (by kernel_rfl) rfl ?_
            intro K' hK'
            go_simp
            refine hK'.out _ _ (fun _ => hS6) ?_
            clear hK' K'
            (refine wpAnyY_one 7 (by kernel_rfl) rfl ?_; intro K' hK'; go_simp; refine hK'.out _ _ (fun h => absurd rfl h) ?_; clear hK' K'; refine wpAnyY_done (by kernel_rfl) ?_ _)
            clear HB4 HO4 HAT4 HB HO HD hS hS3 hS6 hZ6 HX HAQ
            go_wp2_with fail
            go_roundg f
            case measure => omega
            case rel => exact ⟨args ++ [a2], p2, HAT7.out, by omega, by simp; omega, by omega, HM2.out⟩
        · (try simp only [Bool.not_true, Bool.false_and, Bool.false_eq_true, if_false] at hm)
          have hr := HR2.out
          rw [hm] at hr
          simp only [if_true] at hr
          have HR3 := Lib.hid hr
          clear hr hm HR2 HGA
          obtain ⟨A, c, hb, ho⟩ := HAQ.out.own
          have hres := HAQ.out.res
          have h3 := HAQ.out.h3
          have k0 := (cell_blk hb 0).trans rfl; have k1 := (cell_blk hb 1).trans rfl
          have r0 := (cell_blk hres 0).trans rfl; have r1 := (cell_blk hres 1).trans rfl
          have y0 := frz_blk hres 0; have y1 := frz_blk hres 1
          have hgb : g ≠ b3 := by omega
          have HRES := Lib.hid hres; have HO := Lib.hid ho; clear hres hb ho
          go_wp2_with fail
          have hRF := Blk.set _ (Blk.set _ ((set_other wr g 2 (.bool (true)) _ (by omega)).trans HRES.out) 0 (.string ⟨tt.toArray⟩)) 1 (.slice A args.length c)
          have q0 := (cell_blk hRF 0).trans rfl; have q1 := (cell_blk hRF 1).trans rfl
          refine bodyPost_ret (v := .agg #[.string ⟨tt.toArray⟩, .slice A args.length c]) (by simp [results, Tryz.results69, go_sem, q0, q1]) rfl ?_
          unfold ARPost
          rw [HR3.out]
          refine ⟨⟨A, args.length, c, rfl, ?_⟩, ((HAQ.out.pw.bad (true)).other (by omega) 0 _).other (by omega) 1 _, ((HAQ.out.frm.setCell (p := ⟨g, 2, none⟩) (fun _ => rfl) _).setCell (p := ⟨w.heap.size, 0, none⟩) (fun h => absurd h (Nat.lt_irrefl _)) _).setCell (p := ⟨w.heap.size, 1, none⟩) (fun h => absurd h (Nat.lt_irrefl _)) _, HAQ.out.ok⟩
          have hk := HO.out.keep (w' := ((wr.setCell ⟨g, 2, none⟩ (.bool (true))).setCell ⟨w.heap.size, 0, none⟩ (.string ⟨tt.toArray⟩)).setCell ⟨w.heap.size, 1, none⟩ (.slice A args.length c)) (fun k _ hs => by
            rcases hs with hs | hs
            · exact hs.elim
            · have := (HO.out.lt k hs).1
              exact (set_other _ _ _ _ _ (by omega)).trans ((set_other _ _ _ _ _ (by omega)).trans (set_other _ _ _ _ _ (by omega))))
          exact (hk.sl (by decide)).wide (fun k _ hs => by
            rcases hs with hs | hs
            · exact hs.elim
            · have := (hk.lt k hs).1; omega) (by decide)
end Go.Proofs.YtkjoaodoioicpaaGreatDoor
namespace Go.Proofs.YtkjoaodoioicpaaGreatDoor
open Go.RowKit
theorem set4 {w : World} {b : Nat} {cs : Array Value} {t : TypeId} (h : w.heap[b]? = some (.cells cs t (0, 0))) (a0 a1 a2 a3 : Value) :
    ((((w.setCell ⟨b, 0, none⟩ a0).setCell ⟨b, 1, none⟩ a1).setCell ⟨b, 2, none⟩ a2).setCell ⟨b, 3, none⟩ a3).heap[b]? = some (.cells ((((cs.setIfInBounds 0 a0).setIfInBounds 1 a1).setIfInBounds 2 a2).setIfInBounds 3 a3) t (0, 0)) :=
  Blk.set _ (Blk.set _ (Blk.set _ (Blk.set _ h 0 a0) 1 a1) 2 a2) 3 a3
end Go.Proofs.YtkjoaodoioicpaaGreatDoor
