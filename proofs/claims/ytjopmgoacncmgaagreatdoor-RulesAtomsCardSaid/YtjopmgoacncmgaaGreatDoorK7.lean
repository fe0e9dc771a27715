/- Rules: Variables: its closure and itself. -/
import Derived.Test.YtjopmgoacncmgaaGreatDoorKC
set_option linter.unusedVariables false
set_option linter.unusedSimpArgs false
namespace Go.Proofs.YtjopmgoacncmgaaGreatDoor
open Go.RowKit

/-- The list of variables, in the box of the function that collects them. -/
def VW (w : World) (g : Nat) (out : List Bs) : Prop :=
  ∃ A c, w.heap[g]? = some (.cells #[.slice A out.length c] 42 (0, 0)) ∧ Own w (fun _ => False) (g + 1) 9 A c out
theorem VW.lt {w : World} {g : Nat} {out : List Bs} (h : VW w g out) : g < w.heap.size := by
  obtain ⟨A, c, hb, _⟩ := h
  exact (Array.getElem?_eq_some_iff.1 hb).1
theorem VW.below {w w' : World} {g : Nat} {out : List Bs} (h : VW w g out) (hb : Below w.heap.size w w') : VW w' g out := by
  obtain ⟨A, c, h1, h2⟩ := h
  exact ⟨A, c, keptBlk hb h1, h2.below hb⟩

set_option maxHeartbeats 1000000 in
theorem add_any (g : Nat) (out : List Bs) (A1 : Option Addr) (n1 c1 : Nat) (l : List Arg) (w : World) (h : VW w g out) (hl : Sl w (fun b => b < g) A1 n1 c1 l) (hlen : out.length + l.length ≤ 1000000) :
    Calls Tryz.prog 65 #[.slice A1 n1 c1, .pointer (some ⟨g, 0, none⟩)] w fun e w' => e = .returned (.tuple #[]) ∧ VW w' g (addV out l) ∧ Below g w w' := by
  have hn := hl.le
  have hln := hl.len
  subst hln
  obtain ⟨v, hv⟩ : ∃ v, v = addV out l := ⟨_, rfl⟩
  rw [← hv]
  have Hf : Hid (v = addV out (l.drop 0)) := hv
  clear hv
  have HL := Lib.hid hl; clear hl
  have HV0 := Lib.hid h; clear h
  go_enter Tryz.func65, Tryz.ntmps65
  go_wp2_with fail
  go_loopw [7] (fun i wr => ∃ k : Nat, k ≤ l.length ∧ i = .int .i64 k ∧ ∃ out', VW wr g out' ∧ out'.length ≤ out.length + k ∧ Below g w wr ∧ Hid (v = addV out' (l.drop k))) (fun i _ => l.length - (intOf i).toNat)
  case atStart => exact ⟨0, by omega, rfl, out, HV0.out, by omega, Below.refl _ _, Hf⟩
  case round =>
    obtain ⟨k, hk, rfl, out', hvw, hol, hb, hf⟩ := hrel
    have hwr := hb.size
    by_cases hlt : k < l.length
    · obtain ⟨b, o, rfl, hbn, hbs, h1, h2, h3⟩ := (HL.out.keep (fun k hk hs => hb.block k hs)).arg hlt
      have hd := hf.out
      rw [drop_get hlt, addV] at hd
      generalize l[k] = x at *
      obtain ⟨xk, xt, xn⟩ := x
      simp only at h1 h2 h3 hd
      have hgl := hvw.lt
      obtain ⟨A, c, hblk, hown⟩ := hvw
      have c0 := cell_blk hblk 0
      simp only [List.getElem?_toArray, List.getElem?_cons_zero] at c0
      have hcon := fun wx S (hs : Sl wx S A out'.length c out') => contains_any A out'.length c wx S out' xt hs
      have HO := Lib.hid hown; have HB := Lib.hid hblk; have HC := Lib.hid hcon; have HD := Lib.hid hd
      clear hown hblk hcon hd hf
      go_wp2_with (first | (go_at_call 66; refine (HC.out _ _ ((HO.out.alloc _).sl (by decide))).mono ?_; rintro e w' ⟨rfl, rfl⟩) | (at_builtin; refine wpList_app1 rfl _ _ eltStr rfl (by decide) rfl rfl rfl ((HO.out.alloc _).alloc _) rfl [.string ⟨xt.toArray⟩] xt (blkAt _ _ (by simp)) rfl rfl (by omega) (by omega) (by simp; omega) ?_; intro A' c' w2 hown' hg hat; have hb2 := grownBlk hg (blkOld (blkOld HB.out _) _) (HO.out.ne_lt (Nat.lt_succ_self g)); have hc2 := cell_blk hb2 0; have hz2 := frz_blk hb2 0))
      · refine ⟨⟨k + 1, by omega, by go_num, out' ++ [xt], ⟨A', c', by rw [Blk.set w2 hb2 0]; simp, hown'.keep (fun q _ hq => set_other _ _ _ _ _ (fun e => by rcases hq with hq | hq; exact hq.elim; have := (hown'.lt q hq).1; omega))⟩, by simp; omega, ?_, ?_⟩, by simp [intOf]; omega⟩
        · exact (((hb.alloc (by omega) _).alloc (by simp; omega) _).grown hg (by simp; omega) (fun q hq => by have := (HO.out.lt q hq).1; omega)).setCell (p := ⟨g, 0, none⟩) (Nat.le_refl _) _
        · show v = _
          rw [HD.out, if_pos ⟨by assumption, by simp_all⟩]
      · refine ⟨⟨k + 1, by omega, by go_num, out', ⟨A, c, blkOld HB.out _, HO.out.alloc _⟩, by omega, hb.alloc (by omega) _, ?_⟩, by simp [intOf]; omega⟩
        show v = _
        rw [HD.out, if_neg (by simp_all)]
      · refine ⟨⟨k + 1, by omega, by go_num, out', ⟨A, c, blkOld HB.out _, HO.out.alloc _⟩, by omega, hb.alloc (by omega) _, ?_⟩, by simp [intOf]; omega⟩
        show v = _
        rw [HD.out, if_neg (by simp_all)]
    · go_wp2
      ((try simp only [Exit.inBlock, Exit.then]); first | refine bodyPost_ret (results_none rfl _ _ _) rfl ?_ | refine bodyPost_end (results_none rfl _ _ _) rfl ?_)
      refine ⟨rfl, ?_, hb⟩
      rw [hf.out, drop_end hlt]
      exact hvw
theorem addV_len (l : List Arg) : ∀ out, (addV out l).length ≤ out.length + l.length := by
  induction l with
  | nil => intro out; exact Nat.le_refl _
  | cons a r ih =>
    intro out
    rw [addV]
    split
    · have := ih (out ++ [a.text])
      rw [List.length_append] at this
      simp only [List.length_cons, List.length_nil] at this ⊢
      omega
    · have := ih out
      simp only [List.length_cons]
      omega
def cntB : List Ltl → Nat
  | [] => 0
  | l :: r => l.atom.args.length + cntB r
theorem cntB_drop {l : List Ltl} {k : Nat} (h : k < l.length) : cntB (l.drop k) = l[k].atom.args.length + cntB (l.drop (k + 1)) := by rw [drop_get h]; rfl

set_option maxRecDepth 100000 in
set_option maxHeartbeats 1000000 in
theorem variables_any (r : Rul) (A1 : Option Addr) (n1 c1 : Nat) (A2 : Option Addr) (n2 c2 : Nat) (w : World) (S : Nat → Prop) (h1 : Sl w S A1 n1 c1 r.head.args) (h2 : Sl w S A2 n2 c2 r.body) (hlen : r.head.args.length + cntB r.body ≤ 1000000) :
    Calls Tryz.prog 25 #[.agg #[.string ⟨r.head.name.toArray⟩, .slice A1 n1 c1, .slice A2 n2 c2]] w fun e w' => ∃ A c, e = .returned (.slice A (varsS r).length c) ∧ Sl w' (fun b => w.heap.size ≤ b) A (varsS r).length c (varsS r) ∧ Below w.heap.size w w' := by
  obtain ⟨v, hv⟩ : ∃ v, v = varsS r := ⟨_, rfl⟩
  rw [← hv]
  unfold varsS at hv
  have hn2 := h2.len
  have hle := h2.le
  subst hn2
  have ha1 := addV_len r.head.args []
  have H1 := Lib.hid (h1.wide (S' := fun b => b < w.heap.size) (fun k hk _ => hk) (by decide)); have H2 := Lib.hid (h2.wide (S' := fun b => b < w.heap.size) (fun k hk _ => hk) (by decide)); clear h1 h2
  generalize r.head.args = args at *
  generalize r.head.name = nm at *
  generalize r.body = body at *
  simp only [List.length_nil, Nat.zero_add] at ha1
  have HV := Lib.hid hv; clear hv
  have hvw : ∀ wx : World, VW (wx.alloc (.cells #[.slice none 0 0] 42)) wx.heap.size [] := fun wx => ⟨none, 0, blkAt _ _ rfl, Own.nil _ _ _ _⟩
  have HVW := Lib.hid hvw; clear hvw
  go_enter Tryz.func25, Tryz.ntmps25
  go_wp2_with fail
  refine (add_any (w.heap.size + 1) [] A1 n1 c1 args _ (by simpa using HVW.out (w.alloc _)) (((H1.out.wide (S' := fun b => b < w.heap.size + 1) (fun k hk _ => by omega) (by decide)).alloc _).alloc _) (by simp; omega)).mono ?_
  rintro e w1 ⟨rfl, hvw1, hb1⟩
  have hb1' : Below w.heap.size w w1 := (boxed.alloc (by simp) _).trans (hb1.mono (by simp))
  have hblk : w1.heap[w.heap.size]? = some (.cells #[.string ⟨nm.toArray⟩, .slice A1 n1 c1, .slice A2 body.length c2] 48 (0, 0)) := (hb1.block _ (by simp)).trans (blkOld (blkAt w _ rfl) _)
  have e2 : w1.cell? ⟨w.heap.size, 2, none⟩ = some (.slice A2 body.length c2) := (cell_blk hblk 2).trans rfl
  have HVW1 := Lib.hid hvw1; have HB1 := Lib.hid hb1'; clear hvw1 hblk hb1 hb1'
  have Hf : Hid (v = addB (addV [] args) (body.drop 0)) := HV
  go_wp2_with fail
  go_loopw [16] (fun i wr => ∃ k : Nat, k ≤ body.length ∧ i = .int .i64 k ∧ ∃ out', VW wr (w.heap.size + 1) out' ∧ out'.length + cntB (body.drop k) ≤ args.length + cntB body ∧ Below w.heap.size w wr ∧ Hid (v = addB out' (body.drop k))) (fun i _ => body.length - (intOf i).toNat)
  case atStart => exact ⟨0, by omega, rfl, _, HVW1.out, by simp; omega, HB1.out, Hf⟩
  case round =>
    obtain ⟨k, hk, rfl, out', hvw, hol, hb, hf⟩ := hrel
    have hwr := hb.size
    by_cases hlt : k < body.length
    · obtain ⟨b, o, rfl, hbn, hbs, A3, n3, c3, h1, h2, h3, h4, hs⟩ := (H2.out.below hb).ltl hlt
      have hd := hf.out
      rw [drop_get hlt, addB] at hd
      rw [cntB_drop hlt] at hol
      generalize body[k] = x at *
      have hgl := hvw.lt
      have HX := Lib.hid hvw; have HD := Lib.hid hd; have HS := Lib.hid (hs.wide (S' := fun b => b < w.heap.size + 1) (fun k _ hk => by omega) (by decide)); clear hvw hd hf hs
      go_wp2_with fail
      refine (add_any (w.heap.size + 1) out' A3 n3 c3 x.atom.args _ (HX.out.below boxed) (HS.out.alloc _) (by omega)).mono ?_
      rintro e w2 ⟨rfl, hvw2, hb2⟩
      have hlen2 := addV_len x.atom.args out'
      have hb2' : Below w.heap.size w w2 := (hb.alloc (by omega) _).trans (hb2.mono (by omega))
      go_wp2_with fail
      go_roundw
      case rel => exact ⟨k + 1, by omega, by go_num, _, hvw2, by omega, hb2', HD.out⟩
      case measure => simp [intOf]; omega
    · obtain ⟨A, c, hblk, hown⟩ := hvw
      have hv2 : v = out' := by rw [hf.out, drop_end hlt]; rfl
      subst hv2
      have c0 := (cell_blk hblk 0).trans rfl
      go_wp2_with fail
      go_ret
      exact ⟨A, c, rfl, (hown.sl (by decide)).wide (fun k _ hk => by rcases hk with hk | hk; exact hk.elim; have := (hown.lt k hk).1; omega) (by decide), hb⟩
end Go.Proofs.YtjopmgoacncmgaaGreatDoor
