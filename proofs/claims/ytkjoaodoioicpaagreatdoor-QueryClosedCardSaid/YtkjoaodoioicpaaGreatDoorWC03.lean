/- Query (package licitlaw54): a part of the proofs of its laws; see the law's own text, which comes last in 'order'. No conditions of its own. -/
import Derived.Shelf.Strings.Builder1
import Derived.Shelf.Strings.Builder2
import Derived.Shelf.Strings.OnBuilder
import Derived.Shelf.Small.Bits
import Derived.Shelf.Small.Wraps
import Derived.Shelf.Strings.BuilderF
import Derived.Shelf.Strings.BuilderK
import Derived.Shelf.Strings.Builder2Cap
import Derived.Shelf.Strconv.Itoa0
import Derived.Shelf.Strconv.Itoa1
import Derived.Shelf.LaysM
import Derived.Shelf.Strconv.Itoa2
import Derived.Shelf.Strconv.Itoa3
import Derived.Shelf.Sort.Plain
import Derived.Shelf.Strings.Fields
import Derived.Shelf.Strings.SplitShaped
import Derived.Shelf.Unicode.Latin
import Derived.Shelf.Unicode.Is16White
import Derived.Shelf.Unicode.IsSpaceAny
import Derived.Shelf.Unicode.Is16WhiteD
import Derived.Shelf.Unicode.IsSpaceAnyD
import Derived.Shelf.Strings.FieldsAny
import Derived.Shelf.Strings.FieldsFuncAny
import Derived.Shelf.Unicode.Is16Any
import Derived.Shelf.Unicode.Is32Any
import Derived.Shelf.Unicode.ExclAny
import Derived.Shelf.Strings.BuilderCap
import Derived.Shelf.Slices.Turned
import Derived.Shelf.Slices.Equal
import Derived.Ground.Names2Prog
import Derived.Shelf.Slices.SearchI
import Derived.Shelf.Slices.In.SortNone
import Derived.Shelf.Slices.Empties2
import Derived.Test.YtkjoaodoioicpaaGreatDoorProg
import Derived.Lib.SmallJoins
import Derived.OrdersHeld
import Derived.StillTail
import Derived.Deep.RegionHeld
import Derived.Test.YtkjoaodoioicpaaGreatDoorWC01
import Derived.Test.YtkjoaodoioicpaaGreatDoorWC02
set_option linter.unusedVariables false
set_option linter.unusedSimpArgs false
namespace Go.Proofs.YtkjoaodoioicpaaGreatDoor
open Go.RowKit
def VW (w : World) (g : Nat) (out : List Bs) : Prop :=
  ∃ A c, w.heap[g]? = some (.cells #[.slice A out.length c] 71 (0, 0)) ∧ Own w (fun _ => False) (g + 1) 9 A c out
theorem VW.lt {w : World} {g : Nat} {out : List Bs} (h : VW w g out) : g < w.heap.size := by
  obtain ⟨A, c, hb, _⟩ := h
  exact (Array.getElem?_eq_some_iff.1 hb).1
theorem VW.below {w w' : World} {g : Nat} {out : List Bs} (h : VW w g out) (hb : Below w.heap.size w w') : VW w' g out := by
  obtain ⟨A, c, h1, h2⟩ := h
  exact ⟨A, c, keptBlk hb h1, h2.below hb⟩
set_option maxHeartbeats 1000000 in
theorem add_any (g : Nat) (out : List Bs) (A1 : Option Addr) (n1 c1 : Nat) (l : List Arg) (w : World) (h : VW w g out) (hl : Sl w (fun b => b < g) A1 n1 c1 l) (hlen : out.length + l.length ≤ 1000000) :
    Calls Tryz.prog 84 #[.slice A1 n1 c1, .pointer (some ⟨g, 0, none⟩)] w fun e w' => e = .returned (.tuple #[]) ∧ VW w' g (addV out l) ∧ Below g w w' := by
  have hn := hl.le
  have hln := hl.len
  subst hln
  obtain ⟨v, hv⟩ : ∃ v, v = addV out l := ⟨_, rfl⟩
  rw [← hv]
  have Hf : Hid (v = addV out (l.drop 0)) := hv
  clear hv
  have HL := Lib.hid hl; clear hl
  have HV0 := Lib.hid h; clear h
  go_enter Tryz.func84, Tryz.ntmps84
  go_wp2_with fail
  go_loopw [7] (fun i wr => ∃ k : Nat, k ≤ l.length ∧ i = .int .i64 k ∧ ∃ out', VW wr g out' ∧ out'.length ≤ out.length + k ∧ Below g w wr ∧ Hid (v = addV out' (l.drop k))) (fun i _ => l.length - (intOf i).toNat)
  case atStart => exact ⟨0, by omega, rfl, out, HV0.out, by omega, Below.refl _ _, Hf⟩
  case round =>
    obtain ⟨k, hk, rfl, out', hvw, hol, hb, hf⟩ := hrel
    have hwr := hb.size
    by_cases hlt : k < l.length
    · obtain ⟨b, o, rfl, hbn, hbs, h1, h2, h3⟩ := (HL.out.keep (fun k hk hs => hb.block k hs)).arg hlt
      have hd := hf.out
      rw [drop_get hlt, addV] at hd
      generalize l[k] = x at *
      obtain ⟨xk, xt, xn⟩ := x
      simp only at h1 h2 h3 hd
      have hgl := hvw.lt
      obtain ⟨A, c, hblk, hown⟩ := hvw
      have c0 := cell_blk hblk 0
      simp only [List.getElem?_toArray, List.getElem?_cons_zero] at c0
      have hcon := fun wx S (hs : Sl wx S A out'.length c out') => contains_any A out'.length c wx S out' xt hs
      have HO := Lib.hid hown; have HB := Lib.hid hblk; have HC := Lib.hid hcon; have HD := Lib.hid hd
      clear hown hblk hcon hd hf
      go_wp2_with (first | (go_at_call 60; refine (HC.out _ _ ((HO.out.alloc _).sl (by decide))).mono ?_; rintro e w' ⟨rfl, rfl⟩) | (at_builtin; refine wpList_app1 rfl _ _ eltStr rfl (by decide) rfl rfl rfl ((HO.out.alloc _).alloc _) rfl [.string ⟨xt.toArray⟩] xt (blkAt _ _ (by simp)) rfl rfl (by omega) (by omega) (by simp; omega) ?_; intro A' c' w2 hown' hg hat; have hb2 := grownBlk hg (blkOld (blkOld HB.out _) _) (HO.out.ne_lt (Nat.lt_succ_self g)); have hc2 := cell_blk hb2 0; have hz2 := frz_blk hb2 0))
      · refine ⟨⟨k + 1, by omega, by go_num, out' ++ [xt], ⟨A', c', by rw [Blk.set w2 hb2 0]; simp, hown'.keep (fun q _ hq => set_other _ _ _ _ _ (fun e => by rcases hq with hq | hq; exact hq.elim; have := (hown'.lt q hq).1; omega))⟩, by simp; omega, ?_, ?_⟩, by simp [intOf]; omega⟩
        · exact (((hb.alloc (by omega) _).alloc (by simp; omega) _).grown hg (by simp; omega) (fun q hq => by have := (HO.out.lt q hq).1; omega)).setCell (p := ⟨g, 0, none⟩) (Nat.le_refl _) _
        · show v = _
          rw [HD.out, if_pos ⟨by assumption, by simp_all⟩]
      · refine ⟨⟨k + 1, by omega, by go_num, out', ⟨A, c, blkOld HB.out _, HO.out.alloc _⟩, by omega, hb.alloc (by omega) _, ?_⟩, by simp [intOf]; omega⟩
        show v = _
        rw [HD.out, if_neg (by simp_all)]
      · refine ⟨⟨k + 1, by omega, by go_num, out', ⟨A, c, blkOld HB.out _, HO.out.alloc _⟩, by omega, hb.alloc (by omega) _, ?_⟩, by simp [intOf]; omega⟩
        show v = _
        rw [HD.out, if_neg (by simp_all)]
    · go_wp2
      ((try simp only [Exit.inBlock, Exit.then]); first | refine bodyPost_ret (results_none rfl _ _ _) rfl ?_ | refine bodyPost_end (results_none rfl _ _ _) rfl ?_)
      refine ⟨rfl, ?_, hb⟩
      rw [hf.out, drop_end hlt]
      exact hvw
theorem addV_len (l : List Arg) : ∀ out, (addV out l).length ≤ out.length + l.length := by
  induction l with
  | nil => intro out; exact Nat.le_refl _
  | cons a r ih =>
    intro out
    rw [addV]
    split
    · have := ih (out ++ [a.text])
      rw [List.length_append] at this
      simp only [List.length_cons, List.length_nil] at this ⊢
      omega
    · have := ih out
      simp only [List.length_cons]
      omega
def cntB : List Ltl → Nat
  | [] => 0
  | l :: r => l.atom.args.length + cntB r
theorem cntB_drop {l : List Ltl} {k : Nat} (h : k < l.length) : cntB (l.drop k) = l[k].atom.args.length + cntB (l.drop (k + 1)) := by rw [drop_get h]; rfl
set_option maxRecDepth 100000 in
set_option maxHeartbeats 1000000 in
theorem variables_any (r : Rul) (A1 : Option Addr) (n1 c1 : Nat) (A2 : Option Addr) (n2 c2 : Nat) (w : World) (S : Nat → Prop) (h1 : Sl w S A1 n1 c1 r.head.args) (h2 : Sl w S A2 n2 c2 r.body) (hlen : r.head.args.length + cntB r.body ≤ 1000000) :
    Calls Tryz.prog 46 #[.agg #[.string ⟨r.head.name.toArray⟩, .slice A1 n1 c1, .slice A2 n2 c2]] w fun e w' => ∃ A c, e = .returned (.slice A (varsS r).length c) ∧ Sl w' (fun b => w.heap.size ≤ b) A (varsS r).length c (varsS r) ∧ Below w.heap.size w w' := by
  obtain ⟨v, hv⟩ : ∃ v, v = varsS r := ⟨_, rfl⟩
  rw [← hv]
  unfold varsS at hv
  have hn2 := h2.len
  have hle := h2.le
  subst hn2
  have ha1 := addV_len r.head.args []
  have H1 := Lib.hid (h1.wide (S' := fun b => b < w.heap.size) (fun k hk _ => hk) (by decide)); have H2 := Lib.hid (h2.wide (S' := fun b => b < w.heap.size) (fun k hk _ => hk) (by decide)); clear h1 h2
  generalize r.head.args = args at *
  generalize r.head.name = nm at *
  generalize r.body = body at *
  simp only [List.length_nil, Nat.zero_add] at ha1
  have HV := Lib.hid hv; clear hv
  have hvw : ∀ wx : World, VW (wx.alloc (.cells #[.slice none 0 0] 71)) wx.heap.size [] := fun wx => ⟨none, 0, blkAt _ _ rfl, Own.nil _ _ _ _⟩
  have HVW := Lib.hid hvw; clear hvw
  go_enter Tryz.func46, Tryz.ntmps46
  go_wp2_with fail
  refine (add_any (w.heap.size + 1) [] A1 n1 c1 args _ (by simpa using HVW.out (w.alloc _)) (((H1.out.wide (S' := fun b => b < w.heap.size + 1) (fun k hk _ => by omega) (by decide)).alloc _).alloc _) (by simp; omega)).mono ?_
  rintro e w1 ⟨rfl, hvw1, hb1⟩
  have hb1' : Below w.heap.size w w1 := (boxed.alloc (by simp) _).trans (hb1.mono (by simp))
  have hblk : w1.heap[w.heap.size]? = some (.cells #[.string ⟨nm.toArray⟩, .slice A1 n1 c1, .slice A2 body.length c2] 34 (0, 0)) := (hb1.block _ (by simp)).trans (blkOld (blkAt w _ rfl) _)
  have e2 : w1.cell? ⟨w.heap.size, 2, none⟩ = some (.slice A2 body.length c2) := (cell_blk hblk 2).trans rfl
  have HVW1 := Lib.hid hvw1; have HB1 := Lib.hid hb1'; clear hvw1 hblk hb1 hb1'
  have Hf : Hid (v = addB (addV [] args) (body.drop 0)) := HV
  go_wp2_with fail
  go_loopw [16] (fun i wr => ∃ k : Nat, k ≤ body.length ∧ i = .int .i64 k ∧ ∃ out', VW wr (w.heap.size + 1) out' ∧ out'.length + cntB (body.drop k) ≤ args.length + cntB body ∧ Below w.heap.size w wr ∧ Hid (v = addB out' (body.drop k))) (fun i _ => body.length - (intOf i).toNat)
  case atStart => exact ⟨0, by omega, rfl, _, HVW1.out, by simp; omega, HB1.out, Hf⟩
  case round =>
    obtain ⟨k, hk, rfl, out', hvw, hol, hb, hf⟩ := hrel
    have hwr := hb.size
    by_cases hlt : k < body.length
    · obtain ⟨b, o, rfl, hbn, hbs, A3, n3, c3, h1, h2, h3, h4, hs⟩ := (H2.out.below hb).ltl hlt
      have hd := hf.out
      rw [drop_get hlt, addB] at hd
      rw [cntB_drop hlt] at hol
      generalize body[k] = x at *
      have hgl := hvw.lt
      have HX := Lib.hid hvw; have HD := Lib.hid hd; have HS := Lib.hid (hs.wide (S' := fun b => b < w.heap.size + 1) (fun k _ hk => by omega) (by decide)); clear hvw hd hf hs
      go_wp2_with fail
      refine (add_any (w.heap.size + 1) out' A3 n3 c3 x.atom.args _ (HX.out.below boxed) (HS.out.alloc _) (by omega)).mono ?_
      rintro e w2 ⟨rfl, hvw2, hb2⟩
      have hlen2 := addV_len x.atom.args out'
      have hb2' : Below w.heap.size w w2 := (hb.alloc (by omega) _).trans (hb2.mono (by omega))
      go_wp2_with fail
      go_roundw
      case rel => exact ⟨k + 1, by omega, by go_num, _, hvw2, by omega, hb2', HD.out⟩
      case measure => simp [intOf]; omega
    · obtain ⟨A, c, hblk, hown⟩ := hvw
      have hv2 : v = out' := by rw [hf.out, drop_end hlt]; rfl
      subst hv2
      have c0 := (cell_blk hblk 0).trans rfl
      go_wp2_with fail
      go_ret
      exact ⟨A, c, rfl, (hown.sl (by decide)).wide (fun k _ hk => by rcases hk with hk | hk; exact hk.elim; have := (hown.lt k hk).1; omega) (by decide), hb⟩
end Go.Proofs.YtkjoaodoioicpaaGreatDoor
namespace Go.Proofs.YtkjoaodoioicpaaGreatDoor
open Go.RowKit
theorem compares_any (l : Ltl) (A : Option Addr) (n c : Nat) (w : World) :
    Calls Tryz.prog 115 #[.agg #[.bool l.neg, .string ⟨l.op.toArray⟩, .string ⟨l.atom.name.toArray⟩, .slice A n c]] w fun e w' => e = .returned (.bool (compsS l)) ∧ Below w.heap.size w w' := by
  go_enter Tryz.func115, Tryz.ntmps115
  go_wp2
  go_ret
  refine ⟨ret_bool ?_, boxed⟩
  unfold compsS
  cases l.op <;> simp
theorem positive_any (l : Ltl) (A : Option Addr) (n c : Nat) (w : World) :
    Calls Tryz.prog 157 #[.agg #[.bool l.neg, .string ⟨l.op.toArray⟩, .string ⟨l.atom.name.toArray⟩, .slice A n c]] w fun e w' => e = .returned (.bool (posS l)) ∧ Below w.heap.size w w' := by
  have hc := fun w => compares_any l A n c w
  unfold posS
  generalize compsS l = b at *
  have HC := Lib.hid hc; clear hc
  obtain ⟨neg, op, nm, args⟩ := l
  simp only at HC ⊢
  go_enter Tryz.func157, Tryz.ntmps157
  go_wp2_with (go_at_call 115; refine (HC.out _).mono ?_; rintro e w1 ⟨rfl, hb1⟩; have h0 := cell_later hb1 ((cell_blk (blkAt w _ rfl) 0).trans rfl))
  all_goals go_ret
  all_goals (refine ⟨ret_bool (by simp_all), next boxed (by assumption) (Nat.le_refl _)⟩)
theorem atoms_spec (l : List Ltl) : ∀ out : List Atm, out ++ (l.filter fun l => !compsS l).map (·.atom) = match l with | [] => out | x :: r => (if compsS x then out else out ++ [x.atom]) ++ (r.filter fun l => !compsS l).map (·.atom) := by
  intro out
  cases l with
  | nil => simp
  | cons x r =>
    rw [List.filter_cons]
    cases h : compsS x <;> simp [h]
set_option maxRecDepth 100000 in
set_option maxHeartbeats 2000000 in
theorem atoms_any (r : Rul) (A1 : Option Addr) (n1 c1 : Nat) (A2 : Option Addr) (n2 c2 : Nat) (w : World) (S : Nat → Prop) (h1 : Sl w S A1 n1 c1 r.head.args) (h2 : Sl w S A2 n2 c2 r.body) (hlen : r.body.length ≤ 1000000) :
    Calls Tryz.prog 114 #[.agg #[.string ⟨r.head.name.toArray⟩, .slice A1 n1 c1, .slice A2 n2 c2]] w fun e w' => ∃ A c, e = .returned (.slice A (atomsS r).length c) ∧ Sl w' (fun b => S b ∨ w.heap.size ≤ b) A (atomsS r).length c (atomsS r) ∧ Below w.heap.size w w' := by
  obtain ⟨v, hv⟩ : ∃ v, v = atomsS r := ⟨_, rfl⟩
  rw [← hv]
  unfold atomsS at hv
  have hn2 := h2.len
  subst hn2
  have H1 := Lib.hid (h1.wide (S' := fun b => S b ∧ b < w.heap.size) (fun k hk hs => ⟨hs, hk⟩) (by decide)); have H2 := Lib.hid (h2.wide (S' := fun b => S b ∧ b < w.heap.size) (fun k hk hs => ⟨hs, hk⟩) (by decide)); clear h1 h2
  obtain ⟨⟨nm, args⟩, body⟩ := r
  simp only at H1 H2 hv hlen ⊢
  have HV := Lib.hid hv; clear hv
  go_enter Tryz.func114, Tryz.ntmps114
  go_wp2_with fail
  have hown0 : Own ((w.alloc (.cells #[.string ⟨nm.toArray⟩, .slice A1 n1 c1, .slice A2 body.length c2] 34)).alloc (.cells #[.string ⟨nm.toArray⟩, .slice A1 n1 c1] 31)) (fun b => S b ∧ b < w.heap.size) (w.heap.size + 1) 31 (some ⟨w.heap.size + 1, 0, none⟩) 1 [(⟨nm, args⟩ : Atm)] :=
    Own.lit (cs := [.string ⟨nm.toArray⟩, .slice A1 n1 c1]) (blkAt _ _ (by simp)) (Nat.le_refl _) rfl (by simp) (fun i h => by
      obtain rfl : i = 0 := by simp at h; omega
      exact ⟨rfl, A1, n1, c1, rfl, ((H1.out.alloc _).alloc _).wide (fun k _ hk => ⟨hk, by have := hk.2; omega⟩) (by decide)⟩)
  have HO0 := Lib.hid hown0; clear hown0
  have Hf : Hid (v = [(⟨nm, args⟩ : Atm)] ++ ((body.drop 0).filter fun l => !compsS l).map (·.atom)) := HV
  go_loopw [3, 12] (fun o i wr => ∃ k : Nat, k ≤ body.length ∧ i = .int .i64 k ∧ ∃ out A c, o = .slice A out.length c ∧ Own wr (fun b => S b ∧ b < w.heap.size) (w.heap.size + 1) 31 A c out ∧ out.length ≤ k + 1 ∧ Below w.heap.size w wr ∧ w.heap.size + 1 ≤ wr.heap.size ∧ Hid (v = out ++ ((body.drop k).filter fun l => !compsS l).map (·.atom))) (fun _ i _ => body.length - (intOf i).toNat)
  case atStart => exact ⟨0, by omega, rfl, _, _, _, rfl, HO0.out, by simp, boxed.alloc (by simp) _, by simp, Hf⟩
  case round =>
    obtain ⟨k, hk, rfl, out, A, c, rfl, hown, hol, hb, hsz, hf⟩ := hrel
    by_cases hlt : k < body.length
    · obtain ⟨b, o, rfl, hbn, hbs, A3, n3, c3, h1, h2, h3, h4, hs⟩ := (H2.out.below hb).ltl hlt
      have hd := hf.out
      rw [drop_get hlt, atoms_spec] at hd
      simp only at hd
      have hcm := fun w => compares_any body[k] A3 n3 c3 w
      generalize body[k] = x at *
      generalize compsS x = cb at *
      obtain ⟨neg, op, ⟨xnm, xargs⟩⟩ := x
      simp only at h1 h2 h3 h4 hs hd hcm
      have HO := Lib.hid hown; have HD := Lib.hid hd; have HS := Lib.hid hs; have HC := Lib.hid hcm; clear hown hd hf hs hcm
      go_wp2_with (first | (go_at_call 115; refine (HC.out _).mono ?_; rintro e w1 ⟨rfl, hb1⟩; have g2 : w1.cell? ⟨wr.heap.size, 2, none⟩ = some (.string ⟨xnm.toArray⟩) := cell_later hb1 ((cell_blk (blkAt wr _ rfl) 2).trans rfl); have g3 : w1.cell? ⟨wr.heap.size, 3, none⟩ = some (.slice A3 n3 c3) := cell_later hb1 ((cell_blk (blkAt wr _ rfl) 3).trans rfl)) | (at_builtin; refine wpList_app1 rfl _ _ eltAtm rfl (by decide) rfl rfl rfl (((HO.out.alloc _).below hb1).alloc _) rfl [.string ⟨xnm.toArray⟩, .slice A3 n3 c3] (⟨xnm, xargs⟩ : Atm) (blkAt _ _ (by simp)) rfl ⟨rfl, A3, n3, c3, rfl, (((HS.out.alloc _).below hb1).alloc _).wide (fun q _ hq => ⟨hq, HO.out.ne_lt (by have := hq.2; omega)⟩) (by decide)⟩ (by omega) (by omega) (by have := hb1.size; simp at this; simp; omega) ?_; intro A' c' w2 hown' hg hat))
      · refine ⟨⟨k + 1, by omega, by go_num, _, A', c', by simp, hown', by simp; omega, (((hb.alloc (by omega) _).trans (hb1.mono (by simp; omega))).alloc (by have := hb1.size; simp at this; omega) _).grown hg (by have := hb1.size; simp at this; simp; omega) (fun q hq => by have := (HO.out.lt q hq).1; omega), ?_, ?_⟩, by simp [intOf]; omega⟩
        · have := hb1.size; have := hg.size; simp at *; omega
        · show v = _
          rw [HD.out]; simp_all
      · refine ⟨⟨k + 1, by omega, by go_num, out, A, c, rfl, (HO.out.alloc _).below hb1, by omega, (hb.alloc (by omega) _).trans (hb1.mono (by simp; omega)), by have := hb1.size; simp at this; omega, ?_⟩, by simp [intOf]; omega⟩
        show v = _
        rw [HD.out]; simp_all
    · have hv2 : v = out := by rw [hf.out, drop_end hlt]; simp
      subst hv2
      go_wp2_with fail
      go_ret
      exact ⟨A, c, rfl, (hown.sl (by decide)).wide (fun q _ hq => hq.elim (fun x => .inl x.1) (fun x => .inr (by have := (hown.lt q x).1; omega))) (by decide), hb⟩
end Go.Proofs.YtkjoaodoioicpaaGreatDoor
namespace Go.Proofs
open Go.Shelf
def Tryz.lays156_ren : Go.Shelf.Ren := ⟨fun | 156 => 143 | 165 => 167 | 166 => 168 | 169 => 169 | 240 => 186 | 241 => 187 | 276 => 196 | 277 => 197 | n => n, fun | 31 => 71 | 9 => 9 | 3 => 3 | 4 => 4 | 0 => 0 | 20 => 20 | 72 => 194 | 76 => 198 | 70 => 191 | 37 => 192 | 75 => 197 | 127 => 212 | 164 => 219 | 5 => 5 | 80 => 200 | n => n, fun | n => n⟩
theorem Tryz.lays156 : Go.Proofs.Lays.n156 Tryz.prog Tryz.lays156_ren := {
  mixed := by kernel_rfl
  f156 := Tryz.func143.trans (congrArg some (by kernel_rfl))
  f165 := Tryz.func167.trans (congrArg some (by kernel_rfl))
  f166 := Tryz.func168.trans (congrArg some (by kernel_rfl))
  f169 := Tryz.func169.trans (congrArg some (by kernel_rfl))
  f240 := Tryz.func186.trans (congrArg some (by kernel_rfl))
  f241 := Tryz.func187.trans (congrArg some (by kernel_rfl))
  f276 := Tryz.func196.trans (congrArg some (by kernel_rfl))
  f277 := Tryz.func197.trans (congrArg some (by kernel_rfl))
  t0 := Tryz.underlying0
  a0 := Tryz.isAgg0
  z0 := Tryz.sizeOf0
  v0 := Tryz.zeroValue0
  t3 := Tryz.underlying3
  a3 := Tryz.isAgg3
  z3 := Tryz.sizeOf3
  v3 := Tryz.zeroValue3
  t4 := Tryz.underlying4
  a4 := Tryz.isAgg4
  z4 := Tryz.sizeOf4
  v4 := Tryz.zeroValue4
  t9 := Tryz.underlying9
  a9 := Tryz.isAgg9
  z9 := Tryz.sizeOf9
  v9 := Tryz.zeroValue9
  t20 := Tryz.underlying20
  a20 := Tryz.isAgg20
  z20 := Tryz.sizeOf20
  v20 := Tryz.zeroValue20
  t31 := Tryz.underlying71
  a31 := Tryz.isAgg71
  z31 := Tryz.sizeOf71
  v31 := Tryz.zeroValue71
  t37 := Tryz.underlying192
  a37 := Tryz.isAgg192
  z37 := Tryz.sizeOf192
  v37 := Tryz.zeroValue192
  t70 := Tryz.underlying191
  a70 := Tryz.isAgg191
  z70 := Tryz.sizeOf191
  v70 := Tryz.zeroValue191
  t72 := Tryz.underlying194
  a72 := Tryz.isAgg194
  z72 := Tryz.sizeOf194
  v72 := Tryz.zeroValue194
  t75 := Tryz.underlying197
  a75 := Tryz.isAgg197
  z75 := Tryz.sizeOf197
  v75 := Tryz.zeroValue197
  t76 := Tryz.underlying198
  a76 := Tryz.isAgg198
  z76 := Tryz.sizeOf198
  v76 := Tryz.zeroValue198
  t127 := Tryz.underlying212
  a127 := Tryz.isAgg212
  z127 := Tryz.sizeOf212
  v127 := Tryz.zeroValue212
  t164 := Tryz.underlying219
  a164 := Tryz.isAgg219
  z164 := Tryz.sizeOf219
  v164 := Tryz.zeroValue219 }
theorem Tryz.Builder_Extra_156 : Builder.Extra Tryz.prog Tryz.lays156_ren := {
  sizeBuilder := by kernel_rfl
  liesBuilder := by kernel_rfl
  t5 := Tryz.underlying5
  a5 := Tryz.isAgg5
  z5 := Tryz.sizeOf5
  v5 := Tryz.zeroValue5
  infoByte := by kernel_rfl
  cellsByte := by kernel_rfl
  sizeByte := by kernel_rfl
  neB5 := by decide }
open Go.RowKit in
theorem Tryz.strings_Join_none (a : Option Addr) (c : Nat) (sep : ByteArray) (w : World) :
    Calls Tryz.prog 143 #[.slice a 0 c, .string sep] w fun e w' => e = .returned (.string ⟨#[]⟩) ∧ w' = w := Any.strings_Join_none Tryz.lays156 Tryz.Builder_Extra_156 a c sep w
open Go.RowKit in
theorem Tryz.strings_Join (bk o c : Nat) (xs : List ByteArray) (sep : ByteArray) (w : World) (hcells : ∀ (j : Nat) x, xs[j]? = some x → w.cell? ⟨bk, o + j, none⟩ = some (.string x)) (hbk : bk < w.heap.size) (hN : xs.length ≤ 140737488355328) (hcap : xs.length ≤ c) (hlen : (Lib.join (xs.map (·.data.toList)) sep.data.toList).length ≤ 140737488355328) :
    Calls Tryz.prog 143 #[.slice (some ⟨bk, o, none⟩) xs.length c, .string sep] w fun e w' => e = .returned (.string ⟨(Lib.join (xs.map (·.data.toList)) sep.data.toList).toArray⟩) ∧ Below w.heap.size w w' := Any.strings_Join Tryz.lays156 Tryz.Builder_Extra_156 bk o c xs sep w hcells hbk hN hcap hlen
def Tryz.lays122_ren : Go.Shelf.Ren := ⟨fun | 122 => 97 | 215 => 130 | n => n, fun | 3 => 3 | 4 => 4 | n => n, fun | n => n⟩
theorem Tryz.lays122 : Go.Proofs.Lays.n122 Tryz.prog Tryz.lays122_ren := {
  mixed := by kernel_rfl
  f122 := Tryz.func97.trans (congrArg some (by kernel_rfl))
  f215 := Tryz.func130.trans (congrArg some (by kernel_rfl))
  t3 := Tryz.underlying3
  a3 := Tryz.isAgg3
  z3 := Tryz.sizeOf3
  v3 := Tryz.zeroValue3
  t4 := Tryz.underlying4
  a4 := Tryz.isAgg4
  z4 := Tryz.sizeOf4
  v4 := Tryz.zeroValue4 }
open Go.RowKit in
theorem Tryz.cmp_Compare_int (x y : Int) (w : World) :
    Calls Tryz.prog 97 #[.int .i64 x, .int .i64 y] w fun e w' => e = .returned (.int .i64 (Lib.compareInt x y)) ∧ w' = w := Any.cmp_Compare_int Tryz.lays122 x y w
def Tryz.laysM171_ren : Go.Shelf.Ren := ⟨fun | 171 => 166 | 243 => 185 | 246 => 195 | 283 => 200 | 284 => 201 | 285 => 202 | 286 => 203 | 129 => 128 | 317 => 206 | 318 => 207 | 319 => 208 | 320 => 209 | 337 => 210 | 338 => 211 | n => n, fun | 3 => 3 | 9 => 9 | 2 => 2 | 4 => 4 | 171 => 228 | 0 => 0 | 53 => 170 | 37 => 192 | 5 => 5 | 173 => 230 | 212 => 244 | 51 => 168 | 20 => 20 | 213 => 245 | 46 => 147 | 232 => 248 | 233 => 249 | n => n, fun | 17 => 3 | 18 => 4 | 19 => 5 | n => n⟩
theorem Tryz.laysM171 : Go.Proofs.LaysM.n171 Tryz.prog Tryz.laysM171_ren := {
  mixed := by kernel_rfl
  f129 := Tryz.func128.trans (congrArg some (by kernel_rfl))
  f171 := Tryz.func166.trans (congrArg some (by kernel_rfl))
  f243 := Tryz.func185.trans (congrArg some (by kernel_rfl))
  f246 := Tryz.func195.trans (congrArg some (by kernel_rfl))
  f283 := Tryz.func200.trans (congrArg some (by kernel_rfl))
  f284 := Tryz.func201.trans (congrArg some (by kernel_rfl))
  f285 := Tryz.func202.trans (congrArg some (by kernel_rfl))
  f286 := Tryz.func203.trans (congrArg some (by kernel_rfl))
  f317 := Tryz.func206.trans (congrArg some (by kernel_rfl))
  f318 := Tryz.func207.trans (congrArg some (by kernel_rfl))
  f319 := Tryz.func208.trans (congrArg some (by kernel_rfl))
  f320 := Tryz.func209.trans (congrArg some (by kernel_rfl))
  f337 := Tryz.func210.trans (congrArg some (by kernel_rfl))
  f338 := Tryz.func211.trans (congrArg some (by kernel_rfl))
  t0 := Tryz.underlying0
  a0 := Tryz.isAgg0
  z0 := Tryz.sizeOf0
  v0 := Tryz.zeroValue0
  t2 := Tryz.underlying2
  a2 := Tryz.isAgg2
  z2 := Tryz.sizeOf2
  v2 := Tryz.zeroValue2
  t3 := Tryz.underlying3
  a3 := Tryz.isAgg3
  z3 := Tryz.sizeOf3
  v3 := Tryz.zeroValue3
  t4 := Tryz.underlying4
  a4 := Tryz.isAgg4
  z4 := Tryz.sizeOf4
  v4 := Tryz.zeroValue4
  t5 := Tryz.underlying5
  a5 := Tryz.isAgg5
  z5 := Tryz.sizeOf5
  v5 := Tryz.zeroValue5
  t9 := Tryz.underlying9
  a9 := Tryz.isAgg9
  z9 := Tryz.sizeOf9
  v9 := Tryz.zeroValue9
  t20 := Tryz.underlying20
  a20 := Tryz.isAgg20
  z20 := Tryz.sizeOf20
  v20 := Tryz.zeroValue20
  t37 := Tryz.underlying192
  a37 := Tryz.isAgg192
  z37 := Tryz.sizeOf192
  v37 := Tryz.zeroValue192
  t46 := Tryz.underlying147
  a46 := Tryz.isAgg147
  z46 := Tryz.sizeOf147
  v46 := Tryz.zeroValue147
  t51 := Tryz.underlying168
  a51 := Tryz.isAgg168
  z51 := Tryz.sizeOf168
  v51 := Tryz.zeroValue168
  t53 := Tryz.underlying170
  a53 := Tryz.isAgg170
  z53 := Tryz.sizeOf170
  v53 := Tryz.zeroValue170
  t171 := Tryz.underlying228
  a171 := Tryz.isAgg228
  z171 := Tryz.sizeOf228
  v171 := Tryz.zeroValue228
  t173 := Tryz.underlying230
  a173 := Tryz.isAgg230
  z173 := Tryz.sizeOf230
  v173 := Tryz.zeroValue230
  t212 := Tryz.underlying244
  a212 := Tryz.isAgg244
  z212 := Tryz.sizeOf244
  v212 := Tryz.zeroValue244
  t213 := Tryz.underlying245
  a213 := Tryz.isAgg245
  z213 := Tryz.sizeOf245
  t232 := Tryz.underlying248
  a232 := Tryz.isAgg248
  z232 := Tryz.sizeOf248
  v232 := Tryz.zeroValue248
  t233 := Tryz.underlying249
  a233 := Tryz.isAgg249
  z233 := Tryz.sizeOf249
  v233 := Tryz.zeroValue249
  g17 := by kernel_rfl
  g18 := by kernel_rfl
  g19 := by kernel_rfl
  i0 := by kernel_rfl
  i2 := by kernel_rfl
  i3 := by kernel_rfl
  i4 := by kernel_rfl
  i5 := by kernel_rfl
  i9 := by kernel_rfl
  i20 := by kernel_rfl
  i37 := by kernel_rfl
  i46 := by kernel_rfl
  i51 := by kernel_rfl
  i53 := by kernel_rfl
  i171 := by kernel_rfl
  i173 := by kernel_rfl
  i212 := by kernel_rfl
  i232 := by kernel_rfl
  i233 := by kernel_rfl
  m17 := by kernel_rfl
  m18 := by kernel_rfl
  m19 := by kernel_rfl }
open Go.RowKit Go.Sort Go.Lib in
theorem Tryz.strconv_Itoa (n : Int) (h0 : -9223372036854775808 ≤ n) (h1 : n ≤ 9223372036854775807) (w : World) (htab : Lib.TabIs Tryz.prog w "internal/strconv.uint64pow10" .u64 Lib.pow10Tab) :
    Calls Tryz.prog 166 #[.int .i64 n] w fun e w' => e = .returned (.string ⟨(Lib.itoa n).toArray⟩) ∧ ∃ k os, w' = grow (w.drewN k) os := Any.strconv_Itoa Tryz.laysM171 n h0 h1 w htab
def Tryz.lays190_ren : Go.Shelf.Ren := ⟨fun | 190 => 117 | 125 => 94 | 258 => 145 | 128 => 127 | 129 => 128 | 302 => 170 | 303 => 171 | 304 => 172 | 305 => 173 | 306 => 174 | 307 => 175 | 308 => 176 | 309 => 177 | 310 => 178 | 333 => 188 | 329 => 147 | 330 => 148 | 334 => 189 | 335 => 190 | 336 => 129 | 344 => 198 | n => n, fun | 31 => 71 | 9 => 9 | 3 => 3 | 46 => 147 | 0 => 0 | 51 => 168 | 53 => 170 | 4 => 4 | 183 => 162 | 182 => 161 | 131 => 136 | 5 => 5 | 218 => 181 | 222 => 185 | 228 => 207 | 229 => 208 | n => n, fun | n => n⟩
theorem Tryz.lays190 : Go.Proofs.Lays.n190 Tryz.prog Tryz.lays190_ren := {
  mixed := by kernel_rfl
  f125 := Tryz.func94.trans (congrArg some (by kernel_rfl))
  f128 := Tryz.func127.trans (congrArg some (by kernel_rfl))
  f129 := Tryz.func128.trans (congrArg some (by kernel_rfl))
  f190 := Tryz.func117.trans (congrArg some (by kernel_rfl))
  f258 := Tryz.func145.trans (congrArg some (by kernel_rfl))
  f302 := Tryz.func170.trans (congrArg some (by kernel_rfl))
  f303 := Tryz.func171.trans (congrArg some (by kernel_rfl))
  f304 := Tryz.func172.trans (congrArg some (by kernel_rfl))
  f305 := Tryz.func173.trans (congrArg some (by kernel_rfl))
  f306 := Tryz.func174.trans (congrArg some (by kernel_rfl))
  f307 := Tryz.func175.trans (congrArg some (by kernel_rfl))
  f308 := Tryz.func176.trans (congrArg some (by kernel_rfl))
  f309 := Tryz.func177.trans (congrArg some (by kernel_rfl))
  f310 := Tryz.func178.trans (congrArg some (by kernel_rfl))
  f329 := Tryz.func147.trans (congrArg some (by kernel_rfl))
  f330 := Tryz.func148.trans (congrArg some (by kernel_rfl))
  f333 := Tryz.func188.trans (congrArg some (by kernel_rfl))
  f334 := Tryz.func189.trans (congrArg some (by kernel_rfl))
  f335 := Tryz.func190.trans (congrArg some (by kernel_rfl))
  f336 := Tryz.func129.trans (congrArg some (by kernel_rfl))
  f344 := Tryz.func198.trans (congrArg some (by kernel_rfl))
  t0 := Tryz.underlying0
  a0 := Tryz.isAgg0
  z0 := Tryz.sizeOf0
  v0 := Tryz.zeroValue0
  t3 := Tryz.underlying3
  a3 := Tryz.isAgg3
  z3 := Tryz.sizeOf3
  v3 := Tryz.zeroValue3
  t4 := Tryz.underlying4
  a4 := Tryz.isAgg4
  z4 := Tryz.sizeOf4
  v4 := Tryz.zeroValue4
  t5 := Tryz.underlying5
  a5 := Tryz.isAgg5
  z5 := Tryz.sizeOf5
  v5 := Tryz.zeroValue5
  t9 := Tryz.underlying9
  a9 := Tryz.isAgg9
  z9 := Tryz.sizeOf9
  v9 := Tryz.zeroValue9
  t31 := Tryz.underlying71
  a31 := Tryz.isAgg71
  z31 := Tryz.sizeOf71
  v31 := Tryz.zeroValue71
  t46 := Tryz.underlying147
  a46 := Tryz.isAgg147
  z46 := Tryz.sizeOf147
  v46 := Tryz.zeroValue147
  t51 := Tryz.underlying168
  a51 := Tryz.isAgg168
  z51 := Tryz.sizeOf168
  v51 := Tryz.zeroValue168
  t53 := Tryz.underlying170
  a53 := Tryz.isAgg170
  z53 := Tryz.sizeOf170
  v53 := Tryz.zeroValue170
  t131 := Tryz.underlying136
  a131 := Tryz.isAgg136
  z131 := Tryz.sizeOf136
  v131 := Tryz.zeroValue136
  t182 := Tryz.underlying161
  a182 := Tryz.isAgg161
  z182 := Tryz.sizeOf161
  v182 := Tryz.zeroValue161
  t183 := Tryz.underlying162
  a183 := Tryz.isAgg162
  z183 := Tryz.sizeOf162
  v183 := Tryz.zeroValue162
  t218 := Tryz.underlying181
  a218 := Tryz.isAgg181
  z218 := Tryz.sizeOf181
  v218 := Tryz.zeroValue181
  t222 := Tryz.underlying185
  a222 := Tryz.isAgg185
  z222 := Tryz.sizeOf185
  v222 := Tryz.zeroValue185
  t228 := Tryz.underlying207
  a228 := Tryz.isAgg207
  z228 := Tryz.sizeOf207
  v228 := Tryz.zeroValue207
  t229 := Tryz.underlying208
  a229 := Tryz.isAgg208
  z229 := Tryz.sizeOf208
  v229 := Tryz.zeroValue208 }
open Go.Sort Go.RowKit in
theorem Tryz.slices_Sort_string (blk off cap : Nat) (ss : List (List UInt8)) (w : World) (hH : Holds encStr w blk off ss.toArray) (hblk : blk < w.heap.size) (hsz : ss.length < 4611686018427387904) :
    Calls Tryz.prog 117 #[.slice (some ⟨blk, off, none⟩) ss.length cap] w fun e w' =>
      e = .returned (.tuple #[]) ∧ ∃ n os, w' = grow (putRow encStr (Sort.ahead w n) blk off (ss.mergeSort fun x y => decide (x ≤ y)).toArray) os := Any.slices_Sort_string Tryz.lays190 blk off cap ss w hH hblk hsz
def Tryz.laysM157_ren : Go.Shelf.Ren := ⟨fun | 157 => 181 | 229 => 191 | 199 => 192 | 261 => 199 | 311 => 204 | 312 => 205 | n => n, fun | 9 => 9 | 31 => 71 | 3 => 3 | 5 => 5 | 4 => 4 | 119 => 215 | 0 => 0 | 40 => 217 | 152 => 223 | 21 => 21 | 154 => 225 | 51 => 168 | 141 => 227 | 196 => 235 | 193 => 232 | 198 => 238 | 49 => 236 | 194 => 233 | 201 => 241 | 226 => 246 | 46 => 147 | 227 => 247 | n => n, fun | 0 => 0 | 6 => 1 | n => n⟩
theorem Tryz.laysM157 : Go.Proofs.LaysM.n157 Tryz.prog Tryz.laysM157_ren := {
  mixed := by kernel_rfl
  f157 := Tryz.func181.trans (congrArg some (by kernel_rfl))
  f199 := Tryz.func192.trans (congrArg some (by kernel_rfl))
  f229 := Tryz.func191.trans (congrArg some (by kernel_rfl))
  f261 := Tryz.func199.trans (congrArg some (by kernel_rfl))
  f311 := Tryz.func204.trans (congrArg some (by kernel_rfl))
  f312 := Tryz.func205.trans (congrArg some (by kernel_rfl))
  t0 := Tryz.underlying0
  a0 := Tryz.isAgg0
  z0 := Tryz.sizeOf0
  v0 := Tryz.zeroValue0
  t3 := Tryz.underlying3
  a3 := Tryz.isAgg3
  z3 := Tryz.sizeOf3
  v3 := Tryz.zeroValue3
  t4 := Tryz.underlying4
  a4 := Tryz.isAgg4
  z4 := Tryz.sizeOf4
  v4 := Tryz.zeroValue4
  t5 := Tryz.underlying5
  a5 := Tryz.isAgg5
  z5 := Tryz.sizeOf5
  v5 := Tryz.zeroValue5
  t9 := Tryz.underlying9
  a9 := Tryz.isAgg9
  z9 := Tryz.sizeOf9
  v9 := Tryz.zeroValue9
  t21 := Tryz.underlying21
  a21 := Tryz.isAgg21
  z21 := Tryz.sizeOf21
  v21 := Tryz.zeroValue21
  t31 := Tryz.underlying71
  a31 := Tryz.isAgg71
  z31 := Tryz.sizeOf71
  v31 := Tryz.zeroValue71
  t40 := Tryz.underlying217
  a40 := Tryz.isAgg217
  z40 := Tryz.sizeOf217
  v40 := Tryz.zeroValue217
  t46 := Tryz.underlying147
  a46 := Tryz.isAgg147
  z46 := Tryz.sizeOf147
  v46 := Tryz.zeroValue147
  t49 := Tryz.underlying236
  a49 := Tryz.isAgg236
  z49 := Tryz.sizeOf236
  v49 := Tryz.zeroValue236
  t51 := Tryz.underlying168
  a51 := Tryz.isAgg168
  z51 := Tryz.sizeOf168
  v51 := Tryz.zeroValue168
  t119 := Tryz.underlying215
  a119 := Tryz.isAgg215
  z119 := Tryz.sizeOf215
  t141 := Tryz.underlying227
  a141 := Tryz.isAgg227
  z141 := Tryz.sizeOf227
  v141 := Tryz.zeroValue227
  t152 := Tryz.underlying223
  a152 := Tryz.isAgg223
  z152 := Tryz.sizeOf223
  v152 := Tryz.zeroValue223
  t154 := Tryz.underlying225
  a154 := Tryz.isAgg225
  z154 := Tryz.sizeOf225
  v154 := Tryz.zeroValue225
  t193 := Tryz.underlying232
  a193 := Tryz.isAgg232
  z193 := Tryz.sizeOf232
  v193 := Tryz.zeroValue232
  t194 := Tryz.underlying233
  a194 := Tryz.isAgg233
  z194 := Tryz.sizeOf233
  v194 := Tryz.zeroValue233
  t196 := Tryz.underlying235
  a196 := Tryz.isAgg235
  z196 := Tryz.sizeOf235
  v196 := Tryz.zeroValue235
  t198 := Tryz.underlying238
  a198 := Tryz.isAgg238
  z198 := Tryz.sizeOf238
  v198 := Tryz.zeroValue238
  t201 := Tryz.underlying241
  a201 := Tryz.isAgg241
  z201 := Tryz.sizeOf241
  v201 := Tryz.zeroValue241
  t226 := Tryz.underlying246
  a226 := Tryz.isAgg246
  z226 := Tryz.sizeOf246
  v226 := Tryz.zeroValue246
  t227 := Tryz.underlying247
  a227 := Tryz.isAgg247
  z227 := Tryz.sizeOf247
  v227 := Tryz.zeroValue247
  g0 := by kernel_rfl
  g6 := by kernel_rfl
  i0 := by kernel_rfl
  i3 := by kernel_rfl
  i4 := by kernel_rfl
  i5 := by kernel_rfl
  i9 := by kernel_rfl
  i21 := by kernel_rfl
  i31 := by kernel_rfl
  i40 := by kernel_rfl
  i46 := by kernel_rfl
  i49 := by kernel_rfl
  i51 := by kernel_rfl
  i141 := by kernel_rfl
  i152 := by kernel_rfl
  i154 := by kernel_rfl
  i193 := by kernel_rfl
  i194 := by kernel_rfl
  i196 := by kernel_rfl
  i198 := by kernel_rfl
  i201 := by kernel_rfl
  i226 := by kernel_rfl
  i227 := by kernel_rfl
  m0 := by kernel_rfl
  m6 := by kernel_rfl }
open Go.RowKit Go.Lib in
theorem Tryz.strings_Fields_laid (s : ByteArray) (w : World) (hs : s.size < 4294967281) (hascii : ∀ (j : Nat) b, s.data.toList[j]? = some b → b.toNat < 128) (htab : Lib.TabIs Tryz.prog w "strings.asciiSpace" .u8 Lib.asciiSpaceTab) :
    Calls Tryz.prog 181 #[.string s] w fun e w' =>
      e = .returned (.slice (some ⟨w.heap.size, 0, none⟩) (Lib.fields s.data.toList).length (Lib.fields s.data.toList).length) ∧ w' = w.alloc (.cells ((Lib.fields s.data.toList).map fun l => Value.string ⟨l.toArray⟩).toArray 9) := Any.strings_Fields_laid Tryz.laysM157 s w hs hascii htab
open Go.RowKit Go.Sort in
theorem Tryz.slices_Sort_string_none (p : Option Addr) (cap : Nat) (w : World) :
    Calls Tryz.prog 117 #[.slice p 0 cap] w fun e w' => e = .returned (.tuple #[]) ∧ w' = w := Any.slices_Sort_string_none Tryz.lays190 p cap w
end Go.Proofs
namespace Go.Proofs.YtkjoaodoioicpaaGreatDoor
open Go.RowKit
structure LD (w : World) : Prop where
  pow : Lib.TabIs Tryz.prog w "internal/strconv.uint64pow10" .u64 Lib.pow10Tab
  asc : Lib.TabIs Tryz.prog w "strings.asciiSpace" .u8 Lib.asciiSpaceTab
  mxl : ∃ m, w.cell? ⟨2, 0, none⟩ = some (.int .i64 m)
theorem LD.below {w w' : World} (h : LD w) (hb : Below w.heap.size w w') : LD w' := by
  obtain ⟨h1, h2, m, h5⟩ := h
  exact ⟨Go.Joins.tab_stays (g := 3) (by kernel_rfl) h1 hb (Nat.le_refl _), Go.Joins.tab_stays (g := 0) (by kernel_rfl) h2 hb (Nat.le_refl _), m, (hb.cell (World.block_lt_of_cell? w _ h5)).trans h5⟩
theorem LD.alloc {w : World} (h : LD w) (o : Obj) : LD (w.alloc o) := h.below ((Below.refl _ _).alloc (Nat.le_refl _) _)
theorem formedA1_any (a : Arg) (w : World) (ha : OkA a) :
    Calls Tryz.prog 164 #[vArg a] w fun e w' => e = .returned (.bool (!formedS a)) ∧ Below w.heap.size w w' := by
  have h := fun w => formed_any a w ha
  generalize formedS a = b at *
  unfold vArg at *
  have H := Lib.hid h; clear h
  go_enter Tryz.func164, Tryz.ntmps164
  go_wp2_with (first | (go_at_call 165; refine (H.out _).mono ?_; rintro e w' ⟨rfl, hb⟩))
  go_ret
  exact ⟨rfl, next boxed hb (Nat.le_refl _)⟩
theorem any_not {α : Type} (p : α → Bool) (l : List α) : (!l.any fun x => !p x) = l.all p := by
  induction l with
  | nil => rfl
  | cons x r ih => simp [List.any_cons, List.all_cons, ← ih]
theorem formedArgs_any (A : Option Addr) (n c : Nat) (w : World) (S : Nat → Prop) (l : List Arg) (hl : Sl w S A n c l) (ho : OkAs l) :
    Calls Tryz.prog 139 #[.slice A n c] w fun e w' => e = .returned (.bool (argsS l)) ∧ Below w.heap.size w w' := by
  have h := conA_any A n c w S l hl 164 #[] (fun _ _ => by kernel_rfl) (fun a => !formedS a) (fun x hx w1 _ => formedA1_any x w1 (ho x hx))
  unfold argsS
  rw [← any_not]
  generalize l.any (fun x => !formedS x) = b at *
  have H := Lib.hid h; clear h hl ho
  go_enter Tryz.func139, Tryz.ntmps139
  go_wp2_with (first | (go_at_call 109; refine H.out.mono ?_; rintro e w' ⟨rfl, hb⟩))
  go_ret
  exact ⟨rfl, hb⟩
theorem formedAtom_any (a : Atm) (A : Option Addr) (n c : Nat) (w : World) (S : Nat → Prop) (hl : Sl w S A n c a.args) (ho : OkT a) :
    Calls Tryz.prog 108 #[.agg #[.string ⟨a.name.toArray⟩, .slice A n c]] w fun e w' => e = .returned (.bool (atomS a)) ∧ Below w.heap.size w w' := by
  obtain ⟨v, hv⟩ : ∃ v, v = atomS a := ⟨_, rfl⟩
  rw [← hv]
  have hp := fun w => predicate_any a.name w ho.1
  have hf := fun w S (h : Sl w S A n c a.args) => formedArgs_any A n c w S a.args h ho.2
  have hn := hl.len
  unfold atomS at hv
  rw [← hn] at hv
  generalize predS a.name = b1 at *
  generalize argsS a.args = b2 at *
  have HP := Lib.hid hp; have HF := Lib.hid hf; have HL := Lib.hid hl; have Hv := Lib.hid hv
  clear hp hf hl hv hn ho
  go_enter Tryz.func108, Tryz.ntmps108
  go_wp2_with (first | (go_at_call 138; refine (HP.out _).mono ?_; rintro e w' ⟨rfl, rfl⟩) | (go_at_call 139; refine (HF.out _ _ (HL.out.alloc _)).mono ?_; rintro e w' ⟨rfl, hb⟩))
  all_goals go_ret
  all_goals (refine ⟨ret_bool ?_, ?_⟩ <;> first | exact boxed | exact next boxed (by assumption) (Nat.le_refl _) | (rw [Hv.out]; simp_all; try omega))
end Go.Proofs.YtkjoaodoioicpaaGreatDoor
namespace Go.Proofs.YtkjoaodoioicpaaGreatDoor
open Go.RowKit
section
variable {P : Program} {ops : Array Oper} {Q : Exit → Act → World → Prop} {md : Region.Mode} {S : World → Prop}
theorem wpAnyH_takeW (i : Nat) {oi : Oper} {d : Nat} {v : Value} {fuel : Nat} {listed : Array Bool} {a : Act} {w : World} (hi : ops[i]? = some oi) (hd : oi.dst = some d)
    (hs : Region.noSelect ops = true) (hf : Region.free md ops listed i = true) (hr : (Region.ready md ops listed).contains i = true)
    (hQ : ∀ c a w, Q (.panic c) (a.put oi.dst v) w → Q (.panic c) a w) (hwt : Region.wanted oi (yielded ops a.tmps) = true) (hS : S w) (hy : ∀ x, S x → (execOp a.eval oi).run P x = .ok (.value v) x)
    (h : wpAnyH P md ops Q S fuel (listed.setIfInBounds i true) { a with tmps := a.tmps.setIfInBounds d v } w) : wpAnyH P md ops Q S (fuel + 1) listed a w :=
  wpAnyH_take hi hs hf hr hQ (.inl ⟨hwt, hy⟩) hS (by rw [hd]; exact h)
theorem wpAnyH_takeU (i : Nat) {oi : Oper} {d : Nat} {fuel : Nat} {listed : Array Bool} {a : Act} {w : World} (hi : ops[i]? = some oi) (hd : oi.dst = some d)
    (hs : Region.noSelect ops = true) (hf : Region.free md ops listed i = true) (hr : (Region.ready md ops listed).contains i = true)
    (hQ : ∀ c a w, Q (.panic c) (a.put oi.dst undef) w → Q (.panic c) a w) (hwt : Region.wanted oi (yielded ops a.tmps) = false) (hS : S w)
    (h : wpAnyH P md ops Q S fuel (listed.setIfInBounds i true) { a with tmps := a.tmps.setIfInBounds d undef } w) : wpAnyH P md ops Q S (fuel + 1) listed a w :=
  wpAnyH_take hi hs hf hr hQ (.inr ⟨hwt, rfl⟩) hS (by rw [hd]; exact h)
theorem tkW (i : Nat) {oi : Oper} {d : Nat} {v : Value} {fuel : Nat} {listed : Array Bool} {a : Act} {w : World} (hS : S w) (hy : ∀ x, S x → (execOp a.eval oi).run P x = .ok (.value v) x)
    (h : wpAnyH P md ops Q S fuel (listed.setIfInBounds i true) { a with tmps := a.tmps.setIfInBounds d v } w)
    (hi : ops[i]? = some oi := by exact rfl) (hd : oi.dst = some d := by exact rfl)
    (hs : Region.noSelect ops = true := by kernel_rfl) (hf : Region.free md ops listed i = true := by kernel_rfl) (hr : (Region.ready md ops listed).contains i = true := by kernel_rfl)
    (hQ : ∀ c a w, Q (.panic c) (a.put oi.dst v) w → Q (.panic c) a w := by exact fun _ _ _ h => h) (hwt : Region.wanted oi (yielded ops a.tmps) = true := by kernel_rfl) : wpAnyH P md ops Q S (fuel + 1) listed a w :=
  wpAnyH_takeW i hi hd hs hf hr hQ hwt hS hy h
theorem tkU (i : Nat) {oi : Oper} {d : Nat} {fuel : Nat} {listed : Array Bool} {a : Act} {w : World} (hS : S w)
    (h : wpAnyH P md ops Q S fuel (listed.setIfInBounds i true) { a with tmps := a.tmps.setIfInBounds d undef } w)
    (hi : ops[i]? = some oi := by exact rfl) (hd : oi.dst = some d := by exact rfl)
    (hs : Region.noSelect ops = true := by kernel_rfl) (hf : Region.free md ops listed i = true := by kernel_rfl) (hr : (Region.ready md ops listed).contains i = true := by kernel_rfl)
    (hQ : ∀ c a w, Q (.panic c) (a.put oi.dst undef) w → Q (.panic c) a w := by exact fun _ _ _ h => h) (hwt : Region.wanted oi (yielded ops a.tmps) = false := by kernel_rfl) : wpAnyH P md ops Q S (fuel + 1) listed a w :=
  wpAnyH_takeU i hi hd hs hf hr hQ hwt hS h
theorem wpAnyH_one (i : Nat) {o : Oper} {fuel : Nat} {listed : Array Bool} {a : Act} {w : World} (hr : Region.ready md ops listed = [i]) (ho : ops[i]? = some o)
    (h : ∀ K' : Act → World → Prop, Shut (∀ a' w', S w' → wpAnyH P md ops Q S fuel (listed.setIfInBounds i true) a' w' → K' a' w') → if Region.wanted o (yielded ops a.tmps) = true then Oper.wp P o a w K' Q else K' (a.put o.dst undef) w) :
    wpAnyH P md ops Q S (fuel + 1) listed a w := by
  refine ⟨fun h0 => (by rw [hr] at h0; cases h0), fun j hj => ?_⟩
  rw [hr] at hj
  have hji : j = i := by simpa using hj
  subst hji
  exact wpOp_step ho (fun K' hK => h K' (fun a w hS hW => hK a w ⟨hS, hW⟩))
theorem wpH_region (S : World → Prop) {id : Nat} {a : Act} {w : World} (hm : P.follows .mixedOrders = true)
    (h : wpAnyH P .any ops Q S ops.size (Array.replicate ops.size false) a w.drew) : (Code.region id ops true).wp P Q a w :=
  wp_region_any hm (wpAny_of_held _ _ _ _ h)
end
end Go.Proofs.YtkjoaodoioicpaaGreatDoor
