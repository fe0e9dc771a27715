/- Query (package licitlaw54): a part of the proofs of its laws; see the law's own text, which comes last in 'order'. No conditions of its own. -/
import Derived.Deep.DrawnRows
import Derived.Test.YtkjoaodoioicpaaGreatDoorWC02
import Derived.Test.YtkjoaodoioicpaaGreatDoorWC03
set_option linter.unusedVariables false
set_option linter.unusedSimpArgs false
namespace Go.Proofs.YtkjoaodoioicpaaGreatDoor
open Go.RowKit
theorem Sl.lits {w : World} {S : Nat → Prop} {b : Nat} {xs : List Bs} {t : TypeId} (hb : w.heap[b]? = some (.cells (xs.map fun l => Value.string ⟨l.toArray⟩).toArray t (0, 0))) (hS : S b) (hn : xs.length ≤ 9223372036854775807) : Sl w S (some ⟨b, 0, none⟩) xs.length xs.length xs := by
  refine ⟨rfl, Nat.le_refl _, hn, fun i hi => ⟨_, rfl, hS, fun _ => .string ⟨xs[i].toArray⟩, fun j hj => ?_, rfl⟩⟩
  have hj : j < 1 := hj
  obtain rfl : j = 0 := by omega
  rw [add_plain, cell_blk hb]
  simp [GoT.size, hi]
theorem fieldsC_any (w : World) (hL : LD w) :
    Calls Tryz.prog 181 #[.string ⟨#[61, 32, 33, 61, 32, 60, 32, 60, 61]⟩] w fun e w' => ∃ b, e = .returned (.slice (some ⟨b, 0, none⟩) 4 4) ∧ Sl w' (fun k => w.heap.size ≤ k) (some ⟨b, 0, none⟩) 4 4 opsL ∧ Below w.heap.size w w' := by
  have hf : Lib.fields [61, 32, 33, 61, 32, 60, 32, 60, 61] = opsL := by kernel_rfl
  refine (Tryz.strings_Fields_laid ⟨#[61, 32, 33, 61, 32, 60, 32, 60, 61]⟩ w (by decide) ?_ hL.asc).mono ?_
  · intro j b hj
    have : b ∈ ([61, 32, 33, 61, 32, 60, 32, 60, 61] : List UInt8) := List.mem_of_getElem? hj
    have key : ∀ b ∈ ([61, 32, 33, 61, 32, 60, 32, 60, 61] : List UInt8), b.toNat < 128 := by decide
    exact key b this
  · rintro e w' ⟨he, rfl⟩
    have hf' : Lib.fields (ByteArray.mk #[61, 32, 33, 61, 32, 60, 32, 60, 61]).data.toList = opsL := hf
    rw [hf'] at he ⊢
    exact ⟨w.heap.size, he, Sl.lits (xs := opsL) (blkAt w _ rfl) (Nat.le_refl _) (by decide), boxed⟩
set_option maxRecDepth 100000 in
set_option maxHeartbeats 4000000 in
theorem formedLiteral_any (l : Ltl) (A : Option Addr) (n c : Nat) (w : World) (S : Nat → Prop) (hl : Sl w S A n c l.atom.args) (ho : OkL l) (hL : LD w) :
    Calls Tryz.prog 156 #[.agg #[.bool l.neg, .string ⟨l.op.toArray⟩, .string ⟨l.atom.name.toArray⟩, .slice A n c]] w fun e w' => e = .returned (.bool (ltlS l)) ∧ Below w.heap.size w w' := by
  obtain ⟨v, hv⟩ : ∃ v, v = ltlS l := ⟨_, rfl⟩
  rw [← hv]
  unfold ltlS at hv
  have hcomp := fun w => compares_any l A n c w
  have HCM := Lib.hid hcomp; clear hcomp
  have hn := hl.len
  cases hc : compsS l
  · rw [hc] at hv HCM
    have hat := fun w S (h : Sl w S A n c l.atom.args) => formedAtom_any l.atom A n c w S h ho.2
    simp only [Bool.not_false, if_true] at hv
    rw [← hv] at hat
    have HAT := Lib.hid hat; have HLL := Lib.hid hl
    clear hat hl ho hL hc hv hn
    obtain ⟨neg, op, nm, args⟩ := l
    simp only at HCM HAT HLL
    go_enter Tryz.func156, Tryz.ntmps156
    go_wp2_with (first | (go_at_call 115; refine (HCM.out _).mono ?_; rintro e w1 ⟨rfl, hb1⟩; have h2 := cell_later hb1 ((cell_blk (blkAt w _ rfl) 2).trans rfl); have h3 := cell_later hb1 ((cell_blk (blkAt w _ rfl) 3).trans rfl)) | (go_at_call 108; refine (HAT.out _ _ ((HLL.out.alloc _).below hb1)).mono ?_; rintro e w2 ⟨rfl, hb2⟩))
    go_ret
    exact ⟨rfl, by ((repeat (first | (with_reducible exact Below.refl _ _) | (with_reducible refine belowA ?_ _) | (with_reducible refine belowD ?_) | (with_reducible refine belowS ?_ (Nat.le_refl _) _ _) | (with_reducible refine next ?_ (by assumption) (Nat.le_refl _)))); done)⟩
  · rw [hc] at hv HCM
    simp only [Bool.not_true, Bool.false_eq_true, if_false] at hv
    have hcon := fun w S b (h : Sl w S (some ⟨b, 0, none⟩) 4 4 opsL) => contains_any _ 4 4 w S opsL l.op h
    have hfa := fun w S (h : Sl w S A n c l.atom.args) => formedArgs_any A n c w S l.atom.args h ho.2.2
    rw [← hn] at hv
    generalize opsL.contains l.op = b1 at *
    generalize argsS l.atom.args = b5 at *
    have HCON := Lib.hid hcon; have HFA := Lib.hid hfa; have HLL := Lib.hid hl; have HLD := Lib.hid hL; have Hv := Lib.hid hv
    clear hcon hfa hl ho hL hc hv hn
    obtain ⟨neg, op, nm, args⟩ := l
    (try simp only at HCM)
    (try simp only at HFA)
    (try simp only at HLL)
    (try simp only at Hv)
    go_enter Tryz.func156, Tryz.ntmps156
    go_wp2_with (first | (go_at_call 115; refine (HCM.out _).mono ?_; rintro e w1 ⟨rfl, hb1⟩; have h0 : w1.cell? ⟨w.heap.size, 0, none⟩ = some (.bool neg) := cell_later hb1 ((cell_blk (blkAt w _ rfl) 0).trans rfl); have h1 : w1.cell? ⟨w.heap.size, 1, none⟩ = some (.string ⟨op.toArray⟩) := cell_later hb1 ((cell_blk (blkAt w _ rfl) 1).trans rfl); have h2 : w1.cell? ⟨w.heap.size, 2, none⟩ = some (.string ⟨nm.toArray⟩) := cell_later hb1 ((cell_blk (blkAt w _ rfl) 2).trans rfl); have h3 : w1.cell? ⟨w.heap.size, 3, none⟩ = some (.slice A n c) := cell_later hb1 ((cell_blk (blkAt w _ rfl) 3).trans rfl)))
    have hbw : Below w.heap.size w w1 := by ((repeat (first | (with_reducible exact Below.refl _ _) | (with_reducible refine belowA ?_ _) | (with_reducible refine belowD ?_) | (with_reducible refine belowS ?_ (Nat.le_refl _) _ _) | (with_reducible refine next ?_ (by assumption) (Nat.le_refl _)))); done)
    have hx : ∀ x, Below w1.heap.size w1 x → x.cell? ⟨w.heap.size, 0, none⟩ = some (.bool neg) ∧ x.cell? ⟨w.heap.size, 1, none⟩ = some (.string ⟨op.toArray⟩) ∧ x.cell? ⟨w.heap.size, 2, none⟩ = some (.string ⟨nm.toArray⟩) ∧ x.cell? ⟨w.heap.size, 3, none⟩ = some (.slice A n c) :=
      fun x hx => ⟨cell_later hx h0, cell_later hx h1, cell_later hx h2, cell_later hx h3⟩
    have HX := Lib.hid hx; have HLD1 := Lib.hid (HLD.out.below hbw)
    clear h0 h1 h2 h3 hx hb1
    have hq2 : ((n : Int) == 2) = (n == 2) := by rw [Bool.eq_iff_iff]; simp; omega
    cases b1
    · skip
      refine wpH_region (fun x => Below w1.heap.size w1 x) (by kernel_rfl) ?_
      have hS : Below w1.heap.size w1 w1.drew := (Below.refl _ _).drew
      (refine tkW 1 (v := ?_) hS ?_ ?_; rotate_left; (focus (intro x hx; have fx := HX.out x hx; go_simp; (try with_reducible rfl); done)); (try simp only [Act.put, lsa, lsz, lss]))
      (refine tkW 2 (v := ?_) hS ?_ ?_; rotate_left; (focus (intro x hx; have fx := HX.out x hx; go_simp; (try with_reducible rfl); done)); (try simp only [Act.put, lsa, lsz, lss]))
      (refine wpAnyH_one 0 (by kernel_rfl) rfl ?_; intro K' hK'; go_simp; refine (fieldsC_any _ (HLD1.out.below hS)).mono ?_; rintro e wf ⟨bf, rfl, hsf, hbf⟩; have HSF := Lib.hid hsf; clear hsf; have hS := hS.trans (hbf.mono hS.size); refine hK'.out _ _ hS ?_; clear hK' K')
      (refine wpAnyH_one 3 (by kernel_rfl) rfl ?_; intro K' hK'; go_simp; refine (HCON.out _ _ bf HSF.out).mono ?_; rintro e wc ⟨rfl, rfl⟩; refine hK'.out _ _ hS ?_; clear hK' K')
      (refine tkW 4 (v := ?_) hS ?_ ?_; rotate_left; (focus (intro x hx; have fx := HX.out x hx; go_simp; (try with_reducible rfl); done)); (try simp only [Act.put, lsa, lsz, lss]))
      (refine tkU 5 hS ?_; (try simp only [Act.put, lsa, lsz, lss]))
      (refine tkU 6 hS ?_; (try simp only [Act.put, lsa, lsz, lss]))
      (refine tkU 7 hS ?_; (try simp only [Act.put, lsa, lsz, lss]))
      (refine tkW 8 (v := ?_) hS ?_ ?_; rotate_left; (focus (intro x hx; have fx := HX.out x hx; go_simp; (try with_reducible rfl); done)); (try simp only [Act.put, lsa, lsz, lss]))
      (refine tkW 9 (v := ?_) hS ?_ ?_; rotate_left; (focus (intro x hx; have fx := HX.out x hx; go_simp; (try with_reducible rfl); done)); (try simp only [Act.put, lsa, lsz, lss]))
      (refine tkU 10 hS ?_; (try simp only [Act.put, lsa, lsz, lss]))
      (refine tkU 11 hS ?_; (try simp only [Act.put, lsa, lsz, lss]))
      (refine tkU 12 hS ?_; (try simp only [Act.put, lsa, lsz, lss]))
      (refine tkU 13 hS ?_; (try simp only [Act.put, lsa, lsz, lss]))
      (refine tkW 14 (v := ?_) hS ?_ ?_; rotate_left; (focus (intro x hx; have fx := HX.out x hx; go_simp; (try with_reducible rfl); done)); (try simp only [Act.put, lsa, lsz, lss]))
      (refine tkW 15 (v := ?_) hS ?_ ?_; rotate_left; (focus (intro x hx; have fx := HX.out x hx; go_simp; (try with_reducible rfl); done)); (try simp only [Act.put, lsa, lsz, lss]))
      (refine tkU 16 hS ?_; (try simp only [Act.put, lsa, lsz, lss]))
      (refine tkU 17 hS ?_; (try simp only [Act.put, lsa, lsz, lss]))
      (refine tkU 18 hS ?_; (try simp only [Act.put, lsa, lsz, lss]))
      (refine tkU 19 hS ?_; (try simp only [Act.put, lsa, lsz, lss]))
      (refine tkU 20 hS ?_; (try simp only [Act.put, lsa, lsz, lss]))
      (refine tkW 21 (v := ?_) hS ?_ ?_; rotate_left; (focus (intro x hx; have fx := HX.out x hx; go_simp; (try with_reducible rfl); done)); (try simp only [Act.put, lsa, lsz, lss]))
      (refine tkW 22 (v := ?_) hS ?_ ?_; rotate_left; (focus (intro x hx; have fx := HX.out x hx; go_simp; (try with_reducible rfl); done)); (try simp only [Act.put, lsa, lsz, lss]))
      (refine tkU 23 hS ?_; (try simp only [Act.put, lsa, lsz, lss]))
      (refine tkU 24 hS ?_; (try simp only [Act.put, lsa, lsz, lss]))
      (refine tkU 25 hS ?_; (try simp only [Act.put, lsa, lsz, lss]))
      (refine tkU 26 hS ?_; (try simp only [Act.put, lsa, lsz, lss]))
      (refine tkW 27 (v := ?_) hS ?_ ?_; rotate_left; (focus (intro x hx; have fx := HX.out x hx; go_simp; (try with_reducible rfl); done)); (try simp only [Act.put, lsa, lsz, lss]))
      (refine tkW 28 (v := ?_) hS ?_ ?_; rotate_left; (focus (intro x hx; have fx := HX.out x hx; go_simp; (try with_reducible rfl); done)); (try simp only [Act.put, lsa, lsz, lss]))
      refine wpAnyH_done (by kernel_rfl) ?_ _
      go_wp2
      go_ret
      refine ⟨?_, hbw.trans (hS.mono hbw.size)⟩; rw [Hv.out]; rfl
    · cases neg
      · cases nm with
        | cons x r =>
          refine wpH_region (fun x => Below w1.heap.size w1 x) (by kernel_rfl) ?_
          have hS : Below w1.heap.size w1 w1.drew := (Below.refl _ _).drew
          (refine tkW 1 (v := ?_) hS ?_ ?_; rotate_left; (focus (intro x hx; have fx := HX.out x hx; go_simp; (try with_reducible rfl); done)); (try simp only [Act.put, lsa, lsz, lss]))
          (refine tkW 2 (v := ?_) hS ?_ ?_; rotate_left; (focus (intro x hx; have fx := HX.out x hx; go_simp; (try with_reducible rfl); done)); (try simp only [Act.put, lsa, lsz, lss]))
          (refine wpAnyH_one 0 (by kernel_rfl) rfl ?_; intro K' hK'; go_simp; refine (fieldsC_any _ (HLD1.out.below hS)).mono ?_; rintro e wf ⟨bf, rfl, hsf, hbf⟩; have HSF := Lib.hid hsf; clear hsf; have hS := hS.trans (hbf.mono hS.size); refine hK'.out _ _ hS ?_; clear hK' K')
          (refine wpAnyH_one 3 (by kernel_rfl) rfl ?_; intro K' hK'; go_simp; refine (HCON.out _ _ bf HSF.out).mono ?_; rintro e wc ⟨rfl, rfl⟩; refine hK'.out _ _ hS ?_; clear hK' K')
          (refine tkW 4 (v := ?_) hS ?_ ?_; rotate_left; (focus (intro x hx; have fx := HX.out x hx; go_simp; (try with_reducible rfl); done)); (try simp only [Act.put, lsa, lsz, lss]))
          (refine tkW 5 (v := ?_) hS ?_ ?_; rotate_left; (focus (intro x hx; have fx := HX.out x hx; go_simp; (try with_reducible rfl); done)); (try simp only [Act.put, lsa, lsz, lss]))
          (refine tkW 6 (v := ?_) hS ?_ ?_; rotate_left; (focus (intro x hx; have fx := HX.out x hx; go_simp; (try with_reducible rfl); done)); (try simp only [Act.put, lsa, lsz, lss]))
          (refine tkW 7 (v := ?_) hS ?_ ?_; rotate_left; (focus (intro x hx; have fx := HX.out x hx; go_simp; (try with_reducible rfl); done)); (try simp only [Act.put, lsa, lsz, lss]))
          (refine tkW 8 (v := ?_) hS ?_ ?_; rotate_left; (focus (intro x hx; have fx := HX.out x hx; go_simp; (try with_reducible rfl); done)); (try simp only [Act.put, lsa, lsz, lss]))
          (refine tkW 9 (v := ?_) hS ?_ ?_; rotate_left; (focus (intro x hx; have fx := HX.out x hx; go_simp; (try with_reducible rfl); done)); (try simp only [Act.put, lsa, lsz, lss]))
          (refine tkW 10 (v := ?_) hS ?_ ?_; rotate_left; (focus (intro x hx; have fx := HX.out x hx; go_simp; (try with_reducible rfl); done)); (try simp only [Act.put, lsa, lsz, lss]))
          (refine tkW 11 (v := ?_) hS ?_ ?_; rotate_left; (focus (intro x hx; have fx := HX.out x hx; go_simp; (try with_reducible rfl); done)); (try simp only [Act.put, lsa, lsz, lss]))
          (refine tkW 12 (v := ?_) hS ?_ ?_; rotate_left; (focus (intro x hx; have fx := HX.out x hx; go_simp; (try with_reducible rfl); done)); (try simp only [Act.put, lsa, lsz, lss]))
          (refine tkW 13 (v := ?_) hS ?_ ?_; rotate_left; (focus (intro x hx; have fx := HX.out x hx; go_simp; (try with_reducible rfl); done)); (try simp only [Act.put, lsa, lsz, lss]))
          (refine tkW 14 (v := ?_) hS ?_ ?_; rotate_left; (focus (intro x hx; have fx := HX.out x hx; go_simp; (try with_reducible rfl); done)); (try simp only [Act.put, lsa, lsz, lss]))
          (refine tkW 15 (v := ?_) hS ?_ ?_; rotate_left; (focus (intro x hx; have fx := HX.out x hx; go_simp; (try with_reducible rfl); done)); (try simp only [Act.put, lsa, lsz, lss]))
          (refine tkU 16 hS ?_; (try simp only [Act.put, lsa, lsz, lss]))
          (refine tkU 17 hS ?_; (try simp only [Act.put, lsa, lsz, lss]))
          (refine tkU 18 hS ?_; (try simp only [Act.put, lsa, lsz, lss]))
          (refine tkU 19 hS ?_; (try simp only [Act.put, lsa, lsz, lss]))
          (refine tkU 20 hS ?_; (try simp only [Act.put, lsa, lsz, lss]))
          (refine tkW 21 (v := ?_) hS ?_ ?_; rotate_left; (focus (intro x hx; have fx := HX.out x hx; go_simp; (try with_reducible rfl); done)); (try simp only [Act.put, lsa, lsz, lss]))
          (refine tkW 22 (v := ?_) hS ?_ ?_; rotate_left; (focus (intro x hx; have fx := HX.out x hx; go_simp; (try with_reducible rfl); done)); (try simp only [Act.put, lsa, lsz, lss]))
          (refine tkU 23 hS ?_; (try simp only [Act.put, lsa, lsz, lss]))
          (refine tkU 24 hS ?_; (try simp only [Act.put, lsa, lsz, lss]))
          (refine tkU 25 hS ?_; (try simp only [Act.put, lsa, lsz, lss]))
          (refine tkU 26 hS ?_; (try simp only [Act.put, lsa, lsz, lss]))
          (refine tkW 27 (v := ?_) hS ?_ ?_; rotate_left; (focus (intro x hx; have fx := HX.out x hx; go_simp; (try with_reducible rfl); done)); (try simp only [Act.put, lsa, lsz, lss]))
          (refine tkW 28 (v := ?_) hS ?_ ?_; rotate_left; (focus (intro x hx; have fx := HX.out x hx; go_simp; (try with_reducible rfl); done)); (try simp only [Act.put, lsa, lsz, lss]))
          refine wpAnyH_done (by kernel_rfl) ?_ _
          go_wp2
          go_ret
          refine ⟨?_, hbw.trans (hS.mono hbw.size)⟩; rw [Hv.out]; rfl
        | nil =>
          by_cases hn2 : n = 2
          · subst hn2
            refine wpH_region (fun x => Below w1.heap.size w1 x) (by kernel_rfl) ?_
            have hS : Below w1.heap.size w1 w1.drew := (Below.refl _ _).drew
            (refine tkW 1 (v := ?_) hS ?_ ?_; rotate_left; (focus (intro x hx; have fx := HX.out x hx; go_simp; (try with_reducible rfl); done)); (try simp only [Act.put, lsa, lsz, lss]))
            (refine tkW 2 (v := ?_) hS ?_ ?_; rotate_left; (focus (intro x hx; have fx := HX.out x hx; go_simp; (try with_reducible rfl); done)); (try simp only [Act.put, lsa, lsz, lss]))
            (refine wpAnyH_one 0 (by kernel_rfl) rfl ?_; intro K' hK'; go_simp; refine (fieldsC_any _ (HLD1.out.below hS)).mono ?_; rintro e wf ⟨bf, rfl, hsf, hbf⟩; have HSF := Lib.hid hsf; clear hsf; have hS := hS.trans (hbf.mono hS.size); refine hK'.out _ _ hS ?_; clear hK' K')
            (refine wpAnyH_one 3 (by kernel_rfl) rfl ?_; intro K' hK'; go_simp; refine (HCON.out _ _ bf HSF.out).mono ?_; rintro e wc ⟨rfl, rfl⟩; refine hK'.out _ _ hS ?_; clear hK' K')
            (refine tkW 4 (v := ?_) hS ?_ ?_; rotate_left; (focus (intro x hx; have fx := HX.out x hx; go_simp; (try with_reducible rfl); done)); (try simp only [Act.put, lsa, lsz, lss]))
            (refine tkW 5 (v := ?_) hS ?_ ?_; rotate_left; (focus (intro x hx; have fx := HX.out x hx; go_simp; (try with_reducible rfl); done)); (try simp only [Act.put, lsa, lsz, lss]))
            (refine tkW 6 (v := ?_) hS ?_ ?_; rotate_left; (focus (intro x hx; have fx := HX.out x hx; go_simp; (try with_reducible rfl); done)); (try simp only [Act.put, lsa, lsz, lss]))
            (refine tkW 7 (v := ?_) hS ?_ ?_; rotate_left; (focus (intro x hx; have fx := HX.out x hx; go_simp; (try with_reducible rfl); done)); (try simp only [Act.put, lsa, lsz, lss]))
            (refine tkW 8 (v := ?_) hS ?_ ?_; rotate_left; (focus (intro x hx; have fx := HX.out x hx; go_simp; (try with_reducible rfl); done)); (try simp only [Act.put, lsa, lsz, lss]))
            (refine tkW 9 (v := ?_) hS ?_ ?_; rotate_left; (focus (intro x hx; have fx := HX.out x hx; go_simp; (try with_reducible rfl); done)); (try simp only [Act.put, lsa, lsz, lss]))
            (refine tkW 10 (v := ?_) hS ?_ ?_; rotate_left; (focus (intro x hx; have fx := HX.out x hx; go_simp; (try with_reducible rfl); done)); (try simp only [Act.put, lsa, lsz, lss]))
            (refine tkW 11 (v := ?_) hS ?_ ?_; rotate_left; (focus (intro x hx; have fx := HX.out x hx; go_simp; (try with_reducible rfl); done)); (try simp only [Act.put, lsa, lsz, lss]))
            (refine tkW 12 (v := ?_) hS ?_ ?_; rotate_left; (focus (intro x hx; have fx := HX.out x hx; go_simp; (try with_reducible rfl); done)); (try simp only [Act.put, lsa, lsz, lss]))
            (refine tkW 13 (v := ?_) hS ?_ ?_; rotate_left; (focus (intro x hx; have fx := HX.out x hx; go_simp; (try with_reducible rfl); done)); (try simp only [Act.put, lsa, lsz, lss]))
            (refine tkW 14 (v := ?_) hS ?_ ?_; rotate_left; (focus (intro x hx; have fx := HX.out x hx; go_simp; (try with_reducible rfl); done)); (try simp only [Act.put, lsa, lsz, lss]))
            (refine tkW 15 (v := ?_) hS ?_ ?_; rotate_left; (focus (intro x hx; have fx := HX.out x hx; go_simp; (try with_reducible rfl); done)); (try simp only [Act.put, lsa, lsz, lss]))
            (refine tkW 16 (v := ?_) hS ?_ ?_; rotate_left; (focus (intro x hx; have fx := HX.out x hx; go_simp; (try with_reducible rfl); done)); (try simp only [Act.put, lsa, lsz, lss]))
            (refine tkW 17 (v := ?_) hS ?_ ?_; rotate_left; (focus (intro x hx; have fx := HX.out x hx; go_simp; (try with_reducible rfl); done)); (try simp only [Act.put, lsa, lsz, lss]))
            (refine tkW 18 (v := ?_) hS ?_ ?_; rotate_left; (focus (intro x hx; have fx := HX.out x hx; go_simp; (try with_reducible rfl); done)); (try simp only [Act.put, lsa, lsz, lss]))
            (refine tkW 19 (v := ?_) hS ?_ ?_; rotate_left; (focus (intro x hx; have fx := HX.out x hx; go_simp; (try with_reducible rfl); done)); (try simp only [Act.put, lsa, lsz, lss]))
            (refine tkW 20 (v := ?_) hS ?_ ?_; rotate_left; (focus (intro x hx; have fx := HX.out x hx; go_simp; (try with_reducible rfl); done)); (try simp only [Act.put, lsa, lsz, lss]))
            (refine tkW 21 (v := ?_) hS ?_ ?_; rotate_left; (focus (intro x hx; have fx := HX.out x hx; go_simp; (try with_reducible rfl); done)); (try simp only [Act.put, lsa, lsz, lss]))
            (refine tkW 22 (v := ?_) hS ?_ ?_; rotate_left; (focus (intro x hx; have fx := HX.out x hx; go_simp; (try with_reducible rfl); done)); (try simp only [Act.put, lsa, lsz, lss]))
            (refine tkW 23 (v := ?_) hS ?_ ?_; rotate_left; (focus (intro x hx; have fx := HX.out x hx; go_simp; (try with_reducible rfl); done)); (try simp only [Act.put, lsa, lsz, lss]))
            (refine tkW 24 (v := ?_) hS ?_ ?_; rotate_left; (focus (intro x hx; have fx := HX.out x hx; go_simp; (try with_reducible rfl); done)); (try simp only [Act.put, lsa, lsz, lss]))
            (refine tkW 25 (v := ?_) hS ?_ ?_; rotate_left; (focus (intro x hx; have fx := HX.out x hx; go_simp; (try with_reducible rfl); done)); (try simp only [Act.put, lsa, lsz, lss]))
            (refine wpAnyH_one 26 (by kernel_rfl) rfl ?_; intro K' hK'; go_simp; refine (HFA.out _ _ ((HLL.out.below hbw).below hS)).mono ?_; rintro e wa ⟨rfl, hba⟩; have hS := hS.trans (hba.mono hS.size); refine hK'.out _ _ hS ?_; clear hK' K')
            (refine tkW 27 (v := ?_) hS ?_ ?_; rotate_left; (focus (intro x hx; have fx := HX.out x hx; go_simp; (try with_reducible rfl); done)); (try simp only [Act.put, lsa, lsz, lss]))
            (refine tkW 28 (v := ?_) hS ?_ ?_; rotate_left; (focus (intro x hx; have fx := HX.out x hx; go_simp; (try with_reducible rfl); done)); (try simp only [Act.put, lsa, lsz, lss]))
            refine wpAnyH_done (by kernel_rfl) ?_ _
            go_wp2
            go_ret
            refine ⟨?_, hbw.trans (hS.mono hbw.size)⟩; rw [Hv.out]; rfl
          · have hq : ((n : Int) == 2) = false := by rw [beq_eq_false_iff_ne]; omega
            have hq' : (n == 2) = false := by rw [beq_eq_false_iff_ne]; exact hn2
            have Hv2 := Hv; rw [hq'] at Hv2; clear Hv; have Hv := Hv2; clear Hv2
            refine wpH_region (fun x => Below w1.heap.size w1 x) (by kernel_rfl) ?_
            have hS : Below w1.heap.size w1 w1.drew := (Below.refl _ _).drew
            (refine tkW 1 (v := ?_) hS ?_ ?_; rotate_left; (focus (intro x hx; have fx := HX.out x hx; go_simp; (try with_reducible rfl); done)); (try simp only [Act.put, lsa, lsz, lss]))
            (refine tkW 2 (v := ?_) hS ?_ ?_; rotate_left; (focus (intro x hx; have fx := HX.out x hx; go_simp; (try with_reducible rfl); done)); (try simp only [Act.put, lsa, lsz, lss]))
            (refine wpAnyH_one 0 (by kernel_rfl) rfl ?_; intro K' hK'; go_simp; refine (fieldsC_any _ (HLD1.out.below hS)).mono ?_; rintro e wf ⟨bf, rfl, hsf, hbf⟩; have HSF := Lib.hid hsf; clear hsf; have hS := hS.trans (hbf.mono hS.size); refine hK'.out _ _ hS ?_; clear hK' K')
            (refine wpAnyH_one 3 (by kernel_rfl) rfl ?_; intro K' hK'; go_simp; refine (HCON.out _ _ bf HSF.out).mono ?_; rintro e wc ⟨rfl, rfl⟩; refine hK'.out _ _ hS ?_; clear hK' K')
            (refine tkW 4 (v := ?_) hS ?_ ?_; rotate_left; (focus (intro x hx; have fx := HX.out x hx; go_simp; (try with_reducible rfl); done)); (try simp only [Act.put, lsa, lsz, lss]))
            (refine tkW 5 (v := ?_) hS ?_ ?_; rotate_left; (focus (intro x hx; have fx := HX.out x hx; go_simp; (try with_reducible rfl); done)); (try simp only [Act.put, lsa, lsz, lss]))
            (refine tkW 6 (v := ?_) hS ?_ ?_; rotate_left; (focus (intro x hx; have fx := HX.out x hx; go_simp; (try with_reducible rfl); done)); (try simp only [Act.put, lsa, lsz, lss]))
            (refine tkW 7 (v := ?_) hS ?_ ?_; rotate_left; (focus (intro x hx; have fx := HX.out x hx; go_simp; (try with_reducible rfl); done)); (try simp only [Act.put, lsa, lsz, lss]))
            (refine tkW 8 (v := ?_) hS ?_ ?_; rotate_left; (focus (intro x hx; have fx := HX.out x hx; go_simp; (try with_reducible rfl); done)); (try simp only [Act.put, lsa, lsz, lss]))
            (refine tkW 9 (v := ?_) hS ?_ ?_; rotate_left; (focus (intro x hx; have fx := HX.out x hx; go_simp; (try with_reducible rfl); done)); (try simp only [Act.put, lsa, lsz, lss]))
            (refine tkW 10 (v := ?_) hS ?_ ?_; rotate_left; (focus (intro x hx; have fx := HX.out x hx; go_simp; (try with_reducible rfl); done)); (try simp only [Act.put, lsa, lsz, lss]))
            (refine tkW 11 (v := ?_) hS ?_ ?_; rotate_left; (focus (intro x hx; have fx := HX.out x hx; go_simp; (try with_reducible rfl); done)); (try simp only [Act.put, lsa, lsz, lss]))
            (refine tkW 12 (v := ?_) hS ?_ ?_; rotate_left; (focus (intro x hx; have fx := HX.out x hx; go_simp; (try with_reducible rfl); done)); (try simp only [Act.put, lsa, lsz, lss]))
            (refine tkW 13 (v := ?_) hS ?_ ?_; rotate_left; (focus (intro x hx; have fx := HX.out x hx; go_simp; (try with_reducible rfl); done)); (try simp only [Act.put, lsa, lsz, lss]))
            (refine tkW 14 (v := ?_) hS ?_ ?_; rotate_left; (focus (intro x hx; have fx := HX.out x hx; go_simp; (try with_reducible rfl); done)); (try simp only [Act.put, lsa, lsz, lss]))
            (refine tkW 15 (v := ?_) hS ?_ ?_; rotate_left; (focus (intro x hx; have fx := HX.out x hx; go_simp; (try with_reducible rfl); done)); (try simp only [Act.put, lsa, lsz, lss]))
            (refine tkW 16 (v := ?_) hS ?_ ?_; rotate_left; (focus (intro x hx; have fx := HX.out x hx; go_simp; (try with_reducible rfl); done)); (try simp only [Act.put, lsa, lsz, lss]))
            (refine tkW 17 (v := ?_) hS ?_ ?_; rotate_left; (focus (intro x hx; have fx := HX.out x hx; go_simp; (try with_reducible rfl); done)); (try simp only [Act.put, lsa, lsz, lss]))
            (refine tkW 18 (v := ?_) hS ?_ ?_; rotate_left; (focus (intro x hx; have fx := HX.out x hx; go_simp; (try with_reducible rfl); done)); (try simp only [Act.put, lsa, lsz, lss]))
            (refine tkW 19 (v := ?_) hS ?_ ?_; rotate_left; (focus (intro x hx; have fx := HX.out x hx; go_simp; (try with_reducible rfl); done)); (try simp only [Act.put, lsa, lsz, lss]))
            (refine tkW 20 (v := ?_) hS ?_ ?_; rotate_left; (focus (intro x hx; have fx := HX.out x hx; go_simp; (try with_reducible rfl); done)); (try simp only [Act.put, lsa, lsz, lss]))
            (refine tkW 21 (v := ?_) hS ?_ ?_; rotate_left; (focus (intro x hx; have fx := HX.out x hx; go_simp; (try with_reducible rfl); done)); (try simp only [Act.put, lsa, lsz, lss]))
            (refine tkW 22 (v := ?_) hS ?_ ?_; rotate_left; (focus (intro x hx; have fx := HX.out x hx; go_simp; (try with_reducible rfl); done)); (try simp only [Act.put, lsa, lsz, lss]))
            (refine tkU 23 hS ?_; (try simp only [Act.put, lsa, lsz, lss]))
            (refine tkU 24 hS ?_; (try simp only [Act.put, lsa, lsz, lss]))
            (refine tkU 25 hS ?_; (try simp only [Act.put, lsa, lsz, lss]))
            (refine tkU 26 hS ?_; (try simp only [Act.put, lsa, lsz, lss]))
            (refine tkW 27 (v := ?_) hS ?_ ?_; rotate_left; (focus (intro x hx; have fx := HX.out x hx; go_simp; (try with_reducible rfl); done)); (try simp only [Act.put, lsa, lsz, lss]))
            (refine tkW 28 (v := ?_) hS ?_ ?_; rotate_left; (focus (intro x hx; have fx := HX.out x hx; go_simp; (try with_reducible rfl); done)); (try simp only [Act.put, lsa, lsz, lss]))
            refine wpAnyH_done (by kernel_rfl) ?_ _
            go_wp2
            go_ret
            refine ⟨?_, hbw.trans (hS.mono hbw.size)⟩; rw [Hv.out]; rfl
      · skip
        refine wpH_region (fun x => Below w1.heap.size w1 x) (by kernel_rfl) ?_
        have hS : Below w1.heap.size w1 w1.drew := (Below.refl _ _).drew
        (refine tkW 1 (v := ?_) hS ?_ ?_; rotate_left; (focus (intro x hx; have fx := HX.out x hx; go_simp; (try with_reducible rfl); done)); (try simp only [Act.put, lsa, lsz, lss]))
        (refine tkW 2 (v := ?_) hS ?_ ?_; rotate_left; (focus (intro x hx; have fx := HX.out x hx; go_simp; (try with_reducible rfl); done)); (try simp only [Act.put, lsa, lsz, lss]))
        (refine wpAnyH_one 0 (by kernel_rfl) rfl ?_; intro K' hK'; go_simp; refine (fieldsC_any _ (HLD1.out.below hS)).mono ?_; rintro e wf ⟨bf, rfl, hsf, hbf⟩; have HSF := Lib.hid hsf; clear hsf; have hS := hS.trans (hbf.mono hS.size); refine hK'.out _ _ hS ?_; clear hK' K')
        (refine wpAnyH_one 3 (by kernel_rfl) rfl ?_; intro K' hK'; go_simp; refine (HCON.out _ _ bf HSF.out).mono ?_; rintro e wc ⟨rfl, rfl⟩; refine hK'.out _ _ hS ?_; clear hK' K')
        (refine tkW 4 (v := ?_) hS ?_ ?_; rotate_left; (focus (intro x hx; have fx := HX.out x hx; go_simp; (try with_reducible rfl); done)); (try simp only [Act.put, lsa, lsz, lss]))
        (refine tkW 5 (v := ?_) hS ?_ ?_; rotate_left; (focus (intro x hx; have fx := HX.out x hx; go_simp; (try with_reducible rfl); done)); (try simp only [Act.put, lsa, lsz, lss]))
        (refine tkW 6 (v := ?_) hS ?_ ?_; rotate_left; (focus (intro x hx; have fx := HX.out x hx; go_simp; (try with_reducible rfl); done)); (try simp only [Act.put, lsa, lsz, lss]))
        (refine tkW 7 (v := ?_) hS ?_ ?_; rotate_left; (focus (intro x hx; have fx := HX.out x hx; go_simp; (try with_reducible rfl); done)); (try simp only [Act.put, lsa, lsz, lss]))
        (refine tkW 8 (v := ?_) hS ?_ ?_; rotate_left; (focus (intro x hx; have fx := HX.out x hx; go_simp; (try with_reducible rfl); done)); (try simp only [Act.put, lsa, lsz, lss]))
        (refine tkW 9 (v := ?_) hS ?_ ?_; rotate_left; (focus (intro x hx; have fx := HX.out x hx; go_simp; (try with_reducible rfl); done)); (try simp only [Act.put, lsa, lsz, lss]))
        (refine tkU 10 hS ?_; (try simp only [Act.put, lsa, lsz, lss]))
        (refine tkU 11 hS ?_; (try simp only [Act.put, lsa, lsz, lss]))
        (refine tkU 12 hS ?_; (try simp only [Act.put, lsa, lsz, lss]))
        (refine tkU 13 hS ?_; (try simp only [Act.put, lsa, lsz, lss]))
        (refine tkW 14 (v := ?_) hS ?_ ?_; rotate_left; (focus (intro x hx; have fx := HX.out x hx; go_simp; (try with_reducible rfl); done)); (try simp only [Act.put, lsa, lsz, lss]))
        (refine tkW 15 (v := ?_) hS ?_ ?_; rotate_left; (focus (intro x hx; have fx := HX.out x hx; go_simp; (try with_reducible rfl); done)); (try simp only [Act.put, lsa, lsz, lss]))
        (refine tkU 16 hS ?_; (try simp only [Act.put, lsa, lsz, lss]))
        (refine tkU 17 hS ?_; (try simp only [Act.put, lsa, lsz, lss]))
        (refine tkU 18 hS ?_; (try simp only [Act.put, lsa, lsz, lss]))
        (refine tkU 19 hS ?_; (try simp only [Act.put, lsa, lsz, lss]))
        (refine tkU 20 hS ?_; (try simp only [Act.put, lsa, lsz, lss]))
        (refine tkW 21 (v := ?_) hS ?_ ?_; rotate_left; (focus (intro x hx; have fx := HX.out x hx; go_simp; (try with_reducible rfl); done)); (try simp only [Act.put, lsa, lsz, lss]))
        (refine tkW 22 (v := ?_) hS ?_ ?_; rotate_left; (focus (intro x hx; have fx := HX.out x hx; go_simp; (try with_reducible rfl); done)); (try simp only [Act.put, lsa, lsz, lss]))
        (refine tkU 23 hS ?_; (try simp only [Act.put, lsa, lsz, lss]))
        (refine tkU 24 hS ?_; (try simp only [Act.put, lsa, lsz, lss]))
        (refine tkU 25 hS ?_; (try simp only [Act.put, lsa, lsz, lss]))
        (refine tkU 26 hS ?_; (try simp only [Act.put, lsa, lsz, lss]))
        (refine tkW 27 (v := ?_) hS ?_ ?_; rotate_left; (focus (intro x hx; have fx := HX.out x hx; go_simp; (try with_reducible rfl); done)); (try simp only [Act.put, lsa, lsz, lss]))
        (refine tkW 28 (v := ?_) hS ?_ ?_; rotate_left; (focus (intro x hx; have fx := HX.out x hx; go_simp; (try with_reducible rfl); done)); (try simp only [Act.put, lsa, lsz, lss]))
        refine wpAnyH_done (by kernel_rfl) ?_ _
        go_wp2
        go_ret
        refine ⟨?_, hbw.trans (hS.mono hbw.size)⟩; rw [Hv.out]; rfl
end Go.Proofs.YtkjoaodoioicpaaGreatDoor
