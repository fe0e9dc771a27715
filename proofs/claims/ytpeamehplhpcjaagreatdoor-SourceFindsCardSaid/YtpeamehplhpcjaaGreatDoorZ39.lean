/- A part of the proofs of the laws of one package; see the law's own text, which comes last in 'order'. No conditions of its own. -/
import Derived.Test.YtpeamehplhpcjaaGreatDoorZ24
import Derived.Test.YtpeamehplhpcjaaGreatDoorZ38
set_option linter.unusedVariables false
set_option linter.unusedSimpArgs false
namespace Go.Proofs.YtpeamehplhpcjaaGreatDoor
open Go.RowKit
theorem noF {z : World} {b : Nat} (h : z.heap[b]? = some (.cells #[.string ⟨#[]⟩, .slice none 0 0, .slice none 0 0, .slice none 0 0, .slice none 0 0, .slice none 0 0] 36 (0, 0))) : z.cell? ⟨b, 0, none⟩ = some (.string ⟨#[]⟩) ∧ z.cell? ⟨b, 1, none⟩ = some (.slice none 0 0) ∧ z.cell? ⟨b, 2, none⟩ = some (.slice none 0 0) ∧ z.cell? ⟨b, 3, none⟩ = some (.slice none 0 0) ∧ z.cell? ⟨b, 4, none⟩ = some (.slice none 0 0) ∧ z.cell? ⟨b, 5, none⟩ = some (.slice none 0 0) :=
  ⟨(cell_blk h 0).trans rfl, (cell_blk h 1).trans rfl, (cell_blk h 2).trans rfl, (cell_blk h 3).trans rfl, (cell_blk h 4).trans rfl, (cell_blk h 5).trans rfl⟩
structure ScN (w z : World) : Prop extends ResW w z where
  no : z.heap[w.heap.size + 2]? = some (.cells #[.string ⟨#[]⟩, .slice none 0 0, .slice none 0 0, .slice none 0 0, .slice none 0 0, .slice none 0 0] 36 (0, 0))
structure ScF (w z : World) (f : Array Value) : Prop where
  bl : Below w.heap.size w z
  r0 : z.heap[w.heap.size]? = some (.cells #[.string ⟨#[]⟩, .slice none 0 0, .slice none 0 0, .slice none 0 0, .slice none 0 0, .slice none 0 0] 36 (0, 0))
  r1 : z.heap[w.heap.size + 1]? = some (.cells f 40 (0, 0))
  no : z.heap[w.heap.size + 2]? = some (.cells #[.string ⟨#[]⟩, .slice none 0 0, .slice none 0 0, .slice none 0 0, .slice none 0 0, .slice none 0 0] 36 (0, 0))
section
variable {w z z' : World} {f : Array Value}
theorem ScN.below (h : ScN w z) (hb : Below z.heap.size z z') : ScN w z' := ⟨h.toResW.below hb, keptBlk hb h.no⟩
theorem ScN.lt3 (h : ScN w z) : w.heap.size + 3 ≤ z.heap.size := (Array.getElem?_eq_some_iff.1 h.no).1
theorem ScN.setU (h : ScN w z) : ScN w ((((((z.setCell ⟨w.heap.size, 0, none⟩ (.string ⟨#[]⟩)).setCell ⟨w.heap.size, 1, none⟩ (.slice none 0 0)).setCell ⟨w.heap.size, 2, none⟩ (.slice none 0 0)).setCell ⟨w.heap.size, 3, none⟩ (.slice none 0 0)).setCell ⟨w.heap.size, 4, none⟩ (.slice none 0 0)).setCell ⟨w.heap.size, 5, none⟩ (.slice none 0 0)) := by
  refine ⟨⟨?_, Blk.set6 z h.r0 _ _ _ _ _ _, (set6_other z _ _ _ _ _ _ _ (by omega)).trans h.r1⟩, (set6_other z _ _ _ _ _ _ _ (by omega)).trans h.no⟩
  exact belowS (belowS (belowS (belowS (belowS (belowS h.bl (Nat.le_refl _) _ _) (Nat.le_refl _) _ _) (Nat.le_refl _) _ _) (Nat.le_refl _) _ _) (Nat.le_refl _) _ _) (Nat.le_refl _) _ _
theorem ScN.setF (h : ScN w z) (b0 b1 b2 b3 b4 : Value) : ScF w (((((z.setCell ⟨w.heap.size + 1, 0, none⟩ b0).setCell ⟨w.heap.size + 1, 1, none⟩ b1).setCell ⟨w.heap.size + 1, 2, none⟩ b2).setCell ⟨w.heap.size + 1, 3, none⟩ b3).setCell ⟨w.heap.size + 1, 4, none⟩ b4) #[b0, b1, b2, b3, b4] := by
  refine ⟨?_, (set5_other z 0 1 2 3 4 _ _ _ _ _ _ (by omega)).trans h.r0, set5' z h.r1 0 1 2 3 4 b0 b1 b2 b3 b4, (set5_other z 0 1 2 3 4 _ _ _ _ _ _ (by omega)).trans h.no⟩
  exact belowS (belowS (belowS (belowS (belowS h.bl (Nat.le_succ _) _ _) (Nat.le_succ _) _ _) (Nat.le_succ _) _ _) (Nat.le_succ _) _ _) (Nat.le_succ _) _ _
theorem ScF.setU (h : ScF w z f) : ScF w ((((((z.setCell ⟨w.heap.size, 0, none⟩ (.string ⟨#[]⟩)).setCell ⟨w.heap.size, 1, none⟩ (.slice none 0 0)).setCell ⟨w.heap.size, 2, none⟩ (.slice none 0 0)).setCell ⟨w.heap.size, 3, none⟩ (.slice none 0 0)).setCell ⟨w.heap.size, 4, none⟩ (.slice none 0 0)).setCell ⟨w.heap.size, 5, none⟩ (.slice none 0 0)) f := by
  refine ⟨?_, Blk.set6 z h.r0 _ _ _ _ _ _, (set6_other z _ _ _ _ _ _ _ (by omega)).trans h.r1, (set6_other z _ _ _ _ _ _ _ (by omega)).trans h.no⟩
  exact belowS (belowS (belowS (belowS (belowS (belowS h.bl (Nat.le_refl _) _ _) (Nat.le_refl _) _ _) (Nat.le_refl _) _ _) (Nat.le_refl _) _ _) (Nat.le_refl _) _ _) (Nat.le_refl _) _ _
end
def scE (e : Int) (p : Bs) : Unt × Flt := (unt0, ⟨e, -1, -1, ⟨p, -1⟩⟩)
def scR (t : List Fil) (p : Bs) (fl : List Bs) (ls : List Bs) : Unt × Flt :=
  if (rfile (rgroup t 24) p ls (rst0 fl)).1.err ≠ 0 then (unt0, (rfile (rgroup t 24) p ls (rst0 fl)).1) else (runt p (rfile (rgroup t 24) p ls (rst0 fl)).2, flt0)
def scD (t : List Fil) (p : Bs) (fl : List Bs) : Unt × Flt :=
  match findT t p with
  | none => scE 7 p
  | some d => if (linesS d).2 ≠ 0 then scE (linesS d).2 p else scR t p fl (linesS d).1
def scB (t : List Fil) (p : Bs) (fl : List Bs) : Unt × Flt := if dupS [] fl then scE 6 [] else if 128 < fl.length then scE 10 [] else scD t p fl
theorem rscan_stages (t : List Fil) (p : Bs) (fl : List Bs) : rscanS t p fl = if treeS t ≠ 0 then scE 1 [] else if (!pathS p || !p.contains 47) then scE 2 [] else if fl.any (fun f => !name5 f) then scE 2 [] else scB t p fl := by
  unfold rscanS startS
  simp only
  by_cases h1 : treeS t ≠ 0
  · rw [if_pos h1, if_pos h1]; rfl
  · rw [if_neg h1, if_neg h1]
    have he : fl.any (fun f => !nameT f) = fl.any (fun f => !name5 f) := by congr 1; funext x; rw [name_eq]
    rw [he]
    generalize fl.any (fun f => !name5 f) = b2
    generalize (!pathS p || !p.contains 47) = b1
    cases b1 with
    | true => rfl
    | false =>
      cases b2 with
      | true => rfl
      | false =>
        simp only [Bool.or_false, Bool.false_eq_true, if_false]
        unfold scB
        by_cases h3 : dupS [] fl = true
        · rw [if_pos h3, if_pos h3]; rfl
        · rw [if_neg h3, if_neg h3]
          by_cases h4 : 128 < fl.length
          · rw [if_pos h4, if_pos h4]; rfl
          · rw [if_neg h4, if_neg h4]
            unfold scD
            cases findT t p with
            | none => rfl
            | some d =>
              simp only
              split
              · rfl
              · rfl
theorem len_foldR (fl : List Bs) : ∀ b : List Bs, (fl.foldl rins b).length ≤ b.length + fl.length := by
  induction fl with
  | nil => intro b; simp
  | cons x r ih =>
    intro b
    have := ih (rins b x)
    have := len_rins b x
    simp only [List.foldl_cons, List.length_cons]
    omega
theorem RcB.flags' {W : World} {M : Nat → Prop} {B g : Nat} {q : RcP} {t : List Fil} {p : Bs} {s : Rst} (H : RcB W M B g q t p s) (xs : List Bs) {A : Option Addr} {n c : Nat} (hs : Sl W (fun k => ¬ M k) A n c xs) : RcB (W.setCell ⟨g, 2, none⟩ (.slice A n c)) M B g { q with fA := A, fn := n, fc := c } t p { s with flags := xs } := by
  have hk : ∀ k, k < W.heap.size → k ≠ g → (W.setCell ⟨g, 2, none⟩ (.slice A n c)).heap[k]? = W.heap[k]? := fun k _ h => set_other _ _ _ _ _ h
  have hz : W.heap.size ≤ (W.setCell ⟨g, 2, none⟩ (.slice A n c)).heap.size := by simp [size_set]
  exact H.turn _ _ (by simpa [rcC] using Blk.set W H.cells 2 (.slice A n c)) ⟨rfl, rfl, rfl⟩ ⟨rfl, rfl, rfl⟩ ⟨rfl, rfl, rfl⟩ hk hz (H.oldf hk hs) (H.oldf hk H.macs) (H.oldf hk H.heads) (H.oldf hk H.files)
theorem ScN.setG {w z : World} {g i : Nat} {v : Value} (h : ScN w z) (hg : w.heap.size + 3 ≤ g) : ScN w (z.setCell ⟨g, i, none⟩ v) :=
  ⟨⟨belowS h.bl (by omega) _ _, (set_other _ _ _ _ _ (by omega)).trans h.r0, (set_other _ _ _ _ _ (by omega)).trans h.r1⟩, (set_other _ _ _ _ _ (by omega)).trans h.no⟩
def scM (w : World) (g k : Nat) : Prop := k = g ∨ k = w.heap.size ∨ k = w.heap.size + 1
def scQ (A : Option Addr) (n c : Nat) (fA : Option Addr) (fn fc : Nat) : RcP := ⟨A, n, c, fA, fn, fc, none, 0, 0, none, 0, none, 0, 0, none, 0, 0, none, 0⟩
def scS (fl : List Bs) : Rst := ⟨fl, [], [], [], [], [], 0⟩
theorem made_rc {w W : World} (A : Option Addr) (n c : Nat) (t : List Fil) (p : Bs) (hN : ScN w W) (ht : Sl W (fun k => k < w.heap.size) A n c t) :
    RcB (W.alloc (.cells #[.slice A n c, .string ⟨p.toArray⟩, .slice none 0 0, .slice none 0 0, .slice none 0 0, .slice none 0 0, .slice none 0 0, .slice none 0 0, .int .i64 0] 106)) (scM w W.heap.size) w.heap.size W.heap.size (scQ A n c none 0 0) t p (scS []) := by
  have hz := hN.lt3
  have hs : W.heap.size < (W.alloc (.cells #[.slice A n c, .string ⟨p.toArray⟩, .slice none 0 0, .slice none 0 0, .slice none 0 0, .slice none 0 0, .slice none 0 0, .slice none 0 0, .int .i64 0] 106)).heap.size := lt_alloc _ _
  refine ⟨blkAt _ _ rfl, ht.alloc _, Sl.nil _ _ _ _ (Nat.zero_le _), Sl.nil _ _ _ _ (Nat.zero_le _), Own.nil _ _ _ _, Sl.nil _ _ _ _ (Nat.zero_le _), Sl.nil _ _ _ _ (Nat.zero_le _), Own.nil _ _ _ _, ?_, ?_, ?_, ?_, ?_⟩
  · rintro k (h | h | h)
    · exact .inl h
    · cases h
    · cases h
  · rintro k (h | h | h) <;> omega
  · rintro k (h | h | h) <;> omega
  · intro k h; cases h
  · intro k h; cases h
theorem scQ_own {A : Option Addr} {n c : Nat} {fA : Option Addr} {fn fc g k : Nat} (h : qO g (scQ A n c fA fn fc) k) : k = g := by
  rcases h with h | h | h
  · exact h
  · cases h
  · cases h
theorem ScN.step {w z z' : World} {g : Nat} {A : Option Addr} {n c : Nat} {fA : Option Addr} {fn fc : Nat} {M' : Nat → Prop} {q' : RcP} (h : ScN w z) (hg : w.heap.size + 3 ≤ g) (ht : RcT z (scM w g) g (scQ A n c fA fn fc) z' M' q') : ScN w z' := by
  refine ⟨⟨h.bl.trans (ht.out.2.below h.bl.size (fun i hi hm => by rcases hm with hm | hm | hm <;> omega)), ht.own.blk h.r0 (fun hm => by have := scQ_own hm; omega), ht.own.blk h.r1 (fun hm => by have := scQ_own hm; omega)⟩, ht.own.blk h.no (fun hm => by have := scQ_own hm; omega)⟩
section
variable {W : World} {M : Nat → Prop} {B g : Nat} {q : RcP} {t : List Fil} {p : Bs} {s : Rst}
theorem RcB.six (H : RcB W M B g q t p s) {b : Nat} (hb : M b) (hn : ¬ qO g q b) (a0 a1 a2 a3 a4 a5 : Value) : RcB ((((((W.setCell ⟨b, 0, none⟩ a0).setCell ⟨b, 1, none⟩ a1).setCell ⟨b, 2, none⟩ a2).setCell ⟨b, 3, none⟩ a3).setCell ⟨b, 4, none⟩ a4).setCell ⟨b, 5, none⟩ a5) M B g q t p s :=
  H.other hb hn (fun k _ h => set6_other W a0 a1 a2 a3 a4 a5 k h) (by simp [size_set])
theorem RcB.five (H : RcB W M B g q t p s) {b : Nat} (hb : M b) (hn : ¬ qO g q b) (a0 a1 a2 a3 a4 : Value) : RcB (((((W.setCell ⟨b, 0, none⟩ a0).setCell ⟨b, 1, none⟩ a1).setCell ⟨b, 2, none⟩ a2).setCell ⟨b, 3, none⟩ a3).setCell ⟨b, 4, none⟩ a4) M B g q t p s :=
  H.other hb hn (fun k _ h => set5_other W 0 1 2 3 4 a0 a1 a2 a3 a4 k h) (by simp [size_set])
end
set_option maxRecDepth 100000 in
set_option maxHeartbeats 8000000 in
theorem rscan_any (A : Option Addr) (n c : Nat) (A2 : Option Addr) (n2 c2 : Nat) (w : World) (S S2 : Nat → Prop) (t : List Fil) (p : Bs) (fl : List Bs) (hl : Sl w S A n c t) (hl2 : Sl w S2 A2 n2 c2 fl) (hs : ∀ f ∈ t, f.path.length ≤ 4294967000) (hs1 : p.length ≤ 4294967000) (hs2 : ∀ s ∈ fl, s.length ≤ 4294967000) (hs3 : fl.length ≤ 1000) :
    Calls Tryz.prog 14 #[.slice A n c, .string ⟨p.toArray⟩, .slice A2 n2 c2] w (ScanPost w (rscanS t p fl)) := by
  obtain ⟨R, hR⟩ : ∃ R, R = rscanS t p fl := ⟨_, rfl⟩
  rw [← hR]
  rw [rscan_stages] at hR
  have hck := fun w h => rcheckT_any A n c w S t h hs
  have hto : treeS t = 0 → TOk t := tree_ok
  generalize treeS t = te at *
  have hn2 := hl2.len
  subst hn2
  have hle2 := hl2.le
  have hT := hl.wide (S' := fun k => k < w.heap.size) (fun k hk _ => hk) (by decide)
  have hF := hl2.wide (S' := fun k => k < w.heap.size) (fun k hk _ => hk) (by decide)
  have HR := Lib.hid hR; have HCK := Lib.hid hck; have HTO := Lib.hid hto; have HT := Lib.hid hT; have HFL := Lib.hid hF; have HS2 := Lib.hid hs2; have HTL := Lib.hid hl
  clear hR hck hto hT hF hl hl2 hs hs2
  go_enter Tryz.func14, Tryz.ntmps14
  go_upto_region 2 with fail
  have hN : ScN w (((w.alloc (.cells #[.string ⟨#[]⟩, .slice none 0 0, .slice none 0 0, .slice none 0 0, .slice none 0 0, .slice none 0 0] 36)).alloc (.cells #[.int .i64 0, .int .i64 0, .int .i64 0, .string ⟨#[]⟩, .int .i64 0] 40)).alloc (.cells #[.string ⟨#[]⟩, .slice none 0 0, .slice none 0 0, .slice none 0 0, .slice none 0 0, .slice none 0 0] 36)) := ⟨⟨by ((repeat (first | (with_reducible exact Below.refl _ _) | (with_reducible refine belowA ?_ _) | (with_reducible refine belowD ?_) | (with_reducible refine belowS ?_ (Nat.le_refl _) _ _) | (with_reducible refine next ?_ (by assumption) (Nat.le_refl _)))); done), blkOld (blkOld (blkAt _ _ rfl) _) _, blkOld (blkAt _ _ (by simp)) _⟩, blkAt _ _ (by simp)⟩
  generalize (((w.alloc (.cells #[.string ⟨#[]⟩, .slice none 0 0, .slice none 0 0, .slice none 0 0, .slice none 0 0, .slice none 0 0] 36)).alloc (.cells #[.int .i64 0, .int .i64 0, .int .i64 0, .string ⟨#[]⟩, .int .i64 0] 40)).alloc (.cells #[.string ⟨#[]⟩, .slice none 0 0, .slice none 0 0, .slice none 0 0, .slice none 0 0, .slice none 0 0] 36)) = W0 at *
  have HN := Lib.hid hN
  clear hN
  go_wp2_with fail
  refine (HCK.out W0 (HTL.out.below HN.out.bl)).mono ?_
  rintro e w1 ⟨rfl, hb1⟩
  have HN1 := Lib.hid (HN.out.below hb1)
  clear hb1 HN HCK HTL
  by_cases hte : te ≠ 0
  · have htb : (te != 0) = true := by rw [bne_iff_ne]; exact hte
    have HR2 := Lib.hid (show R = (unt0, ⟨1, -1, -1, ⟨[], -1⟩⟩) from HR.out.trans (if_pos hte))
    clear HR HTO HT HFL HS2 hte
    go_upto_region 3 with fail
    (have HX := Lib.hid (fun (z : World) (hz : z.heap[w.heap.size + 2]? = some (.cells #[.string ⟨#[]⟩, .slice none 0 0, .slice none 0 0, .slice none 0 0, .slice none 0 0, .slice none 0 0] 36 (0, 0))) => noF hz)); (refine wpH_region (fun z => z.heap[w.heap.size + 2]? = some (.cells #[.string ⟨#[]⟩, .slice none 0 0, .slice none 0 0, .slice none 0 0, .slice none 0 0, .slice none 0 0] 36 (0, 0))) (by kernel_rfl) ?_); (have HZ0 := Lib.hid (HN1.out.below (Below.refl _ _).drew)); (generalize w1.drew = ZZ at *); (have hS := HZ0.out.no)
    (refine tkW 0 (v := ?_) hS ?_ ?_; rotate_left; (focus (intro x hx; have fx := HX.out x hx; go_simp; (try with_reducible rfl); done)); (try simp only [Act.put, lsa, lsz, lss]))
    (refine wpAnyH_one 1 (by kernel_rfl) rfl ?_); (intro K' hK'); (go_simp); (refine (rfault_any 1 [] (-1) _).mono ?_); (rintro x z1 ⟨rfl, hb1⟩); (have HN1 := Lib.hid (HZ0.out.below hb1)); (clear hb1 hS HZ0); (refine hK'.out _ _ HN1.out.no ?_); (clear hK' K'); (unfold vFlt rflt); ((have r00 := (cell_blk HN1.out.r0 0).trans rfl); (have r01 := (cell_blk HN1.out.r0 1).trans rfl); (have r02 := (cell_blk HN1.out.r0 2).trans rfl); (have r03 := (cell_blk HN1.out.r0 3).trans rfl); (have r04 := (cell_blk HN1.out.r0 4).trans rfl); (have r05 := (cell_blk HN1.out.r0 5).trans rfl); (have z00 := frz_blk HN1.out.r0 0); (have z01 := frz_blk HN1.out.r0 1); (have z02 := frz_blk HN1.out.r0 2); (have z03 := frz_blk HN1.out.r0 3); (have z04 := frz_blk HN1.out.r0 4); (have z05 := frz_blk HN1.out.r0 5); (have r10 := (cell_blk HN1.out.r1 0).trans rfl); (have r11 := (cell_blk HN1.out.r1 1).trans rfl); (have r12 := (cell_blk HN1.out.r1 2).trans rfl); (have r13 := (cell_blk HN1.out.r1 3).trans rfl); (have r14 := (cell_blk HN1.out.r1 4).trans rfl); (have z10 := frz_blk HN1.out.r1 0); (have z11 := frz_blk HN1.out.r1 1); (have z12 := frz_blk HN1.out.r1 2); (have z13 := frz_blk HN1.out.r1 3); (have z14 := frz_blk HN1.out.r1 4)); ((refine wpAnyH_one 2 (by kernel_rfl) rfl ?_; intro K' hK'; go_simp; refine hK'.out _ _ (HN1.out.setU).no ?_; clear hK' K')); ((refine wpAnyH_one 3 (by kernel_rfl) rfl ?_; intro K' hK'; go_simp; refine hK'.out _ _ ((HN1.out.setU).setF _ _ _ _ _).no ?_; clear hK' K')); (refine wpAnyH_done (by kernel_rfl) ?_ _); (have HF := Lib.hid ((HN1.out.setU).setF (.int .i64 1) (.int .i64 (-1)) (.int .i64 (-1)) (.string ⟨([] : Bs).toArray⟩) (.int .i64 (-1)))); (go_wp2_with fail); (have q00 := (cell_blk HF.out.r0 0).trans rfl); (have q01 := (cell_blk HF.out.r0 1).trans rfl); (have q02 := (cell_blk HF.out.r0 2).trans rfl); (have q03 := (cell_blk HF.out.r0 3).trans rfl); (have q04 := (cell_blk HF.out.r0 4).trans rfl); (have q05 := (cell_blk HF.out.r0 5).trans rfl); (have q10 := (cell_blk HF.out.r1 0).trans rfl); (have q11 := (cell_blk HF.out.r1 1).trans rfl); (have q12 := (cell_blk HF.out.r1 2).trans rfl); (have q13 := (cell_blk HF.out.r1 3).trans rfl); (have q14 := (cell_blk HF.out.r1 4).trans rfl); (refine bodyPost_ret (v := .tuple #[.agg #[.string ⟨#[]⟩, .slice none 0 0, .slice none 0 0, .slice none 0 0, .slice none 0 0, .slice none 0 0], .agg #[.int .i64 1, .int .i64 (-1), .int .i64 (-1), .string ⟨([] : Bs).toArray⟩, .int .i64 (-1)]]) (by simp [results, Tryz.results14, go_sem, q00, q01, q02, q03, q04, q05, q10, q11, q12, q13, q14]) rfl ?_); (exact ⟨_, by rw [HR2.out]; rfl, by (rw [HR2.out]; exact ⟨none, 0, 0, none, 0, 0, none, 0, 0, none, 0, 0, none, 0, 0, rfl, Sl.nil _ _ _ _ (by decide), Sl.nil _ _ _ _ (by decide), Sl.nil _ _ _ _ (by decide), Sl.nil _ _ _ _ (by decide), Sl.nil _ _ _ _ (by decide)⟩), HF.out.bl⟩)
  · have te0 : te = 0 := by omega
    subst te0
    have hR1 := HR.out.trans (if_neg hte)
    have hTOK := HTO.out rfl
    have HTOK := Lib.hid hTOK
    clear HR hte HTO hTOK
    have hpp := fun w => rpath_any p w hs1
    have hpt := fun w => parts_any p w hs1
    have hct : p.contains 47 = decide (2 ≤ (splitS 47 p).length) := by
      rw [split_len, Bool.eq_iff_iff, List.contains_iff_mem, decide_eq_true_iff, ← List.count_pos_iff]
      omega
    rw [hct] at hR1
    generalize (splitS 47 p).length = pl at *
    generalize pathS p = pb at *
    obtain ⟨b1, hb1⟩ : ∃ b1, b1 = (!pb || !decide (2 ≤ pl)) := ⟨_, rfl⟩
    rw [← hb1] at hR1
    have HPP := Lib.hid hpp; have HPT := Lib.hid hpt; have HR1 := Lib.hid hR1; have HB1 := Lib.hid hb1
    clear hpp hpt hct hR1 hb1
    go_upto_region 4 with fail
    go_cut [32] from 25 to 32 (fun v wx => v = .bool b1 ∧ ScN w wx)
    case first =>
      cases pb with
      | false =>
        have e9 : b1 = true := HB1.out
        have HP2 : Hid (∀ w, Calls Tryz.prog 44 #[.string ⟨p.toArray⟩] w fun e w' => e = .returned (.int .i64 2) ∧ Below w.heap.size w w') := HPP
        go_wp2_with fail
        refine (HP2.out _).mono ?_
        rintro e w2 ⟨rfl, hb2⟩
        have HN2 := Lib.hid (HN1.out.below hb2)
        clear hb2
        go_wp2_with fail
        go_meet
        exact ⟨by rw [e9], HN2.out⟩
      | true =>
        have HP2 : Hid (∀ w, Calls Tryz.prog 44 #[.string ⟨p.toArray⟩] w fun e w' => e = .returned (.int .i64 0) ∧ Below w.heap.size w w') := HPP
        go_wp2_with fail
        refine (HP2.out _).mono ?_
        rintro e w2 ⟨rfl, hb2⟩
        have HN2 := Lib.hid (HN1.out.below hb2)
        clear hb2
        go_wp2_with fail
        refine (HPT.out _).mono ?_
        rintro e w3 ⟨rfl, hb3⟩
        have HN3 := Lib.hid (HN2.out.below hb3)
        clear hb3 HN1 HN2
        by_cases hpl : 2 ≤ pl
        · have hplI : ¬ (pl : Int) < 2 := by omega
          have e9 : b1 = false := by rw [HB1.out]; simp [hpl]
          go_wp2_with fail
          go_meet
          exact ⟨by rw [e9]; first | rfl | exact congrArg Value.bool (decide_eq_false (by omega)), HN3.out⟩
        · have hplI : (pl : Int) < 2 := by omega
          have e9 : b1 = true := by rw [HB1.out]; simp [hpl]
          go_wp2_with fail
          go_meet
          exact ⟨by rw [e9], HN3.out⟩
    case rest =>
    obtain ⟨rfl, hN2⟩ := hcut
    have HN2 := Lib.hid hN2
    clear hN2 HN1 HPP HPT HB1
    cases b1 with
    | true =>
      have HR2 := Lib.hid (show R = (unt0, ⟨2, -1, -1, ⟨[], -1⟩⟩) from HR1.out.trans (if_pos rfl))
      clear HR1 HT HFL HS2 HTOK
      go_upto_region 5 with fail
      (have HX := Lib.hid (fun (z : World) (hz : z.heap[w.heap.size + 2]? = some (.cells #[.string ⟨#[]⟩, .slice none 0 0, .slice none 0 0, .slice none 0 0, .slice none 0 0, .slice none 0 0] 36 (0, 0))) => noF hz)); (refine wpH_region (fun z => z.heap[w.heap.size + 2]? = some (.cells #[.string ⟨#[]⟩, .slice none 0 0, .slice none 0 0, .slice none 0 0, .slice none 0 0, .slice none 0 0] 36 (0, 0))) (by kernel_rfl) ?_); (have HZ0 := Lib.hid (HN2.out.below (Below.refl _ _).drew)); (generalize wc.drew = ZZ at *); (have hS := HZ0.out.no)
      (refine tkW 0 (v := ?_) hS ?_ ?_; rotate_left; (focus (intro x hx; have fx := HX.out x hx; go_simp; (try with_reducible rfl); done)); (try simp only [Act.put, lsa, lsz, lss]))
      (refine wpAnyH_one 1 (by kernel_rfl) rfl ?_); (intro K' hK'); (go_simp); (refine (rfault_any 2 [] (-1) _).mono ?_); (rintro x z1 ⟨rfl, hb1⟩); (have HN1 := Lib.hid (HZ0.out.below hb1)); (clear hb1 hS HZ0); (refine hK'.out _ _ HN1.out.no ?_); (clear hK' K'); (unfold vFlt rflt); ((have r00 := (cell_blk HN1.out.r0 0).trans rfl); (have r01 := (cell_blk HN1.out.r0 1).trans rfl); (have r02 := (cell_blk HN1.out.r0 2).trans rfl); (have r03 := (cell_blk HN1.out.r0 3).trans rfl); (have r04 := (cell_blk HN1.out.r0 4).trans rfl); (have r05 := (cell_blk HN1.out.r0 5).trans rfl); (have z00 := frz_blk HN1.out.r0 0); (have z01 := frz_blk HN1.out.r0 1); (have z02 := frz_blk HN1.out.r0 2); (have z03 := frz_blk HN1.out.r0 3); (have z04 := frz_blk HN1.out.r0 4); (have z05 := frz_blk HN1.out.r0 5); (have r10 := (cell_blk HN1.out.r1 0).trans rfl); (have r11 := (cell_blk HN1.out.r1 1).trans rfl); (have r12 := (cell_blk HN1.out.r1 2).trans rfl); (have r13 := (cell_blk HN1.out.r1 3).trans rfl); (have r14 := (cell_blk HN1.out.r1 4).trans rfl); (have z10 := frz_blk HN1.out.r1 0); (have z11 := frz_blk HN1.out.r1 1); (have z12 := frz_blk HN1.out.r1 2); (have z13 := frz_blk HN1.out.r1 3); (have z14 := frz_blk HN1.out.r1 4)); ((refine wpAnyH_one 2 (by kernel_rfl) rfl ?_; intro K' hK'; go_simp; refine hK'.out _ _ (HN1.out.setU).no ?_; clear hK' K')); ((refine wpAnyH_one 3 (by kernel_rfl) rfl ?_; intro K' hK'; go_simp; refine hK'.out _ _ ((HN1.out.setU).setF _ _ _ _ _).no ?_; clear hK' K')); (refine wpAnyH_done (by kernel_rfl) ?_ _); (have HF := Lib.hid ((HN1.out.setU).setF (.int .i64 2) (.int .i64 (-1)) (.int .i64 (-1)) (.string ⟨([] : Bs).toArray⟩) (.int .i64 (-1)))); (go_wp2_with fail); (have q00 := (cell_blk HF.out.r0 0).trans rfl); (have q01 := (cell_blk HF.out.r0 1).trans rfl); (have q02 := (cell_blk HF.out.r0 2).trans rfl); (have q03 := (cell_blk HF.out.r0 3).trans rfl); (have q04 := (cell_blk HF.out.r0 4).trans rfl); (have q05 := (cell_blk HF.out.r0 5).trans rfl); (have q10 := (cell_blk HF.out.r1 0).trans rfl); (have q11 := (cell_blk HF.out.r1 1).trans rfl); (have q12 := (cell_blk HF.out.r1 2).trans rfl); (have q13 := (cell_blk HF.out.r1 3).trans rfl); (have q14 := (cell_blk HF.out.r1 4).trans rfl); (refine bodyPost_ret (v := .tuple #[.agg #[.string ⟨#[]⟩, .slice none 0 0, .slice none 0 0, .slice none 0 0, .slice none 0 0, .slice none 0 0], .agg #[.int .i64 2, .int .i64 (-1), .int .i64 (-1), .string ⟨([] : Bs).toArray⟩, .int .i64 (-1)]]) (by simp [results, Tryz.results14, go_sem, q00, q01, q02, q03, q04, q05, q10, q11, q12, q13, q14]) rfl ?_); (exact ⟨_, by rw [HR2.out]; rfl, by (rw [HR2.out]; exact ⟨none, 0, 0, none, 0, 0, none, 0, 0, none, 0, 0, none, 0, 0, rfl, Sl.nil _ _ _ _ (by decide), Sl.nil _ _ _ _ (by decide), Sl.nil _ _ _ _ (by decide), Sl.nil _ _ _ _ (by decide), Sl.nil _ _ _ _ (by decide)⟩), HF.out.bl⟩)
    | false =>
    have hR3 := HR1.out.trans (if_neg (by simp))
    obtain ⟨R2, hR2⟩ : ∃ R2, R2 = scB t p fl := ⟨_, rfl⟩
    rw [← hR2] at hR3
    have HRA : Hid (R = if (fl.drop 0).any (fun f => !name5 f) then scE 2 [] else R2) := Lib.hid hR3
    have HR20 := Lib.hid hR2
    clear hR3 hR2 HR1
    go_upto_region 7 with fail
    have hz3 := HN2.out.lt3
    have hrc := made_rc A n c t p HN2.out (HT.out.below HN2.out.bl)
    have hN6 : ScN w (wc.alloc (.cells #[.slice A n c, .string ⟨p.toArray⟩, .slice none 0 0, .slice none 0 0, .slice none 0 0, .slice none 0 0, .slice none 0 0, .slice none 0 0, .int .i64 0] 106)) := HN2.out.below boxed
    generalize (wc.alloc (.cells #[.slice A n c, .string ⟨p.toArray⟩, .slice none 0 0, .slice none 0 0, .slice none 0 0, .slice none 0 0, .slice none 0 0, .slice none 0 0, .int .i64 0] 106)) = W6 at *
    have HRC6 := Lib.hid hrc; have HN6 := Lib.hid hN6
    clear hrc hN6 HN2 HT
    generalize wc.heap.size = g at *
    go_wp2_with fail
    go_loopw [41] (fun i wr => ∃ j : Nat, j ≤ fl.length ∧ i = .int .i64 j ∧ Below W6.heap.size W6 wr ∧ Hid (R = if (fl.drop j).any (fun f => !name5 f) then scE 2 [] else R2)) (fun i _ => fl.length - (intOf i).toNat)
    case atStart => exact ⟨0, by omega, rfl, Below.refl _ _, HRA⟩
    case round =>
      obtain ⟨j, hj, rfl, hb, hf⟩ := hrel
      have HN7 := Lib.hid (HN6.out.below hb)
      by_cases hlt : j < fl.length
      · obtain ⟨b3, o3, rfl, -, hbs, c1⟩ := (HFL.out.below HN7.out.bl).str hlt
        have hxl := HS2.out _ (List.getElem_mem hlt)
        have hd := hf.out
        rw [drop_get hlt, List.any_cons] at hd
        generalize fl[j] = x at *
        have hnm := fun w => name5_any x w (by omega)
        generalize name5 x = qn at *
        have HNX := Lib.hid hnm; have HD := Lib.hid hd; have HB := Lib.hid hb
        clear hnm hd hf HRA hb
        go_wp2_with fail
        refine (HNX.out _).mono ?_
        rintro e w5 ⟨rfl, hb5⟩
        have HN8 := Lib.hid (HN7.out.below hb5)
        have HB8 := Lib.hid (HB.out.trans (hb5.mono HB.out.size))
        clear hb5 HN7 HB HNX
        cases qn with
        | false =>
          have HR2 := Lib.hid (show R = (unt0, ⟨2, -1, -1, ⟨[], -1⟩⟩) from HD.out)
          clear HD HR20 HRC6 HN6 HB8 HFL HS2 HTOK
          go_upto_region 11 with fail
          (have HX := Lib.hid (fun (z : World) (hz : z.heap[w.heap.size + 2]? = some (.cells #[.string ⟨#[]⟩, .slice none 0 0, .slice none 0 0, .slice none 0 0, .slice none 0 0, .slice none 0 0] 36 (0, 0))) => noF hz)); (refine wpH_region (fun z => z.heap[w.heap.size + 2]? = some (.cells #[.string ⟨#[]⟩, .slice none 0 0, .slice none 0 0, .slice none 0 0, .slice none 0 0, .slice none 0 0] 36 (0, 0))) (by kernel_rfl) ?_); (have HZ0 := Lib.hid (HN8.out.below (Below.refl _ _).drew)); (generalize w5.drew = ZZ at *); (have hS := HZ0.out.no)
          (refine tkW 0 (v := ?_) hS ?_ ?_; rotate_left; (focus (intro x hx; have fx := HX.out x hx; go_simp; (try with_reducible rfl); done)); (try simp only [Act.put, lsa, lsz, lss]))
          (refine wpAnyH_one 1 (by kernel_rfl) rfl ?_); (intro K' hK'); (go_simp); (refine (rfault_any 2 [] (-1) _).mono ?_); (rintro x z1 ⟨rfl, hb1⟩); (have HN1 := Lib.hid (HZ0.out.below hb1)); (clear hb1 hS HZ0); (refine hK'.out _ _ HN1.out.no ?_); (clear hK' K'); (unfold vFlt rflt); ((have r00 := (cell_blk HN1.out.r0 0).trans rfl); (have r01 := (cell_blk HN1.out.r0 1).trans rfl); (have r02 := (cell_blk HN1.out.r0 2).trans rfl); (have r03 := (cell_blk HN1.out.r0 3).trans rfl); (have r04 := (cell_blk HN1.out.r0 4).trans rfl); (have r05 := (cell_blk HN1.out.r0 5).trans rfl); (have z00 := frz_blk HN1.out.r0 0); (have z01 := frz_blk HN1.out.r0 1); (have z02 := frz_blk HN1.out.r0 2); (have z03 := frz_blk HN1.out.r0 3); (have z04 := frz_blk HN1.out.r0 4); (have z05 := frz_blk HN1.out.r0 5); (have r10 := (cell_blk HN1.out.r1 0).trans rfl); (have r11 := (cell_blk HN1.out.r1 1).trans rfl); (have r12 := (cell_blk HN1.out.r1 2).trans rfl); (have r13 := (cell_blk HN1.out.r1 3).trans rfl); (have r14 := (cell_blk HN1.out.r1 4).trans rfl); (have z10 := frz_blk HN1.out.r1 0); (have z11 := frz_blk HN1.out.r1 1); (have z12 := frz_blk HN1.out.r1 2); (have z13 := frz_blk HN1.out.r1 3); (have z14 := frz_blk HN1.out.r1 4)); ((refine wpAnyH_one 2 (by kernel_rfl) rfl ?_; intro K' hK'; go_simp; refine hK'.out _ _ (HN1.out.setU).no ?_; clear hK' K')); ((refine wpAnyH_one 3 (by kernel_rfl) rfl ?_; intro K' hK'; go_simp; refine hK'.out _ _ ((HN1.out.setU).setF _ _ _ _ _).no ?_; clear hK' K')); (refine wpAnyH_done (by kernel_rfl) ?_ _); (have HF := Lib.hid ((HN1.out.setU).setF (.int .i64 2) (.int .i64 (-1)) (.int .i64 (-1)) (.string ⟨([] : Bs).toArray⟩) (.int .i64 (-1)))); (go_wp2_with fail); (have q00 := (cell_blk HF.out.r0 0).trans rfl); (have q01 := (cell_blk HF.out.r0 1).trans rfl); (have q02 := (cell_blk HF.out.r0 2).trans rfl); (have q03 := (cell_blk HF.out.r0 3).trans rfl); (have q04 := (cell_blk HF.out.r0 4).trans rfl); (have q05 := (cell_blk HF.out.r0 5).trans rfl); (have q10 := (cell_blk HF.out.r1 0).trans rfl); (have q11 := (cell_blk HF.out.r1 1).trans rfl); (have q12 := (cell_blk HF.out.r1 2).trans rfl); (have q13 := (cell_blk HF.out.r1 3).trans rfl); (have q14 := (cell_blk HF.out.r1 4).trans rfl); (refine bodyPost_ret (v := .tuple #[.agg #[.string ⟨#[]⟩, .slice none 0 0, .slice none 0 0, .slice none 0 0, .slice none 0 0, .slice none 0 0], .agg #[.int .i64 2, .int .i64 (-1), .int .i64 (-1), .string ⟨([] : Bs).toArray⟩, .int .i64 (-1)]]) (by simp [results, Tryz.results14, go_sem, q00, q01, q02, q03, q04, q05, q10, q11, q12, q13, q14]) rfl ?_); (exact ⟨_, by rw [HR2.out]; rfl, by (rw [HR2.out]; exact ⟨none, 0, 0, none, 0, 0, none, 0, 0, none, 0, 0, none, 0, 0, rfl, Sl.nil _ _ _ _ (by decide), Sl.nil _ _ _ _ (by decide), Sl.nil _ _ _ _ (by decide), Sl.nil _ _ _ _ (by decide), Sl.nil _ _ _ _ (by decide)⟩), HF.out.bl⟩)
        | true =>
          go_wp2_with fail
          go_roundw
          case rel => exact ⟨j + 1, by omega, by go_num, HB8.out, HD⟩
          case measure => simp [intOf]; omega
      · have hq : R = R2 := by
          have := hf.out
          rw [drop_end hlt] at this
          exact this
        have hR4 := hq.trans HR20.out
        unfold scB at hR4
        obtain ⟨R3, hR3⟩ : ∃ R3 : Unt × Flt, R3 = if 128 < fl.length then scE 10 [] else scD t p fl := ⟨_, rfl⟩
        rw [← hR3] at hR4
        have HRB : Hid (R = if dupS (fl.take 0) (fl.drop 0) then scE 6 [] else R3) := Lib.hid hR4
        have HR3 := Lib.hid hR3
        have HRC7 := Lib.hid (HRC6.out.below hb)
        clear hq hR4 hR3 hf HRA HR20 hb HRC6 HN6
        generalize wr = W7 at *
        go_wp2_with fail
        go_loopw [53] (fun i wr => ∃ (j : Nat) (fA : Option Addr) (fn fc : Nat), j ≤ fl.length ∧ i = .int .i64 j ∧ ScN w wr ∧ RcB wr (scM w g) w.heap.size g (scQ A n c fA fn fc) t p (scS ((fl.take j).foldl rins [])) ∧ Hid (R = if dupS (fl.take j) (fl.drop j) then scE 6 [] else R3)) (fun i _ => fl.length - (intOf i).toNat)
        case atStart => exact ⟨0, none, 0, 0, by omega, rfl, HN7.out, HRC7.out, HRB⟩
        case round =>
          obtain ⟨j, fA, fn, fc, hj, rfl, hN, hrc, hf⟩ := hrel
          have HN8 := Lib.hid hN; have HRC8 := Lib.hid hrc
          clear hN hrc
          by_cases hlt : j < fl.length
          · have hfs := HFL.out.below HN8.out.bl
            obtain ⟨b3, o3, rfl, -, hbs, c1⟩ := hfs.str hlt
            have hcap3 := hfs.2.1
            have hd := hf.out
            rw [drop_get hlt, dupS] at hd
            have hcn := has5_any _ j c2 wr _ (fl.take j) fl[j] (hfs.take (by omega))
            have htk : fl.take j ++ [fl[j]] = fl.take (j + 1) := by rw [List.take_succ_eq_append_getElem hlt]
            have hfo : rins ((fl.take j).foldl rins []) fl[j] = (fl.take (j + 1)).foldl rins [] := by rw [← htk, List.foldl_append]; rfl
            have hln : ((fl.take j).foldl rins []).length ≤ 1000000 := by
              have h1 := len_foldR (fl.take j) []
              have h2 := List.length_take_le j fl
              simp only [List.length_nil] at h1
              omega
            rw [htk] at hd
            have hjc : (j : Int) ≤ (c2 : Int) := by omega
            have hin := fun w1 (hb : Below wr.heap.size wr w1) => rins_any fA fn fc w1 _ ((fl.take j).foldl rins []) (HRC8.out.flags.below hb) fl[j] hln
            rw [hfo] at hin
            generalize (fl.take j).contains fl[j] = qc at *
            generalize fl[j] = x at *
            have HD := Lib.hid hd; have HC := Lib.hid hcn; have HIN := Lib.hid hin
            clear hd hcn hf htk hfo hin HRB hfs
            go_wp2_with fail
            refine HC.out.mono ?_
            rintro e w7 ⟨rfl, rfl⟩
            cases qc with
            | true =>
              have HR2 := Lib.hid (show R = (unt0, ⟨6, -1, -1, ⟨[], -1⟩⟩) from HD.out)
              clear HD HC HIN HRC7 HRC8 HN7 HFL HS2 HTOK HR3 c1
              go_upto_region 17 with fail
              (have HX := Lib.hid (fun (z : World) (hz : z.heap[w.heap.size + 2]? = some (.cells #[.string ⟨#[]⟩, .slice none 0 0, .slice none 0 0, .slice none 0 0, .slice none 0 0, .slice none 0 0] 36 (0, 0))) => noF hz)); (refine wpH_region (fun z => z.heap[w.heap.size + 2]? = some (.cells #[.string ⟨#[]⟩, .slice none 0 0, .slice none 0 0, .slice none 0 0, .slice none 0 0, .slice none 0 0] 36 (0, 0))) (by kernel_rfl) ?_); (have HZ0 := Lib.hid (HN8.out.below (Below.refl _ _).drew)); (generalize wr.drew = ZZ at *); (have hS := HZ0.out.no)
              (refine tkW 0 (v := ?_) hS ?_ ?_; rotate_left; (focus (intro x hx; have fx := HX.out x hx; go_simp; (try with_reducible rfl); done)); (try simp only [Act.put, lsa, lsz, lss]))
              (refine wpAnyH_one 1 (by kernel_rfl) rfl ?_); (intro K' hK'); (go_simp); (refine (rfault_any 6 [] (-1) _).mono ?_); (rintro x z1 ⟨rfl, hb1⟩); (have HN1 := Lib.hid (HZ0.out.below hb1)); (clear hb1 hS HZ0); (refine hK'.out _ _ HN1.out.no ?_); (clear hK' K'); (unfold vFlt rflt); ((have r00 := (cell_blk HN1.out.r0 0).trans rfl); (have r01 := (cell_blk HN1.out.r0 1).trans rfl); (have r02 := (cell_blk HN1.out.r0 2).trans rfl); (have r03 := (cell_blk HN1.out.r0 3).trans rfl); (have r04 := (cell_blk HN1.out.r0 4).trans rfl); (have r05 := (cell_blk HN1.out.r0 5).trans rfl); (have z00 := frz_blk HN1.out.r0 0); (have z01 := frz_blk HN1.out.r0 1); (have z02 := frz_blk HN1.out.r0 2); (have z03 := frz_blk HN1.out.r0 3); (have z04 := frz_blk HN1.out.r0 4); (have z05 := frz_blk HN1.out.r0 5); (have r10 := (cell_blk HN1.out.r1 0).trans rfl); (have r11 := (cell_blk HN1.out.r1 1).trans rfl); (have r12 := (cell_blk HN1.out.r1 2).trans rfl); (have r13 := (cell_blk HN1.out.r1 3).trans rfl); (have r14 := (cell_blk HN1.out.r1 4).trans rfl); (have z10 := frz_blk HN1.out.r1 0); (have z11 := frz_blk HN1.out.r1 1); (have z12 := frz_blk HN1.out.r1 2); (have z13 := frz_blk HN1.out.r1 3); (have z14 := frz_blk HN1.out.r1 4)); ((refine wpAnyH_one 2 (by kernel_rfl) rfl ?_; intro K' hK'; go_simp; refine hK'.out _ _ (HN1.out.setU).no ?_; clear hK' K')); ((refine wpAnyH_one 3 (by kernel_rfl) rfl ?_; intro K' hK'; go_simp; refine hK'.out _ _ ((HN1.out.setU).setF _ _ _ _ _).no ?_; clear hK' K')); (refine wpAnyH_done (by kernel_rfl) ?_ _); (have HF := Lib.hid ((HN1.out.setU).setF (.int .i64 6) (.int .i64 (-1)) (.int .i64 (-1)) (.string ⟨([] : Bs).toArray⟩) (.int .i64 (-1)))); (go_wp2_with fail); (have q00 := (cell_blk HF.out.r0 0).trans rfl); (have q01 := (cell_blk HF.out.r0 1).trans rfl); (have q02 := (cell_blk HF.out.r0 2).trans rfl); (have q03 := (cell_blk HF.out.r0 3).trans rfl); (have q04 := (cell_blk HF.out.r0 4).trans rfl); (have q05 := (cell_blk HF.out.r0 5).trans rfl); (have q10 := (cell_blk HF.out.r1 0).trans rfl); (have q11 := (cell_blk HF.out.r1 1).trans rfl); (have q12 := (cell_blk HF.out.r1 2).trans rfl); (have q13 := (cell_blk HF.out.r1 3).trans rfl); (have q14 := (cell_blk HF.out.r1 4).trans rfl); (refine bodyPost_ret (v := .tuple #[.agg #[.string ⟨#[]⟩, .slice none 0 0, .slice none 0 0, .slice none 0 0, .slice none 0 0, .slice none 0 0], .agg #[.int .i64 6, .int .i64 (-1), .int .i64 (-1), .string ⟨([] : Bs).toArray⟩, .int .i64 (-1)]]) (by simp [results, Tryz.results14, go_sem, q00, q01, q02, q03, q04, q05, q10, q11, q12, q13, q14]) rfl ?_); (exact ⟨_, by rw [HR2.out]; rfl, by (rw [HR2.out]; exact ⟨none, 0, 0, none, 0, 0, none, 0, 0, none, 0, 0, none, 0, 0, rfl, Sl.nil _ _ _ _ (by decide), Sl.nil _ _ _ _ (by decide), Sl.nil _ _ _ _ (by decide), Sl.nil _ _ _ _ (by decide), Sl.nil _ _ _ _ (by decide)⟩), HF.out.bl⟩)
            | false =>
              have hcc := HRC8.out.cells
              unfold rcC at hcc
              have c2' := (cell_blk hcc 2).trans rfl
              clear hcc
              go_wp2_with fail
              refine (HIN.out _ (Below.refl _ _)).mono ?_
              rintro e w8 ⟨A8, n8, k8, rfl, hs8, hb8⟩
              have HN9 := Lib.hid (HN8.out.below hb8)
              have HRC9 := Lib.hid (HRC8.out.below hb8)
              have hs8' : Sl w8 (fun k => ¬ scM w g k) A8 n8 k8 ((fl.take (j + 1)).foldl rins []) := hs8.wide (fun k _ hk hm => by have := HRC8.out.lt k hm; omega) (by decide)
              have HS8 := Lib.hid hs8'
              clear hs8 hs8' hb8 c2' HN8 HRC8 HIN HC
              have hcc := HRC9.out.cells
              unfold rcC at hcc
              have c2' := (cell_blk hcc 2).trans rfl
              have f2 := frz_blk hcc 2
              clear hcc
              go_wp2_with fail
              go_roundw
              case rel => exact ⟨j + 1, A8, n8, k8, by omega, by go_num, HN9.out.setG hz3, HRC9.out.flags' _ HS8.out, HD⟩
              case measure => simp [intOf]; omega
          · have hq : R = R3 := by
              have := hf.out
              rw [drop_end hlt, dupS] at this
              exact this
            have hjl : j = fl.length := by omega
            have hR5 := hq.trans HR3.out
            rw [hjl, List.take_length] at HRC8
            clear hq HR3 hf HRB HN7 HRC7
            by_cases h128 : 128 < fl.length
            · have h128I : (128 : Int) < (fl.length : Int) := by omega
              have HR2 := Lib.hid (show R = (unt0, ⟨10, -1, -1, ⟨[], -1⟩⟩) from hR5.trans (if_pos h128))
              clear hR5 HRC8 HFL HS2 HTOK
              go_upto_region 21 with fail
              (have HX := Lib.hid (fun (z : World) (hz : z.heap[w.heap.size + 2]? = some (.cells #[.string ⟨#[]⟩, .slice none 0 0, .slice none 0 0, .slice none 0 0, .slice none 0 0, .slice none 0 0] 36 (0, 0))) => noF hz)); (refine wpH_region (fun z => z.heap[w.heap.size + 2]? = some (.cells #[.string ⟨#[]⟩, .slice none 0 0, .slice none 0 0, .slice none 0 0, .slice none 0 0, .slice none 0 0] 36 (0, 0))) (by kernel_rfl) ?_); (have HZ0 := Lib.hid (HN8.out.below (Below.refl _ _).drew)); (generalize wr.drew = ZZ at *); (have hS := HZ0.out.no)
              (refine tkW 0 (v := ?_) hS ?_ ?_; rotate_left; (focus (intro x hx; have fx := HX.out x hx; go_simp; (try with_reducible rfl); done)); (try simp only [Act.put, lsa, lsz, lss]))
              (refine wpAnyH_one 1 (by kernel_rfl) rfl ?_); (intro K' hK'); (go_simp); (refine (rfault_any 10 [] (-1) _).mono ?_); (rintro x z1 ⟨rfl, hb1⟩); (have HN1 := Lib.hid (HZ0.out.below hb1)); (clear hb1 hS HZ0); (refine hK'.out _ _ HN1.out.no ?_); (clear hK' K'); (unfold vFlt rflt); ((have r00 := (cell_blk HN1.out.r0 0).trans rfl); (have r01 := (cell_blk HN1.out.r0 1).trans rfl); (have r02 := (cell_blk HN1.out.r0 2).trans rfl); (have r03 := (cell_blk HN1.out.r0 3).trans rfl); (have r04 := (cell_blk HN1.out.r0 4).trans rfl); (have r05 := (cell_blk HN1.out.r0 5).trans rfl); (have z00 := frz_blk HN1.out.r0 0); (have z01 := frz_blk HN1.out.r0 1); (have z02 := frz_blk HN1.out.r0 2); (have z03 := frz_blk HN1.out.r0 3); (have z04 := frz_blk HN1.out.r0 4); (have z05 := frz_blk HN1.out.r0 5); (have r10 := (cell_blk HN1.out.r1 0).trans rfl); (have r11 := (cell_blk HN1.out.r1 1).trans rfl); (have r12 := (cell_blk HN1.out.r1 2).trans rfl); (have r13 := (cell_blk HN1.out.r1 3).trans rfl); (have r14 := (cell_blk HN1.out.r1 4).trans rfl); (have z10 := frz_blk HN1.out.r1 0); (have z11 := frz_blk HN1.out.r1 1); (have z12 := frz_blk HN1.out.r1 2); (have z13 := frz_blk HN1.out.r1 3); (have z14 := frz_blk HN1.out.r1 4)); ((refine wpAnyH_one 2 (by kernel_rfl) rfl ?_; intro K' hK'; go_simp; refine hK'.out _ _ (HN1.out.setU).no ?_; clear hK' K')); ((refine wpAnyH_one 3 (by kernel_rfl) rfl ?_; intro K' hK'; go_simp; refine hK'.out _ _ ((HN1.out.setU).setF _ _ _ _ _).no ?_; clear hK' K')); (refine wpAnyH_done (by kernel_rfl) ?_ _); (have HF := Lib.hid ((HN1.out.setU).setF (.int .i64 10) (.int .i64 (-1)) (.int .i64 (-1)) (.string ⟨([] : Bs).toArray⟩) (.int .i64 (-1)))); (go_wp2_with fail); (have q00 := (cell_blk HF.out.r0 0).trans rfl); (have q01 := (cell_blk HF.out.r0 1).trans rfl); (have q02 := (cell_blk HF.out.r0 2).trans rfl); (have q03 := (cell_blk HF.out.r0 3).trans rfl); (have q04 := (cell_blk HF.out.r0 4).trans rfl); (have q05 := (cell_blk HF.out.r0 5).trans rfl); (have q10 := (cell_blk HF.out.r1 0).trans rfl); (have q11 := (cell_blk HF.out.r1 1).trans rfl); (have q12 := (cell_blk HF.out.r1 2).trans rfl); (have q13 := (cell_blk HF.out.r1 3).trans rfl); (have q14 := (cell_blk HF.out.r1 4).trans rfl); (refine bodyPost_ret (v := .tuple #[.agg #[.string ⟨#[]⟩, .slice none 0 0, .slice none 0 0, .slice none 0 0, .slice none 0 0, .slice none 0 0], .agg #[.int .i64 10, .int .i64 (-1), .int .i64 (-1), .string ⟨([] : Bs).toArray⟩, .int .i64 (-1)]]) (by simp [results, Tryz.results14, go_sem, q00, q01, q02, q03, q04, q05, q10, q11, q12, q13, q14]) rfl ?_); (exact ⟨_, by rw [HR2.out]; rfl, by (rw [HR2.out]; exact ⟨none, 0, 0, none, 0, 0, none, 0, 0, none, 0, 0, none, 0, 0, rfl, Sl.nil _ _ _ _ (by decide), Sl.nil _ _ _ _ (by decide), Sl.nil _ _ _ _ (by decide), Sl.nil _ _ _ _ (by decide), Sl.nil _ _ _ _ (by decide)⟩), HF.out.bl⟩)
            · have h128I : ¬ (128 : Int) < (fl.length : Int) := by omega
              have hR6 := hR5.trans (if_neg h128)
              unfold scD at hR6
              have hfd := fun w1 (hb : Below wr.heap.size wr w1) => rfindT_any A n c w1 _ t (HRC8.out.tree.below hb) p
              have hfo := fun d (h : findT t p = some d) => find_ok HTOK.out h
              generalize findT t p = fo at *
              have HFD := Lib.hid hfd; have HFO := Lib.hid hfo; have HR6 := Lib.hid hR6
              clear hfd hfo hR6 hR5 HFL HS2
              go_wp2_with fail
              refine (HFD.out _ (Below.refl _ _)).mono ?_
              rintro e w9 ⟨rfl, hb9⟩
              have HN9 := Lib.hid (HN8.out.below hb9); have HRC9 := Lib.hid (HRC8.out.below hb9)
              clear hb9 HN8 HRC8 HFD
              unfold findV
              cases fo with
              | none =>
                have HR2 := Lib.hid (show R = (unt0, ⟨7, -1, -1, ⟨p, -1⟩⟩) from HR6.out)
                clear HR6 HRC9 HTOK HFO
                go_upto_region 24 with fail
                (have HX := Lib.hid (fun (z : World) (hz : z.heap[w.heap.size + 2]? = some (.cells #[.string ⟨#[]⟩, .slice none 0 0, .slice none 0 0, .slice none 0 0, .slice none 0 0, .slice none 0 0] 36 (0, 0))) => noF hz)); (refine wpH_region (fun z => z.heap[w.heap.size + 2]? = some (.cells #[.string ⟨#[]⟩, .slice none 0 0, .slice none 0 0, .slice none 0 0, .slice none 0 0, .slice none 0 0] 36 (0, 0))) (by kernel_rfl) ?_); (have HZ0 := Lib.hid (HN9.out.below (Below.refl _ _).drew)); (generalize w9.drew = ZZ at *); (have hS := HZ0.out.no)
                (refine tkW 0 (v := ?_) hS ?_ ?_; rotate_left; (focus (intro x hx; have fx := HX.out x hx; go_simp; (try with_reducible rfl); done)); (try simp only [Act.put, lsa, lsz, lss]))
                (refine tkW 1 (v := ?_) hS ?_ ?_; rotate_left; (focus (intro x hx; have fx := HX.out x hx; go_simp; (try with_reducible rfl); done)); (try simp only [Act.put, lsa, lsz, lss]))
                (refine wpAnyH_one 2 (by kernel_rfl) rfl ?_); (intro K' hK'); (go_simp); (refine (rfault_any 7 p (-1) _).mono ?_); (rintro x z1 ⟨rfl, hb1⟩); (have HN1 := Lib.hid (HZ0.out.below hb1)); (clear hb1 hS HZ0); (refine hK'.out _ _ HN1.out.no ?_); (clear hK' K'); (unfold vFlt rflt); ((have r00 := (cell_blk HN1.out.r0 0).trans rfl); (have r01 := (cell_blk HN1.out.r0 1).trans rfl); (have r02 := (cell_blk HN1.out.r0 2).trans rfl); (have r03 := (cell_blk HN1.out.r0 3).trans rfl); (have r04 := (cell_blk HN1.out.r0 4).trans rfl); (have r05 := (cell_blk HN1.out.r0 5).trans rfl); (have z00 := frz_blk HN1.out.r0 0); (have z01 := frz_blk HN1.out.r0 1); (have z02 := frz_blk HN1.out.r0 2); (have z03 := frz_blk HN1.out.r0 3); (have z04 := frz_blk HN1.out.r0 4); (have z05 := frz_blk HN1.out.r0 5); (have r10 := (cell_blk HN1.out.r1 0).trans rfl); (have r11 := (cell_blk HN1.out.r1 1).trans rfl); (have r12 := (cell_blk HN1.out.r1 2).trans rfl); (have r13 := (cell_blk HN1.out.r1 3).trans rfl); (have r14 := (cell_blk HN1.out.r1 4).trans rfl); (have z10 := frz_blk HN1.out.r1 0); (have z11 := frz_blk HN1.out.r1 1); (have z12 := frz_blk HN1.out.r1 2); (have z13 := frz_blk HN1.out.r1 3); (have z14 := frz_blk HN1.out.r1 4)); ((refine wpAnyH_one 3 (by kernel_rfl) rfl ?_; intro K' hK'; go_simp; refine hK'.out _ _ (HN1.out.setU).no ?_; clear hK' K')); ((refine wpAnyH_one 4 (by kernel_rfl) rfl ?_; intro K' hK'; go_simp; refine hK'.out _ _ ((HN1.out.setU).setF _ _ _ _ _).no ?_; clear hK' K')); (refine wpAnyH_done (by kernel_rfl) ?_ _); (have HF := Lib.hid ((HN1.out.setU).setF (.int .i64 7) (.int .i64 (-1)) (.int .i64 (-1)) (.string ⟨(p : Bs).toArray⟩) (.int .i64 (-1)))); (go_wp2_with fail); (have q00 := (cell_blk HF.out.r0 0).trans rfl); (have q01 := (cell_blk HF.out.r0 1).trans rfl); (have q02 := (cell_blk HF.out.r0 2).trans rfl); (have q03 := (cell_blk HF.out.r0 3).trans rfl); (have q04 := (cell_blk HF.out.r0 4).trans rfl); (have q05 := (cell_blk HF.out.r0 5).trans rfl); (have q10 := (cell_blk HF.out.r1 0).trans rfl); (have q11 := (cell_blk HF.out.r1 1).trans rfl); (have q12 := (cell_blk HF.out.r1 2).trans rfl); (have q13 := (cell_blk HF.out.r1 3).trans rfl); (have q14 := (cell_blk HF.out.r1 4).trans rfl); (refine bodyPost_ret (v := .tuple #[.agg #[.string ⟨#[]⟩, .slice none 0 0, .slice none 0 0, .slice none 0 0, .slice none 0 0, .slice none 0 0], .agg #[.int .i64 7, .int .i64 (-1), .int .i64 (-1), .string ⟨(p : Bs).toArray⟩, .int .i64 (-1)]]) (by simp [results, Tryz.results14, go_sem, q00, q01, q02, q03, q04, q05, q10, q11, q12, q13, q14]) rfl ?_); (exact ⟨_, by rw [HR2.out]; rfl, by (rw [HR2.out]; exact ⟨none, 0, 0, none, 0, 0, none, 0, 0, none, 0, 0, none, 0, 0, rfl, Sl.nil _ _ _ _ (by decide), Sl.nil _ _ _ _ (by decide), Sl.nil _ _ _ _ (by decide), Sl.nil _ _ _ _ (by decide), Sl.nil _ _ _ _ (by decide)⟩), HF.out.bl⟩)
              | some d =>
                obtain ⟨hp128, hd64⟩ := HFO.out d rfl
                have hli := fun w => rlinesT_any d w (by omega)
                have hlk := fun (h : (linesS d).2 = 0) => lines_ok h hd64
                have hr7 : R = if (linesS d).2 ≠ 0 then scE (linesS d).2 p else scR t p fl (linesS d).1 := HR6.out
                generalize linesS d = ld at *
                obtain ⟨ll, le⟩ := ld
                simp only at hli hlk hr7
                have HLI := Lib.hid hli; have HLK := Lib.hid hlk; have HR7 := Lib.hid hr7
                clear hli hlk hr7 HR6 HFO hd64
                go_wp2_with fail
                refine (HLI.out _).mono ?_
                rintro e wA ⟨A5, n5, c5, rfl, ho5, rfl, hbA⟩
                have HNA := Lib.hid (HN9.out.below hbA); have HRCA := Lib.hid (HRC9.out.below hbA)
                have hs5 : Sl wA (fun k => ¬ scM w g k) A5 ll.length c5 ll := (ho5.sl (by decide)).wide (fun k _ hk hm => by
                  have h1 := HRC9.out.lt k hm
                  rcases hk with hk | hk
                  · exact hk
                  · have := (ho5.lt k hk).1; omega) (by decide)
                have HS5 := Lib.hid hs5
                clear hs5 ho5 hbA HN9 HRC9 HLI
                by_cases hle : le ≠ 0
                · have hlb : (le != 0) = true := by rw [bne_iff_ne]; exact hle
                  have HR2 := Lib.hid (show R = (unt0, ⟨le, -1, -1, ⟨p, -1⟩⟩) from HR7.out.trans (if_pos hle))
                  clear HR7 HRCA HTOK HLK hle HS5
                  go_upto_region 27 with fail
                  (have HX := Lib.hid (fun (z : World) (hz : z.heap[w.heap.size + 2]? = some (.cells #[.string ⟨#[]⟩, .slice none 0 0, .slice none 0 0, .slice none 0 0, .slice none 0 0, .slice none 0 0] 36 (0, 0))) => noF hz)); (refine wpH_region (fun z => z.heap[w.heap.size + 2]? = some (.cells #[.string ⟨#[]⟩, .slice none 0 0, .slice none 0 0, .slice none 0 0, .slice none 0 0, .slice none 0 0] 36 (0, 0))) (by kernel_rfl) ?_); (have HZ0 := Lib.hid (HNA.out.below (Below.refl _ _).drew)); (generalize wA.drew = ZZ at *); (have hS := HZ0.out.no)
                  (refine tkW 0 (v := ?_) hS ?_ ?_; rotate_left; (focus (intro x hx; have fx := HX.out x hx; go_simp; (try with_reducible rfl); done)); (try simp only [Act.put, lsa, lsz, lss]))
                  (refine tkW 1 (v := ?_) hS ?_ ?_; rotate_left; (focus (intro x hx; have fx := HX.out x hx; go_simp; (try with_reducible rfl); done)); (try simp only [Act.put, lsa, lsz, lss]))
                  (refine tkW 2 (v := ?_) hS ?_ ?_; rotate_left; (focus (intro x hx; have fx := HX.out x hx; go_simp; (try with_reducible rfl); done)); (try simp only [Act.put, lsa, lsz, lss]))
                  (refine wpAnyH_one 3 (by kernel_rfl) rfl ?_); (intro K' hK'); (go_simp); (refine (rfault_any le p (-1) _).mono ?_); (rintro x z1 ⟨rfl, hb1⟩); (have HN1 := Lib.hid (HZ0.out.below hb1)); (clear hb1 hS HZ0); (refine hK'.out _ _ HN1.out.no ?_); (clear hK' K'); (unfold vFlt rflt); ((have r00 := (cell_blk HN1.out.r0 0).trans rfl); (have r01 := (cell_blk HN1.out.r0 1).trans rfl); (have r02 := (cell_blk HN1.out.r0 2).trans rfl); (have r03 := (cell_blk HN1.out.r0 3).trans rfl); (have r04 := (cell_blk HN1.out.r0 4).trans rfl); (have r05 := (cell_blk HN1.out.r0 5).trans rfl); (have z00 := frz_blk HN1.out.r0 0); (have z01 := frz_blk HN1.out.r0 1); (have z02 := frz_blk HN1.out.r0 2); (have z03 := frz_blk HN1.out.r0 3); (have z04 := frz_blk HN1.out.r0 4); (have z05 := frz_blk HN1.out.r0 5); (have r10 := (cell_blk HN1.out.r1 0).trans rfl); (have r11 := (cell_blk HN1.out.r1 1).trans rfl); (have r12 := (cell_blk HN1.out.r1 2).trans rfl); (have r13 := (cell_blk HN1.out.r1 3).trans rfl); (have r14 := (cell_blk HN1.out.r1 4).trans rfl); (have z10 := frz_blk HN1.out.r1 0); (have z11 := frz_blk HN1.out.r1 1); (have z12 := frz_blk HN1.out.r1 2); (have z13 := frz_blk HN1.out.r1 3); (have z14 := frz_blk HN1.out.r1 4)); ((refine wpAnyH_one 4 (by kernel_rfl) rfl ?_; intro K' hK'; go_simp; refine hK'.out _ _ (HN1.out.setU).no ?_; clear hK' K')); ((refine wpAnyH_one 5 (by kernel_rfl) rfl ?_; intro K' hK'; go_simp; refine hK'.out _ _ ((HN1.out.setU).setF _ _ _ _ _).no ?_; clear hK' K')); (refine wpAnyH_done (by kernel_rfl) ?_ _); (have HF := Lib.hid ((HN1.out.setU).setF (.int .i64 le) (.int .i64 (-1)) (.int .i64 (-1)) (.string ⟨(p : Bs).toArray⟩) (.int .i64 (-1)))); (go_wp2_with fail); (have q00 := (cell_blk HF.out.r0 0).trans rfl); (have q01 := (cell_blk HF.out.r0 1).trans rfl); (have q02 := (cell_blk HF.out.r0 2).trans rfl); (have q03 := (cell_blk HF.out.r0 3).trans rfl); (have q04 := (cell_blk HF.out.r0 4).trans rfl); (have q05 := (cell_blk HF.out.r0 5).trans rfl); (have q10 := (cell_blk HF.out.r1 0).trans rfl); (have q11 := (cell_blk HF.out.r1 1).trans rfl); (have q12 := (cell_blk HF.out.r1 2).trans rfl); (have q13 := (cell_blk HF.out.r1 3).trans rfl); (have q14 := (cell_blk HF.out.r1 4).trans rfl); (refine bodyPost_ret (v := .tuple #[.agg #[.string ⟨#[]⟩, .slice none 0 0, .slice none 0 0, .slice none 0 0, .slice none 0 0, .slice none 0 0], .agg #[.int .i64 le, .int .i64 (-1), .int .i64 (-1), .string ⟨(p : Bs).toArray⟩, .int .i64 (-1)]]) (by simp [results, Tryz.results14, go_sem, q00, q01, q02, q03, q04, q05, q10, q11, q12, q13, q14]) rfl ?_); (exact ⟨_, by rw [HR2.out]; rfl, by (rw [HR2.out]; exact ⟨none, 0, 0, none, 0, 0, none, 0, 0, none, 0, 0, none, 0, 0, rfl, Sl.nil _ _ _ _ (by decide), Sl.nil _ _ _ _ (by decide), Sl.nil _ _ _ _ (by decide), Sl.nil _ _ _ _ (by decide), Sl.nil _ _ _ _ (by decide)⟩), HF.out.bl⟩)
                · have le0 : le = 0 := by omega
                  subst le0
                  have hR8 := HR7.out.trans (if_neg hle)
                  have hLK := HLK.out rfl
                  clear HR7 HLK hle
                  unfold scR at hR8
                  have hlf : (fl.foldl rins []).length ≤ 1000 := by have := len_foldR fl []; simp only [List.length_nil] at this; omega
                  have hfile := (rscan_all t w.heap.size HTOK.out 24 (by omega)).2 wA (scM w g) g p (scS (fl.foldl rins [])) (scQ A n c fA fn fc) p A5 ll.length c5 ll HRCA.out ⟨hlf, Nat.zero_le _, Nat.le_refl _, Nat.zero_le _, Nat.zero_le _⟩ (Nat.le_refl _) (Nat.le_refl _) (by omega) HS5.out hLK
                  rw [show (24 : Int) - ((24 : Nat) : Int) = 0 from rfl] at hfile
                  have e0 : rst0 fl = scS (fl.foldl rins []) := rfl
                  rw [e0] at hR8
                  generalize rfile (rgroup t 24) p ll (scS (fl.foldl rins [])) = Z at *
                  obtain ⟨⟨fe, fk, fs, ⟨fp, fn9⟩⟩, sZ⟩ := Z
                  unfold vFlt at hfile
                  simp only at hfile hR8
                  have HFI := Lib.hid hfile; have HR8 := Lib.hid hR8
                  clear hfile hR8 e0 hLK hlf HTOK
                  have hza := HNA.out.lt3
                  have hgA : g < wA.heap.size := HRCA.out.lt g (.inl rfl)
                  go_wp2_with fail
                  refine HFI.out.mono ?_
                  rintro e wB ⟨rfl, M', q', hr, ht⟩
                  have HNB := Lib.hid (HNA.out.step hz3 ht)
                  have hM0 := ht.sub w.heap.size (.inr (.inl rfl))
                  have hM1 := ht.sub (w.heap.size + 1) (.inr (.inr rfl))
                  have hq0 : ¬ qO g q' w.heap.size := fun h => (ht.own.1 _ h).elim (fun h => by have := scQ_own h; omega) (fun h => by omega)
                  have hq1 : ¬ qO g q' (w.heap.size + 1) := fun h => (ht.own.1 _ h).elim (fun h => by have := scQ_own h; omega) (fun h => by omega)
                  have HRB := Lib.hid hr
                  clear hr ht HNA HRCA HFI HS5
                  go_upto_region 29 with fail
                  have hbx : Below wB.heap.size wB (wB.alloc (.cells #[.int .i64 fe, .int .i64 fk, .int .i64 fs, .string ⟨fp.toArray⟩, .int .i64 fn9] 40)) := boxed
                  have hfx := blkAt wB (.cells #[.int .i64 fe, .int .i64 fk, .int .i64 fs, .string ⟨fp.toArray⟩, .int .i64 fn9] 40) rfl
                  have hzb := HNB.out.lt3
                  generalize (wB.alloc (.cells #[.int .i64 fe, .int .i64 fk, .int .i64 fs, .string ⟨fp.toArray⟩, .int .i64 fn9] 40)) = wC at *
                  have HNC := Lib.hid (HNB.out.below hbx); have HRC := Lib.hid (HRB.out.below hbx)
                  clear hbx HNB HRB
                  generalize wB.heap.size = gf at *
                  have x0 := (cell_blk hfx 0).trans rfl
                  by_cases hfe : fe ≠ 0
                  · have hfb : (fe != 0) = true := by rw [bne_iff_ne]; exact hfe
                    have HR2 := Lib.hid (show R = (unt0, ⟨fe, fk, fs, ⟨fp, fn9⟩⟩) from HR8.out.trans (if_pos hfe))
                    clear HR8 HRC hfe hM0 hM1 hq0 hq1
                    go_upto_region 30 with fail
                    have HX := Lib.hid (fun (z : World) (hz : z.heap[w.heap.size + 2]? = some (.cells #[.string ⟨#[]⟩, .slice none 0 0, .slice none 0 0, .slice none 0 0, .slice none 0 0, .slice none 0 0] 36 (0, 0)) ∧ z.heap[gf]? = some (.cells #[.int .i64 fe, .int .i64 fk, .int .i64 fs, .string ⟨fp.toArray⟩, .int .i64 fn9] 40 (0, 0))) => And.intro (noF hz.1) (And.intro ((cell_blk hz.2 0).trans rfl) (And.intro ((cell_blk hz.2 1).trans rfl) (And.intro ((cell_blk hz.2 2).trans rfl) (And.intro ((cell_blk hz.2 3).trans rfl) ((cell_blk hz.2 4).trans rfl))))))
                    refine wpH_region (fun z => z.heap[w.heap.size + 2]? = some (.cells #[.string ⟨#[]⟩, .slice none 0 0, .slice none 0 0, .slice none 0 0, .slice none 0 0, .slice none 0 0] 36 (0, 0)) ∧ z.heap[gf]? = some (.cells #[.int .i64 fe, .int .i64 fk, .int .i64 fs, .string ⟨fp.toArray⟩, .int .i64 fn9] 40 (0, 0))) (by kernel_rfl) ?_
                    have HZ0 := Lib.hid (HNC.out.below (Below.refl _ _).drew)
                    have hS := And.intro HZ0.out.no (blkDrw hfx)
                    clear x0 hfx
                    generalize wC.drew = ZZ at *
                    (refine tkW 0 (v := ?_) hS ?_ ?_; rotate_left; (focus (intro x hx; have fx := HX.out x hx; go_simp; (try with_reducible rfl); done)); (try simp only [Act.put, lsa, lsz, lss]))
                    (refine tkW 1 (v := ?_) hS ?_ ?_; rotate_left; (focus (intro x hx; have fx := HX.out x hx; go_simp; (try with_reducible rfl); done)); (try simp only [Act.put, lsa, lsz, lss]))
                    (have r00 := (cell_blk HZ0.out.r0 0).trans rfl); (have r01 := (cell_blk HZ0.out.r0 1).trans rfl); (have r02 := (cell_blk HZ0.out.r0 2).trans rfl); (have r03 := (cell_blk HZ0.out.r0 3).trans rfl); (have r04 := (cell_blk HZ0.out.r0 4).trans rfl); (have r05 := (cell_blk HZ0.out.r0 5).trans rfl); (have z00 := frz_blk HZ0.out.r0 0); (have z01 := frz_blk HZ0.out.r0 1); (have z02 := frz_blk HZ0.out.r0 2); (have z03 := frz_blk HZ0.out.r0 3); (have z04 := frz_blk HZ0.out.r0 4); (have z05 := frz_blk HZ0.out.r0 5); (have r10 := (cell_blk HZ0.out.r1 0).trans rfl); (have r11 := (cell_blk HZ0.out.r1 1).trans rfl); (have r12 := (cell_blk HZ0.out.r1 2).trans rfl); (have r13 := (cell_blk HZ0.out.r1 3).trans rfl); (have r14 := (cell_blk HZ0.out.r1 4).trans rfl); (have z10 := frz_blk HZ0.out.r1 0); (have z11 := frz_blk HZ0.out.r1 1); (have z12 := frz_blk HZ0.out.r1 2); (have z13 := frz_blk HZ0.out.r1 3); (have z14 := frz_blk HZ0.out.r1 4)
                    (refine wpAnyH_one 2 (by kernel_rfl) rfl ?_; intro K' hK'; go_simp; refine hK'.out _ _ (And.intro (HZ0.out.setU).no ((set6_other _ _ _ _ _ _ _ _ (by omega)).trans hS.2)) ?_; clear hK' K')
                    (refine wpAnyH_one 3 (by kernel_rfl) rfl ?_; intro K' hK'; go_simp; refine hK'.out _ _ (And.intro ((HZ0.out.setU).setF _ _ _ _ _).no ((set5_other _ 0 1 2 3 4 _ _ _ _ _ _ (by omega)).trans ((set6_other _ _ _ _ _ _ _ _ (by omega)).trans hS.2))) ?_; clear hK' K')
                    refine wpAnyH_done (by kernel_rfl) ?_ _
                    have HF := Lib.hid ((HZ0.out.setU).setF (.int .i64 fe) (.int .i64 fk) (.int .i64 fs) (.string ⟨fp.toArray⟩) (.int .i64 fn9))
                    (go_wp2_with fail); (have q00 := (cell_blk HF.out.r0 0).trans rfl); (have q01 := (cell_blk HF.out.r0 1).trans rfl); (have q02 := (cell_blk HF.out.r0 2).trans rfl); (have q03 := (cell_blk HF.out.r0 3).trans rfl); (have q04 := (cell_blk HF.out.r0 4).trans rfl); (have q05 := (cell_blk HF.out.r0 5).trans rfl); (have q10 := (cell_blk HF.out.r1 0).trans rfl); (have q11 := (cell_blk HF.out.r1 1).trans rfl); (have q12 := (cell_blk HF.out.r1 2).trans rfl); (have q13 := (cell_blk HF.out.r1 3).trans rfl); (have q14 := (cell_blk HF.out.r1 4).trans rfl); (refine bodyPost_ret (v := .tuple #[.agg #[.string ⟨#[]⟩, .slice none 0 0, .slice none 0 0, .slice none 0 0, .slice none 0 0, .slice none 0 0], .agg #[.int .i64 fe, .int .i64 fk, .int .i64 fs, .string ⟨fp.toArray⟩, .int .i64 fn9]]) (by simp [results, Tryz.results14, go_sem, q00, q01, q02, q03, q04, q05, q10, q11, q12, q13, q14]) rfl ?_); (exact ⟨_, by rw [HR2.out]; rfl, by (rw [HR2.out]; exact ⟨none, 0, 0, none, 0, 0, none, 0, 0, none, 0, 0, none, 0, 0, rfl, Sl.nil _ _ _ _ (by decide), Sl.nil _ _ _ _ (by decide), Sl.nil _ _ _ _ (by decide), Sl.nil _ _ _ _ (by decide), Sl.nil _ _ _ _ (by decide)⟩), HF.out.bl⟩)
                  · have fe0 : fe = 0 := by omega
                    subst fe0
                    have HR2 := Lib.hid (show R = (runt p sZ, flt0) from HR8.out.trans (if_neg hfe))
                    have HNR := Lib.hid HNC.out.toResW
                    have hcc := HRC.out.cells
                    unfold rcC at hcc
                    have u1 := (cell_blk hcc 1).trans rfl
                    have u2 := (cell_blk hcc 2).trans rfl
                    have u3 := (cell_blk hcc 3).trans rfl
                    have u4 := (cell_blk hcc 4).trans rfl
                    have u5 := (cell_blk hcc 5).trans rfl
                    have u6 := (cell_blk hcc 6).trans rfl
                    have hr7 := (HRC.out.six hM0 hq0 (.string ⟨p.toArray⟩) (.slice q'.fA q'.fn q'.fc) (.slice q'.mA q'.mn q'.mc) (.slice q'.iA sZ.items.length q'.ic) (.slice q'.hA q'.hn q'.hc) (.slice q'.lA q'.ln q'.lc)).five hM1 hq1 (.int .i64 0) (.int .i64 0) (.int .i64 0) (.string ⟨#[]⟩) (.int .i64 0)
                    have HR7 := Lib.hid hr7
                    clear hcc hr7 HRC HR8 HNC hfe hM0 hM1 hq0 hq1 hfx
                    (have r00 := (cell_blk HNR.out.r0 0).trans rfl); (have r01 := (cell_blk HNR.out.r0 1).trans rfl); (have r02 := (cell_blk HNR.out.r0 2).trans rfl); (have r03 := (cell_blk HNR.out.r0 3).trans rfl); (have r04 := (cell_blk HNR.out.r0 4).trans rfl); (have r05 := (cell_blk HNR.out.r0 5).trans rfl); (have z00 := frz_blk HNR.out.r0 0); (have z01 := frz_blk HNR.out.r0 1); (have z02 := frz_blk HNR.out.r0 2); (have z03 := frz_blk HNR.out.r0 3); (have z04 := frz_blk HNR.out.r0 4); (have z05 := frz_blk HNR.out.r0 5); (have r10 := (cell_blk HNR.out.r1 0).trans rfl); (have r11 := (cell_blk HNR.out.r1 1).trans rfl); (have r12 := (cell_blk HNR.out.r1 2).trans rfl); (have r13 := (cell_blk HNR.out.r1 3).trans rfl); (have r14 := (cell_blk HNR.out.r1 4).trans rfl); (have z10 := frz_blk HNR.out.r1 0); (have z11 := frz_blk HNR.out.r1 1); (have z12 := frz_blk HNR.out.r1 2); (have z13 := frz_blk HNR.out.r1 3); (have z14 := frz_blk HNR.out.r1 4)
                    go_wp2_with fail
                    (obtain ⟨hA, hB, hC⟩ := ResW.set HNR.out (.string ⟨p.toArray⟩) (.slice q'.fA q'.fn q'.fc) (.slice q'.mA q'.mn q'.mc) (.slice q'.iA sZ.items.length q'.ic) (.slice q'.hA q'.hn q'.hc) (.slice q'.lA q'.ln q'.lc) (.int .i64 0) (.int .i64 0) (.int .i64 0) (.string ⟨#[]⟩) (.int .i64 0)); (have q00 := (cell_blk hA 0).trans rfl); (have q01 := (cell_blk hA 1).trans rfl); (have q02 := (cell_blk hA 2).trans rfl); (have q03 := (cell_blk hA 3).trans rfl); (have q04 := (cell_blk hA 4).trans rfl); (have q05 := (cell_blk hA 5).trans rfl); (have q10 := (cell_blk hB 0).trans rfl); (have q11 := (cell_blk hB 1).trans rfl); (have q12 := (cell_blk hB 2).trans rfl); (have q13 := (cell_blk hB 3).trans rfl); (have q14 := (cell_blk hB 4).trans rfl)
                    refine bodyPost_ret (v := .tuple #[.agg #[.string ⟨p.toArray⟩, .slice q'.fA q'.fn q'.fc, .slice q'.mA q'.mn q'.mc, .slice q'.iA sZ.items.length q'.ic, .slice q'.hA q'.hn q'.hc, .slice q'.lA q'.ln q'.lc], .agg #[.int .i64 0, .int .i64 0, .int .i64 0, .string ⟨#[]⟩, .int .i64 0]]) (by simp [results, Tryz.results14, go_sem, q00, q01, q02, q03, q04, q05, q10, q11, q12, q13, q14]) rfl ?_
                    exact ⟨_, by rw [HR2.out]; rfl, by rw [HR2.out]; exact ⟨_, _, _, _, _, _, _, _, _, _, _, _, _, _, _, rfl, HR7.out.flags.wide (fun _ _ _ => trivial) (by decide), HR7.out.macs.wide (fun _ _ _ => trivial) (by decide), (HR7.out.items.sl (by decide)).wide (fun _ _ _ => trivial) (by decide), HR7.out.heads.wide (fun _ _ _ => trivial) (by decide), HR7.out.files.wide (fun _ _ _ => trivial) (by decide)⟩, hC⟩
end Go.Proofs.YtpeamehplhpcjaaGreatDoor
