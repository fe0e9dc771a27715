/- Query (package licitlaw54): a part of the proofs of its laws; see the law's own text, which comes last in 'order'. No conditions of its own. -/
import Derived.WideKeyEntry
import Derived.Maps.OwnOps
import Derived.Maps.OwnSet
import Derived.Test.YtkjoaodoioicpaaGreatDoorWC03
import Derived.Test.YtkjoaodoioicpaaGreatDoorWC04
set_option linter.unusedVariables false
set_option linter.unusedSimpArgs false
namespace Go.Proofs.YtkjoaodoioicpaaGreatDoor
open Go.RowKit
theorem fRule1_any (l : Ltl) (v : Value) (w : World) (S : Nat → Prop) (hv : VLtl w S v l) (ho : OkL l) (hL : LD w) :
    Calls Tryz.prog 155 #[v] w fun e w' => e = .returned (.bool (!ltlS l)) ∧ Below w.heap.size w w' := by
  obtain ⟨A, n, c, rfl, hs⟩ := hv
  have h := fun w S (hs : Sl w S A n c l.atom.args) hL => formedLiteral_any l A n c w S hs ho hL
  generalize ltlS l = b at *
  have H := Lib.hid h; have HS := Lib.hid hs; have HL := Lib.hid hL; clear h hs hL
  go_enter Tryz.func155, Tryz.ntmps155
  go_wp2_with (first | (go_at_call 156; refine (H.out _ _ (HS.out.alloc _) (HL.out.alloc _)).mono ?_; rintro e w' ⟨rfl, hb⟩))
  go_ret
  exact ⟨rfl, next boxed hb (Nat.le_refl _)⟩
theorem form_atom {a : Atm} (h : atomS a = true) : a.args.length ≤ 6 := by
  unfold atomS at h
  rw [Bool.and_eq_true, Bool.and_eq_true, decide_eq_true_eq] at h
  exact h.1.2
theorem form_ltl {l : Ltl} (h : ltlS l = true) : l.atom.args.length ≤ 6 := by
  unfold ltlS at h
  split at h
  · exact form_atom h
  · simp only [Bool.and_eq_true, beq_iff_eq] at h
    omega
theorem form_cnt (l : List Ltl) (h : l.all ltlS = true) : cntB l ≤ 6 * l.length := by
  induction l with
  | nil => exact Nat.le_refl _
  | cons x r ih =>
    rw [List.all_cons, Bool.and_eq_true] at h
    have := form_ltl h.1
    have := ih h.2
    simp only [cntB, List.length_cons]
    omega
set_option maxRecDepth 100000 in
set_option maxHeartbeats 4000000 in
theorem formedRule_any (r : Rul) (A1 : Option Addr) (n1 c1 : Nat) (A2 : Option Addr) (n2 c2 : Nat) (w : World) (S : Nat → Prop) (h1 : Sl w S A1 n1 c1 r.head.args) (h2 : Sl w S A2 n2 c2 r.body) (ho : OkR r) (hL : LD w) :
    Calls Tryz.prog 136 #[.agg #[.string ⟨r.head.name.toArray⟩, .slice A1 n1 c1, .slice A2 n2 c2]] w fun e w' => e = .returned (.bool (ruleS r)) ∧ Below w.heap.size w w' := by
  obtain ⟨v, hv⟩ : ∃ v, v = ruleS r := ⟨_, rfl⟩
  rw [← hv]
  unfold ruleS at hv
  have hn2 := h2.len
  have hfa := fun w S (h : Sl w S A1 n1 c1 r.head.args) => formedAtom_any r.head A1 n1 c1 w S h ho.1
  have hcl := fun w S (h : Sl w S A2 n2 c2 r.body) (hL : LD w) => conL_any A2 n2 c2 w S r.body h 155 #[] (fun _ _ => by kernel_rfl) (fun l => !ltlS l) (fun x hx w1 hb v hv => by
    have := fRule1_any x v w1 S hv (ho.2 x hx) (hL.below hb)
    simpa using this)
  have hva := fun w S (h1 : Sl w S A1 n1 c1 r.head.args) (h2 : Sl w S A2 n2 c2 r.body) (hb : r.head.args.length + cntB r.body ≤ 1000000) => variables_any r A1 n1 c1 A2 n2 c2 w S h1 h2 hb
  have hbd : atomS r.head = true → n2 ≤ 4 → r.body.all ltlS = true → r.head.args.length + cntB r.body ≤ 1000000 := by
    intro g1 g2 g3
    have := form_atom g1
    have := form_cnt r.body g3
    omega
  have hall : (r.body.any fun l => !ltlS l) = !r.body.all ltlS := by rw [← any_not]; simp
  rw [hall] at hcl
  rw [← hn2] at hv
  generalize atomS r.head = b1 at *
  generalize r.body.all ltlS = b3 at *
  generalize (varsS r).length = vl at *
  have HFA := Lib.hid hfa; have HCL := Lib.hid hcl; have HVA := Lib.hid hva; have HBD := Lib.hid hbd; have HH1 := Lib.hid h1; have HH2 := Lib.hid h2; have Hv := Lib.hid hv; have HL := Lib.hid hL
  clear hfa hcl hva hbd hall h1 h2 hv hn2 ho hL
  go_enter Tryz.func136, Tryz.ntmps136
  go_wp2_with (first | (go_at_call 108; refine (HFA.out _ _ (HH1.out.alloc _)).mono ?_; rintro e w1 ⟨rfl, hb1⟩; have g0 : w1.cell? ⟨w.heap.size, 0, none⟩ = some (.string ⟨r.head.name.toArray⟩) := cell_later hb1 ((cell_blk (blkAt w _ rfl) 0).trans rfl); have g1 : w1.cell? ⟨w.heap.size, 1, none⟩ = some (.slice A1 n1 c1) := cell_later hb1 ((cell_blk (blkAt w _ rfl) 1).trans rfl); have g2 : w1.cell? ⟨w.heap.size, 2, none⟩ = some (.slice A2 n2 c2) := cell_later hb1 ((cell_blk (blkAt w _ rfl) 2).trans rfl)) | (go_at_call 154; refine (HCL.out _ _ ((HH2.out.alloc _).below hb1) ((HL.out.alloc _).below hb1)).mono ?_; rintro e w2 ⟨rfl, hb2⟩; have k0 : w2.cell? ⟨w.heap.size, 0, none⟩ = some (.string ⟨r.head.name.toArray⟩) := cell_later hb2 g0; have k1 : w2.cell? ⟨w.heap.size, 1, none⟩ = some (.slice A1 n1 c1) := cell_later hb2 g1; have k2 : w2.cell? ⟨w.heap.size, 2, none⟩ = some (.slice A2 n2 c2) := cell_later hb2 g2) | (go_at_call 46; refine (HVA.out _ _ (((HH1.out.alloc _).below hb1).below hb2) (((HH2.out.alloc _).below hb1).below hb2) (HBD.out (by simp_all) (by omega) (by simp_all))).mono ?_; rintro e w3 ⟨A, c, rfl, hs3, hb3⟩))
  all_goals (have hb0 : Below w.heap.size w w1 := next boxed hb1 (Nat.le_refl _))
  all_goals (try (have hb20 : Below w.heap.size w w2 := next hb0 hb2 (Nat.le_refl _)))
  all_goals (try (have hb30 : Below w.heap.size w w3 := next hb20 hb3 (Nat.le_refl _)))
  all_goals go_ret
  all_goals (refine ⟨?_, by assumption⟩)
  all_goals (have hv := Hv.out; clear Hv HFA HCL HVA HBD HH1 HH2 HL)
  all_goals (subst hv; first | (have h4 : n2 ≤ 4 := by omega
                                have h6 : ((vl : Int) ≤ 6) ↔ vl ≤ 6 := by omega
                                simp_all; done) | (simp_all; done) | (simp_all; omega))
theorem safe1_any (s : Bs) (p : Nat) (known : List Bs) (A : Option Addr) (n c : Nat) (w : World) (S : Nat → Prop) (hc : w.cell? ⟨p, 0, none⟩ = some (.slice A n c)) (hs : Sl w S A n c known) :
    Calls Tryz.prog 159 (#[.string ⟨s.toArray⟩] ++ #[.pointer (some ⟨p, 0, none⟩)]) w fun e w' => e = .returned (.bool (!known.contains s)) ∧ Below w.heap.size w w' := by
  have h := contains_any A n c w S known s hs
  generalize known.contains s = b at *
  have H := Lib.hid h; clear h hs
  go_enter Tryz.func159, Tryz.ntmps159
  go_wp2_with (first | (go_at_call 60; refine H.out.mono ?_; rintro e w' ⟨rfl, rfl⟩))
  go_ret
  exact ⟨rfl, Below.refl _ _⟩
theorem filter_step (p : Ltl → Bool) (x : Ltl) (l : List Ltl) (acc : List Ltl) : acc ++ (x :: l).filter p = (if p x then acc ++ [x] else acc) ++ l.filter p := by
  rw [List.filter_cons]
  cases h : p x <;> simp
theorem cntB_filter (p : Ltl → Bool) (l : List Ltl) : cntB (l.filter p) ≤ cntB l := by
  induction l with
  | nil => exact Nat.le_refl _
  | cons x r ih => rw [List.filter_cons]; split <;> simp only [cntB] <;> omega
set_option maxRecDepth 100000 in
set_option maxHeartbeats 4000000 in
theorem safe_any (r : Rul) (A1 : Option Addr) (n1 c1 : Nat) (A2 : Option Addr) (n2 c2 : Nat) (w : World) (S : Nat → Prop) (h1 : Sl w S A1 n1 c1 r.head.args) (h2 : Sl w S A2 n2 c2 r.body) (hlen : r.head.args.length + cntB r.body ≤ 1000000) (hbl : r.body.length ≤ 1000000) :
    Calls Tryz.prog 137 #[.agg #[.string ⟨r.head.name.toArray⟩, .slice A1 n1 c1, .slice A2 n2 c2]] w fun e w' => e = .returned (.bool (safeS r)) ∧ Below w.heap.size w w' := by
  obtain ⟨v, hv⟩ : ∃ v, v = safeS r := ⟨_, rfl⟩
  rw [← hv]
  have hn2 := h2.len
  subst hn2
  have H1 := Lib.hid (h1.wide (S' := fun b => b < w.heap.size) (fun k hk _ => hk) (by decide)); have H2 := Lib.hid (h2.wide (S' := fun b => b < w.heap.size) (fun k hk _ => hk) (by decide)); clear h1 h2
  have HV := Lib.hid hv; clear hv
  go_enter Tryz.func137, Tryz.ntmps137
  go_wp2_with fail
  have hB0 := blkOld (blkAt w (.cells #[.string ⟨r.head.name.toArray⟩, .slice A1 n1 c1, .slice A2 r.body.length c2] 34) rfl) (.cells #[.string ⟨#[]⟩, .slice none 0 0, .slice none 0 0] 34)
  have hB1 := blkAt (w.alloc (.cells #[.string ⟨r.head.name.toArray⟩, .slice A1 n1 c1, .slice A2 r.body.length c2] 34)) (.cells #[.string ⟨#[]⟩, .slice none 0 0, .slice none 0 0] 34) (k := w.heap.size + 1) (by simp)
  have HB0 := Lib.hid hB0; have HB1 := Lib.hid hB1; clear hB0 hB1
  have HF : Hid (r.body.filter posS = [] ++ (r.body.drop 0).filter posS) := rfl
  go_loopw [11] (fun i wr => ∃ k : Nat, k ≤ r.body.length ∧ i = .int .i64 k ∧ ∃ acc A c, wr.heap[w.heap.size + 1]? = some (.cells #[.string ⟨#[]⟩, .slice none 0 0, .slice A acc.length c] 34 (0, 0)) ∧ wr.heap[w.heap.size]? = some (.cells #[.string ⟨r.head.name.toArray⟩, .slice A1 n1 c1, .slice A2 r.body.length c2] 34 (0, 0)) ∧ Own wr (fun b => b < w.heap.size) (w.heap.size + 2) 60 A c acc ∧ acc.length ≤ k ∧ Below w.heap.size w wr ∧ w.heap.size + 2 ≤ wr.heap.size ∧ Hid (r.body.filter posS = acc ++ (r.body.drop k).filter posS)) (fun i _ => r.body.length - (intOf i).toNat)
  case atStart => exact ⟨0, by omega, rfl, [], none, 0, HB1.out, HB0.out, Own.nil _ _ _ _, Nat.le_refl _, boxed.alloc (by simp) _, by simp, HF⟩
  case round =>
    obtain ⟨k, hk, rfl, acc, A, c, hb1, hb0, hown, hal, hb, hsz, hf⟩ := hrel
    by_cases hlt : k < r.body.length
    · obtain ⟨b, o, rfl, hbn, hbs, A3, n3, c3, h1, h2, h3, h4, hs⟩ := (H2.out.below hb).ltl hlt
      have hd := hf.out
      rw [drop_get hlt, filter_step] at hd
      have hcm := fun w => positive_any r.body[k] A3 n3 c3 w
      generalize r.body[k] = x at *
      generalize posS x = cb at *
      obtain ⟨neg, op, ⟨xnm, xargs⟩⟩ := x
      simp only at h1 h2 h3 h4 hs hd hcm
      have HO := Lib.hid hown; have HD := Lib.hid hd; have HS := Lib.hid hs; have HC := Lib.hid hcm; have HQ1 := Lib.hid hb1; have HQ0 := Lib.hid hb0; clear hown hd hf hs hcm hb1 hb0
      go_wp2_with (first | (go_at_call 157; refine (HC.out _).mono ?_; rintro e w1 ⟨rfl, hb1⟩; have g0 : w1.cell? ⟨wr.heap.size, 0, none⟩ = some (.bool neg) := cell_later hb1 ((cell_blk (blkAt wr _ rfl) 0).trans rfl); have g1 : w1.cell? ⟨wr.heap.size, 1, none⟩ = some (.string ⟨op.toArray⟩) := cell_later hb1 ((cell_blk (blkAt wr _ rfl) 1).trans rfl); have g2 : w1.cell? ⟨wr.heap.size, 2, none⟩ = some (.string ⟨xnm.toArray⟩) := cell_later hb1 ((cell_blk (blkAt wr _ rfl) 2).trans rfl); have g3 : w1.cell? ⟨wr.heap.size, 3, none⟩ = some (.slice A3 n3 c3) := cell_later hb1 ((cell_blk (blkAt wr _ rfl) 3).trans rfl); have g4 : w1.cell? ⟨w.heap.size + 1, 2, none⟩ = some (.slice A acc.length c) := (cell_blk (keptBlk hb1 (blkOld HQ1.out _)) 2).trans rfl) | (at_builtin; refine wpList_app1 rfl _ _ eltLtl rfl (by decide) rfl rfl rfl (((HO.out.alloc _).below hb1).alloc _) rfl [.bool neg, .string ⟨op.toArray⟩, .string ⟨xnm.toArray⟩, .slice A3 n3 c3] (⟨neg, op, ⟨xnm, xargs⟩⟩ : Ltl) (blkAt _ _ (by simp)) rfl ⟨rfl, rfl, rfl, A3, n3, c3, rfl, (((HS.out.alloc _).below hb1).alloc _).wide (fun q _ hq => ⟨hq, HO.out.ne_lt (by omega)⟩) (by decide)⟩ (by omega) (by omega) (by have := hb1.size; simp at this; simp; omega) ?_; intro A' c' w2 hown' hg hat; have y1 := grownBlk hg (blkOld (keptBlk hb1 (blkOld HQ1.out _)) _) (HO.out.ne_lt (by omega)); have y0 := grownBlk hg (blkOld (keptBlk hb1 (blkOld HQ0.out _)) _) (HO.out.ne_lt (by omega)); have z2 := cell_blk y1 2; have f2 := frz_blk y1 2))
      · have hsz1 := hb1.size
        have hsz2 := hg.size
        simp at hsz1 hsz2
        refine ⟨⟨k + 1, by omega, by go_num, _, A', c', by rw [Blk.set w2 y1 2]; simp, (set_other w2 _ _ _ _ (by omega)).trans y0, hown'.keep (fun q _ hq => set_other _ _ _ _ _ (fun e => by rcases hq with hq | hq; omega; have := (hown'.lt q hq).1; omega)), by simp; omega, ?_, by simp [World.setCell]; omega, ?_⟩, by simp [intOf]; omega⟩
        · exact ((((hb.alloc (by omega) _).trans (hb1.mono (by simp; omega))).alloc (by omega) _).grown hg (by simp; omega) (fun q hq => by have := (HO.out.lt q hq).1; omega)).setCell (p := ⟨w.heap.size + 1, 2, none⟩) (by simp) _
        · show _ = _
          rw [HD.out]; simp_all
      · have hsz1 := hb1.size
        simp at hsz1
        refine ⟨⟨k + 1, by omega, by go_num, acc, A, c, keptBlk hb1 (blkOld HQ1.out _), keptBlk hb1 (blkOld HQ0.out _), (HO.out.alloc _).below hb1, by omega, (hb.alloc (by omega) _).trans (hb1.mono (by simp; omega)), by omega, ?_⟩, by simp [intOf]; omega⟩
        show _ = _
        rw [HD.out]; simp_all
    · have hv2 : acc = r.body.filter posS := by rw [hf.out, drop_end hlt]; simp
      have hcn : cntB acc ≤ cntB r.body := by rw [hv2]; exact cntB_filter _ _
      have hvs : varsS ⟨⟨[], []⟩, acc⟩ = boundS r := by unfold varsS boundS; rw [hv2]; rfl
      have hva : ∀ (w : World) (S : Nat → Prop), Sl w S A acc.length c acc → Calls Tryz.prog 46 #[.agg #[.string ⟨#[]⟩, .slice none 0 0, .slice A acc.length c]] w fun e w' => ∃ A c, e = .returned (.slice A (boundS r).length c) ∧ Sl w' (fun b => w.heap.size ≤ b) A (boundS r).length c (boundS r) ∧ Below w.heap.size w w' := fun w S h2 => by
        have := variables_any ⟨⟨[], []⟩, acc⟩ none 0 0 A acc.length c w S (Sl.nil w _ none 0 (by omega)) h2 (by simp; omega)
        rw [hvs] at this
        exact this
      have hvr := fun w S (h1 : Sl w S A1 n1 c1 r.head.args) (h2 : Sl w S A2 r.body.length c2 r.body) => variables_any r A1 n1 c1 A2 r.body.length c2 w S h1 h2 hlen
      have hvv := HV.out
      unfold safeS at hvv
      generalize boundS r = known at *
      generalize varsS r = asked at *
      have hcb := fun (A : Option Addr) (n c : Nat) (w : World) (S : Nat → Prop) (hs : Sl w S A n c asked) (p : Nat) (A2 : Option Addr) (n2 c2 : Nat) (S2 : Nat → Prop) (hc : w.cell? ⟨p, 0, none⟩ = some (.slice A2 n2 c2)) (hk : Sl w S2 A2 n2 c2 known) =>
        conB_any A n c w S asked hs 159 #[.pointer (some ⟨p, 0, none⟩)] (fun _ _ => by kernel_rfl) (fun s => !known.contains s) (fun x hx w1 hb => safe1_any x p known A2 n2 c2 w1 S2 (cell_later hb hc) (hk.below hb))
      have hall : (asked.any fun s => !known.contains s) = !asked.all fun s => known.contains s := by rw [← any_not]; simp
      rw [hall, ← hvv] at hcb
      have e0 := (cell_blk hb1 0).trans rfl
      have e1 := (cell_blk hb1 1).trans rfl
      have e2 := (cell_blk hb1 2).trans rfl
      have HVA := Lib.hid hva; have HVR := Lib.hid hvr; have HCB := Lib.hid hcb; have HO := Lib.hid hown; have HQ0 := Lib.hid hb0
      clear hva hvr hcb hown hb0 hb1 hf hvs hall hvv hv2
      go_wp2_with (first | (go_at_call 46; with_reducible refine (HVA.out _ _ (HO.out.sl (by decide))).mono ?_; rintro e w3 ⟨A5, c5, rfl, hs5, hb5⟩; have k0 : (w3.alloc (.cells #[.slice A5 known.length c5] 71)).cell? ⟨w.heap.size, 0, none⟩ = some (.string ⟨r.head.name.toArray⟩) := (cell_blk (blkOld (keptBlk hb5 HQ0.out) _) 0).trans rfl; have k1 : (w3.alloc (.cells #[.slice A5 known.length c5] 71)).cell? ⟨w.heap.size, 1, none⟩ = some (.slice A1 n1 c1) := (cell_blk (blkOld (keptBlk hb5 HQ0.out) _) 1).trans rfl; have k2 : (w3.alloc (.cells #[.slice A5 known.length c5] 71)).cell? ⟨w.heap.size, 2, none⟩ = some (.slice A2 r.body.length c2) := (cell_blk (blkOld (keptBlk hb5 HQ0.out) _) 2).trans rfl) | (go_at_call 46; with_reducible refine (HVR.out _ _ (((H1.out.below hb).below hb5).alloc _) (((H2.out.below hb).below hb5).alloc _)).mono ?_; rintro e w4 ⟨A6, c6, rfl, hs6, hb6⟩; have q0 : w4.cell? ⟨w3.heap.size, 0, none⟩ = some (.slice A5 known.length c5) := cell_later hb6 ((cell_blk (blkAt w3 _ rfl) 0).trans rfl)) | (go_at_call 158; go_loud (refine (HCB.out _ _ _ _ _ hs6 _ _ _ _ _ q0 ((hs5.alloc _).below hb6)).mono ?_; rintro e w5 ⟨rfl, hb7⟩)))

      go_ret
      have hsz3 := hb5.size
      exact ⟨ret_bool (by simp), ((((hb.trans (hb5.mono hb.size)).alloc (by have := hb.size; omega) _).trans (hb6.mono (by have := hb.size; simp; omega)))).trans (hb7.mono (by have := hb.size; have := hb6.size; simp at this; omega))⟩
end Go.Proofs.YtkjoaodoioicpaaGreatDoor
namespace Go.Proofs.YtkjoaodoioicpaaGreatDoor
open Go.RowKit Go.ChangeShapes Go.WideShapes Go.MapKept Go.ChangeMaps
open Go.WideMaps (KeyLaw)
section plain
variable {κ ν : Type} [DecidableEq κ]
def getM (m : List (κ × ν)) (k : κ) : Option ν := (m.find? fun p => p.1 == k).map (·.2)
def setM : List (κ × ν) → κ → ν → List (κ × ν)
  | [], k, v => [(k, v)]
  | p :: r, k, v => if p.1 = k then (k, v) :: r else p :: setM r k v
theorem getM_nil (k : κ) : getM ([] : List (κ × ν)) k = none := rfl
theorem getM_cons (p : κ × ν) (r : List (κ × ν)) (k : κ) : getM (p :: r) k = if p.1 = k then some p.2 else getM r k := by
  unfold getM
  rw [List.find?_cons]
  by_cases h : p.1 = k
  · simp [h]
  · have : (p.1 == k) = false := by simpa using h
    rw [this, if_neg h]
theorem getM_set (m : List (κ × ν)) (k t : κ) (v : ν) : getM (setM m k v) t = if k = t then some v else getM m t := by
  induction m with
  | nil => rw [setM, getM_cons, getM_nil]
  | cons p r ih =>
    rw [setM]
    by_cases h : p.1 = k
    · rw [if_pos h, getM_cons, getM_cons, h]
      by_cases hk : k = t
      · simp [hk]
      · simp [hk]
    · rw [if_neg h, getM_cons, ih, getM_cons]
      by_cases hp : p.1 = t
      · have : ¬ k = t := fun e => h (hp.trans e.symm)
        simp [hp, this]
      · simp [hp]
theorem getM_none {m : List (κ × ν)} {k : κ} (h : ∀ p ∈ m, p.1 ≠ k) : getM m k = none := by
  induction m with
  | nil => rfl
  | cons p r ih => rw [getM_cons, if_neg (h p List.mem_cons_self), ih fun q hq => h q (List.mem_cons_of_mem _ hq)]
theorem setM_none {m : List (κ × ν)} {k : κ} (v : ν) (h : ∀ p ∈ m, p.1 ≠ k) : setM m k v = m ++ [(k, v)] := by
  induction m with
  | nil => rfl
  | cons p r ih => rw [setM, if_neg (h p List.mem_cons_self), ih fun q hq => h q (List.mem_cons_of_mem _ hq)]; rfl
theorem getM_at {m : List (κ × ν)} (hn : (m.map (·.1)).Nodup) {j : Nat} {k : κ} {v : ν} (h : m[j]? = some (k, v)) : getM m k = some v := by
  induction m generalizing j with
  | nil => simp at h
  | cons p r ih =>
    rw [List.map_cons, List.nodup_cons] at hn
    cases j with
    | zero =>
      simp only [List.getElem?_cons_zero, Option.some.injEq] at h
      rw [getM_cons, h, if_pos rfl]
    | succ j =>
      simp only [List.getElem?_cons_succ] at h
      have hm : (k, v) ∈ r := List.mem_of_getElem? h
      rw [getM_cons, if_neg, ih hn.2 h]
      intro e
      exact hn.1 (List.mem_map.2 ⟨_, hm, e.symm⟩)
theorem setM_at {m : List (κ × ν)} (hn : (m.map (·.1)).Nodup) {j : Nat} {k : κ} {v0 : ν} (v : ν) (h : m[j]? = some (k, v0)) : setM m k v = m.set j (k, v) := by
  induction m generalizing j with
  | nil => simp at h
  | cons p r ih =>
    rw [List.map_cons, List.nodup_cons] at hn
    cases j with
    | zero =>
      simp only [List.getElem?_cons_zero, Option.some.injEq] at h
      rw [setM, h, if_pos rfl]
      rfl
    | succ j =>
      simp only [List.getElem?_cons_succ] at h
      have hm : (k, v0) ∈ r := List.mem_of_getElem? h
      rw [setM, if_neg, ih hn.2 h]
      · rfl
      · intro e
        exact hn.1 (List.mem_map.2 ⟨_, hm, e.symm⟩)
theorem getM_mem {m : List (κ × ν)} {k : κ} : (getM m k).isSome = true ↔ k ∈ m.map (·.1) := by
  induction m with
  | nil => simp [getM_nil]
  | cons p r ih =>
    rw [getM_cons, List.map_cons, List.mem_cons]
    by_cases h : p.1 = k
    · simp [h]
    · rw [if_neg h, ih]
      constructor
      · exact .inr
      · rintro (e | e)
        · exact absurd e.symm h
        · exact e
end plain
structure KeyT (κ : Type) where
  K : TypeId
  kv : κ → Value
  law : KeyLaw Tryz.prog K
  ok : κ → Prop
  lit : ∀ k, ok k → ∃ l, keyOf Tryz.prog K (kv k) = some l
  inj : ∀ a b, kv a = kv b → a = b
section
variable {κ : Type} (T : KeyT κ)
def MapV (w : World) (b : Nat) (m : List (κ × Value)) : Prop :=
  ∃ es clock, w.heap[b]? = some (.map es clock) ∧ Stamped es clock ∧ es.toList.map (fun e => (e.key, e.val)) = m.map (fun p => (T.kv p.1, p.2)) ∧ ∀ p ∈ m, T.ok p.1
variable {T}
theorem MapV.lt {w : World} {b : Nat} {m : List (κ × Value)} (h : MapV T w b m) : b < w.heap.size := by
  obtain ⟨es, clock, hb, _⟩ := h
  exact (Array.getElem?_eq_some_iff.1 hb).1
theorem MapV.keep {w w' : World} {b : Nat} {m : List (κ × Value)} (h : MapV T w b m) (hk : w'.heap[b]? = w.heap[b]?) : MapV T w' b m := by
  obtain ⟨es, clock, hb, r⟩ := h
  exact ⟨es, clock, hk.trans hb, r⟩
theorem MapV.below {w w' : World} {b : Nat} {m : List (κ × Value)} (h : MapV T w b m) (hb : Below w.heap.size w w') : MapV T w' b m := h.keep (hb.block b h.lt)
theorem MapV.alloc {w : World} {b : Nat} {m : List (κ × Value)} (h : MapV T w b m) (o : Obj) : MapV T (w.alloc o) b m := h.below ((Below.refl _ _).alloc (Nat.le_refl _) _)
theorem MapV.made (w : World) : MapV T (w.alloc (.map #[] 0)) w.heap.size [] := ⟨#[], 0, blkAt w _ rfl, stamped_empty 0, rfl, fun p hp => by cases hp⟩
theorem MapV.nodup {w : World} {b : Nat} {m : List (κ × Value)} (h : MapV T w b m) : (m.map (·.1)).Nodup := by
  obtain ⟨es, clock, hb, hs, hm, _⟩ := h
  have h1 : (es.toList.map (·.key)) = m.map fun p => T.kv p.1 := by
    have := congrArg (List.map Prod.fst) hm
    simpa [List.map_map, Function.comp_def] using this
  have h2 := hs.2.2
  rw [h1] at h2
  unfold List.Nodup at *
  rw [List.pairwise_map] at h2 ⊢
  exact h2.imp fun hne e => hne (by rw [e])
section
variable {w : World} {b : Nat} {m : List (κ × Value)} {t e : TypeId}
theorem MapV.find (h : MapV T w b m) {k : κ} (hk : T.ok k) : ∃ es clock, w.heap[b]? = some (.map es clock) ∧ Stamped es clock ∧ es.toList.map (fun e => (e.key, e.val)) = m.map (fun p => (T.kv p.1, p.2)) ∧ (∀ p ∈ m, T.ok p.1) ∧
    (((Instr.findKey T.K (T.kv k) es.toList).run Tryz.prog w = .ok none w ∧ (∀ x ∈ es.toList, x.key ≠ T.kv k) ∧ ∀ p ∈ m, p.1 ≠ k) ∨
     ∃ j e0, (Instr.findKey T.K (T.kv k) es.toList).run Tryz.prog w = .ok (some (j, e0.val)) w ∧ es.toList[j]? = some e0 ∧ e0.key = T.kv k ∧ m[j]? = some (k, e0.val)) := by
  obtain ⟨es, clock, hb, hs, hm, hok⟩ := h
  refine ⟨es, clock, hb, hs, hm, hok, ?_⟩
  obtain ⟨l, hl⟩ := T.lit k hk
  have hkeys : ∀ x ∈ es.toList, ∃ l, keyOf Tryz.prog T.K x.key = some l := by
    intro x hx
    have : (x.key, x.val) ∈ m.map (fun p => (T.kv p.1, p.2)) := by rw [← hm]; exact List.mem_map.2 ⟨x, hx, rfl⟩
    obtain ⟨p, hp, he⟩ := List.mem_map.1 this
    injection he with he _
    rw [← he]
    exact T.lit p.1 (hok p hp)
  rcases T.law.find w hl es.toList hkeys with ⟨h1, h2⟩ | ⟨j, e0, h1, h2, h3⟩
  · left
    refine ⟨h1, h2, fun p hp e => ?_⟩
    have : (T.kv p.1, p.2) ∈ es.toList.map (fun e => (e.key, e.val)) := by rw [hm]; exact List.mem_map.2 ⟨p, hp, rfl⟩
    obtain ⟨x, hx, he⟩ := List.mem_map.1 this
    injection he with he _
    exact h2 x hx (by rw [he, e])
  · right
    refine ⟨j, e0, h1, h2, h3, ?_⟩
    have hj := congrArg (fun l => l[j]?) hm
    simp only [List.getElem?_map, h2, Option.map_some] at hj
    cases hmj : m[j]? with
    | none => rw [hmj] at hj; cases hj
    | some p =>
      rw [hmj] at hj
      simp only [Option.map_some, Option.some.injEq, Prod.mk.injEq] at hj
      obtain ⟨pk, pv⟩ := p
      have : k = pk := T.inj _ _ (by rw [← h3]; exact hj.1)
      rw [this, hj.2]
theorem MapV.look [DecidableEq κ] (h : MapV T w b m) (ht : Tryz.prog.underlying t = some (.map T.K e)) {z : Value} (hz : (zeroValue e).run Tryz.prog w = .ok z w) {k : κ} (hk : T.ok k) (c : Bool) :
    (Instr.lookup t (.map (some b)) (T.kv k) c).run Tryz.prog w = .ok (if c then .tuple #[(getM m k).getD z, .bool (getM m k).isSome] else (getM m k).getD z) w := by
  obtain ⟨l, hl⟩ := T.lit k hk
  have hnd := h.nodup
  obtain ⟨es, clock, hb, hs, hm, hok, h1 | h1⟩ := h.find hk
  · obtain ⟨h1, h2, h3⟩ := h1
    rw [getM_none h3]
    simp [Instr.lookup, Go.run_underlying ht, MapKept.run_getObj_map hb, T.law.check w _ hl, h1, hz, Result.andThen]
  · obtain ⟨j, e0, h1, h2, h3, h4⟩ := h1
    rw [getM_at hnd h4]
    simp [Instr.lookup, Go.run_underlying ht, MapKept.run_getObj_map hb, T.law.check w _ hl, h1, Result.andThen]
theorem MapV.update [DecidableEq κ] (h : MapV T w b m) (ht : Tryz.prog.underlying t = some (.map T.K e)) {k : κ} (hk : T.ok k) (v : Value) :
    ∃ w', (Instr.mapUpdate t (.map (some b)) (T.kv k) v).run Tryz.prog w = .ok () w' ∧ MapV T w' b (setM m k v) ∧ w.grownBy w' (some b) := by
  obtain ⟨l, hl⟩ := T.lit k hk
  have hnd := h.nodup
  have hg : ∀ (es clock es' clock'), w.heap[b]? = some (.map es clock) → w.grownBy (setBlock w b (.map es' clock')) (some b) := fun es clock es' clock' hb =>
    ⟨rfl, rfl, rfl, by simp [setBlock], fun i _ hi => heap_setBlock_other hb _ (fun e => hi (by rw [e]))⟩
  obtain ⟨es, clock, hb, hs, hm, hok, h1 | h1⟩ := h.find hk
  · obtain ⟨h1, h2, h3⟩ := h1
    refine ⟨setBlock w b (.map (es.push ⟨T.kv k, v, clock⟩) (clock + 1)), ?_, ?_, hg _ _ _ _ hb⟩
    · simp [Instr.mapUpdate, Go.run_underlying ht, MapKept.run_getObj_map hb, T.law.check w false hl, h1, MapKept.run_setObj_map _ hb, Result.andThen, setBlock]
    · refine ⟨_, _, heap_setBlock_same hb _, stamped_push hs h2, ?_, ?_⟩
      · rw [setM_none v h3, Array.toList_push, List.map_append, List.map_append, hm]; rfl
      · rw [setM_none v h3]
        intro p hp
        rcases List.mem_append.1 hp with hp | hp
        · exact hok p hp
        · rw [List.mem_singleton.1 hp]; exact hk
  · obtain ⟨j, e0, h1, h2, h3, h4⟩ := h1
    have hj : es[j]? = some e0 := by simpa using h2
    refine ⟨setBlock w b (.map (es.modify j (fun e' => { e' with key := T.kv k, val := v })) clock), ?_, ?_, hg _ _ _ _ hb⟩
    · simp [Instr.mapUpdate, Go.run_underlying ht, MapKept.run_getObj_map hb, T.law.check w false hl, h1, hj, h3, T.law.stays w hl, MapKept.run_setObj_map _ hb, Result.andThen, setBlock]
    · refine ⟨_, _, heap_setBlock_same hb _, stamped_modify hs _ _ (fun _ _ => rfl) (fun e' _ he' => by rw [hj] at he'; cases he'; exact h3.symm), ?_, ?_⟩
      · rw [setM_at hnd v h4, Array.toList_modify, Go.ChangeMaps.modify_eq_set _ _ _ _ h2, List.map_set, List.map_set, hm]
      · rw [setM_at hnd v h4]
        intro p hp
        rcases List.mem_or_eq_of_mem_set hp with hp | rfl
        · exact hok p hp
        · exact hk
theorem MapV.entry [DecidableEq κ] (h : MapV T w b m) (ht : Tryz.prog.underlying t = some (.map T.K e)) {z : Value} (hz : ∀ u : World, (zeroValue e).run Tryz.prog u = .ok z u) {k : κ} (hk : T.ok k) :
    ∃ (st : Nat) (w1 : World), (Instr.mapEntry t (.map (some b)) (T.kv k)).run Tryz.prog w = .ok (.tuple #[(getM m k).getD z, goInt st]) w1 ∧ w.grownBy w1 (some b) ∧ MapV T w1 b (setM m k ((getM m k).getD z)) ∧
      ∀ (w2 : World) (v : Value), w2.heap[b]? = w1.heap[b]? → ∃ w3, (Instr.entryStore t (.map (some b)) (goInt st) v).run Tryz.prog w2 = .ok () w3 ∧ MapV T w3 b (setM m k v) ∧ w2.grownBy w3 (some b) := by
  obtain ⟨l, hl⟩ := T.lit k hk
  have hnd := h.nodup
  have hg : ∀ (w : World) (es clock es' clock'), w.heap[b]? = some (.map es clock) → w.grownBy (setBlock w b (.map es' clock')) (some b) := fun w es clock es' clock' hb =>
    ⟨rfl, rfl, rfl, by simp [setBlock], fun i _ hi => heap_setBlock_other hb _ (fun e => hi (by rw [e]))⟩
  obtain ⟨es, clock, hb, hs, hm, hok, h1 | h1⟩ := h.find hk
  · obtain ⟨h1, h2, h3⟩ := h1
    have hmk : ∀ v : Value, ∀ (w2 : World), w2.heap[b]? = some (.map (es.push ⟨T.kv k, v, clock⟩) (clock + 1)) → MapV T w2 b (setM m k v) := by
      intro v w2 hb2
      refine ⟨_, _, hb2, stamped_push hs h2, ?_, ?_⟩
      · rw [setM_none v h3, Array.toList_push, List.map_append, List.map_append, hm]; rfl
      · rw [setM_none v h3]
        intro p hp
        rcases List.mem_append.1 hp with hp | hp
        · exact hok p hp
        · rw [List.mem_singleton.1 hp]; exact hk
    rw [getM_none h3]
    simp only [Option.getD_none]
    refine ⟨clock, setBlock w b (.map (es.push ⟨T.kv k, z, clock⟩) (clock + 1)), ?_, hg _ _ _ _ _ hb, hmk z _ (heap_setBlock_same hb _), fun w2 v hw2 => ?_⟩
    · simp [Instr.mapEntry, Go.run_underlying ht, MapKept.run_getObj_map hb, T.law.check w false hl, h1, hz, MapKept.run_setObj_map _ hb, Result.andThen, setBlock]
    · rw [heap_setBlock_same hb] at hw2
      have hst := (stamped_push (val := z) hs h2)
      have hidx : (es.push ⟨T.kv k, z, clock⟩).findIdx? (fun e => ((e.born : Nat) : Int) == ((clock : Nat) : Int)) = some es.size := by
        rw [WideElems.findIdx_arr]
        have := WideElems.findIdx_born (l := (es.push ⟨T.kv k, z, clock⟩).toList) (j := es.size) (e0 := ⟨T.kv k, z, clock⟩) hst.2.1 (by simp)
        exact this
      have hmod : (es.push ⟨T.kv k, z, clock⟩).modify es.size (fun e => { e with val := v }) = es.push ⟨T.kv k, v, clock⟩ := by
        apply Array.ext'
        rw [Array.toList_modify, Array.toList_push, Array.toList_push, ← Array.length_toList, WideElems.modify_last]
      refine ⟨setBlock w2 b (.map (es.push ⟨T.kv k, v, clock⟩) (clock + 1)), ?_, hmk v _ (heap_setBlock_same hw2 _), hg _ _ _ _ _ hw2⟩
      simp [Instr.entryStore, MapKept.run_getObj_map hw2, asInt, asIntOf, goInt, hidx, hmod, MapKept.run_setObj_map _ hw2, Result.andThen, setBlock]
  · obtain ⟨j, e0, h1, h2, h3, h4⟩ := h1
    have hj : es[j]? = some e0 := by simpa using h2
    have hsame : es.modify j (fun e => { e with key := T.kv k }) = es := by
      apply Array.ext'
      rw [Array.toList_modify, Go.ChangeMaps.modify_eq_set _ _ _ _ h2]
      have : ({ e0 with key := T.kv k } : MapEntry) = e0 := by rw [← h3]
      rw [this]
      exact WideElems.set_self _ _ _ h2
    have hset : setM m k e0.val = m := by
      rw [setM_at hnd e0.val h4]
      exact WideElems.set_self _ _ _ h4
    rw [getM_at hnd h4]
    simp only [Option.getD_some]
    refine ⟨e0.born, setBlock w b (.map es clock), ?_, hg _ _ _ _ _ hb, ?_, fun w2 v hw2 => ?_⟩
    · simp [Instr.mapEntry, Go.run_underlying ht, MapKept.run_getObj_map hb, T.law.check w false hl, h1, hj, h3, T.law.stays w hl, hsame, MapKept.run_setObj_map _ hb, Result.andThen, setBlock]
    · rw [hset]
      exact ⟨es, clock, heap_setBlock_same hb _, hs, hm, hok⟩
    · rw [heap_setBlock_same hb] at hw2
      have hidx : es.findIdx? (fun e => ((e.born : Nat) : Int) == ((e0.born : Nat) : Int)) = some j := by
        rw [WideElems.findIdx_arr]
        exact WideElems.findIdx_born hs.2.1 h2
      refine ⟨setBlock w2 b (.map (es.modify j (fun e' => { e' with val := v })) clock), ?_, ?_, hg _ _ _ _ _ hw2⟩
      · simp [Instr.entryStore, MapKept.run_getObj_map hw2, asInt, asIntOf, goInt, hidx, MapKept.run_setObj_map _ hw2, Result.andThen, setBlock]
      · refine ⟨_, _, heap_setBlock_same hw2 _, stamped_modify hs _ _ (fun _ _ => rfl) (fun e' _ he' => rfl), ?_, ?_⟩
        · rw [setM_at hnd v h4, Array.toList_modify, Go.ChangeMaps.modify_eq_set _ _ _ _ h2, List.map_set, List.map_set, hm, h3]
        · rw [setM_at hnd v h4]
          intro p hp
          rcases List.mem_or_eq_of_mem_set hp with hp | rfl
          · exact hok p hp
          · exact hk
theorem MapV.len (h : MapV T w b m) (ht : Tryz.prog.underlying t = some (.map T.K e)) (ty : TypeId) : (Builtin.len_ #[t] ty #[.map (some b)]).run Tryz.prog w = .ok (.int .i64 m.length) w := by
  obtain ⟨es, clock, hb, hs, hm, _⟩ := h
  have hl : es.size = m.length := by have := congrArg List.length hm; simpa using this
  simp [Builtin.len_, Go.run_underlying ht, MapKept.run_getObj_map hb, goInt, Result.andThen, hl]
end
end
end Go.Proofs.YtkjoaodoioicpaaGreatDoor
