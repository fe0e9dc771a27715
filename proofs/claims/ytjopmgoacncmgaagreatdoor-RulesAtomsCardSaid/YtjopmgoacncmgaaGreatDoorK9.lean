/- Rules: formedRule; safe. -/
import Derived.Test.YtjopmgoacncmgaaGreatDoorK6
import Derived.Test.YtjopmgoacncmgaaGreatDoorK8
set_option linter.unusedVariables false
set_option linter.unusedSimpArgs false
namespace Go.Proofs.YtjopmgoacncmgaaGreatDoor
open Go.RowKit

theorem fRule1_any (l : Ltl) (v : Value) (w : World) (S : Nat → Prop) (hv : VLtl w S v l) (ho : OkL l) (hL : LD w) :
    Calls Tryz.prog 98 #[v] w fun e w' => e = .returned (.bool (!ltlS l)) ∧ Below w.heap.size w w' := by
  obtain ⟨A, n, c, rfl, hs⟩ := hv
  have h := fun w S (hs : Sl w S A n c l.atom.args) hL => formedLiteral_any l A n c w S hs ho hL
  generalize ltlS l = b at *
  have H := Lib.hid h; have HS := Lib.hid hs; have HL := Lib.hid hL; clear h hs hL
  go_enter Tryz.func98, Tryz.ntmps98
  go_wp2_with (first | (go_at_call 99; refine (H.out _ _ (HS.out.alloc _) (HL.out.alloc _)).mono ?_; rintro e w' ⟨rfl, hb⟩))
  go_ret
  exact ⟨rfl, next boxed hb (Nat.le_refl _)⟩

theorem form_atom {a : Atm} (h : atomS a = true) : a.args.length ≤ 6 := by
  unfold atomS at h
  rw [Bool.and_eq_true, Bool.and_eq_true, decide_eq_true_eq] at h
  exact h.1.2
theorem form_ltl {l : Ltl} (h : ltlS l = true) : l.atom.args.length ≤ 6 := by
  unfold ltlS at h
  split at h
  · exact form_atom h
  · simp only [Bool.and_eq_true, beq_iff_eq] at h
    omega
theorem form_cnt (l : List Ltl) (h : l.all ltlS = true) : cntB l ≤ 6 * l.length := by
  induction l with
  | nil => exact Nat.le_refl _
  | cons x r ih =>
    rw [List.all_cons, Bool.and_eq_true] at h
    have := form_ltl h.1
    have := ih h.2
    simp only [cntB, List.length_cons]
    omega

set_option maxRecDepth 100000 in
set_option maxHeartbeats 4000000 in
theorem formedRule_any (r : Rul) (A1 : Option Addr) (n1 c1 : Nat) (A2 : Option Addr) (n2 c2 : Nat) (w : World) (S : Nat → Prop) (h1 : Sl w S A1 n1 c1 r.head.args) (h2 : Sl w S A2 n2 c2 r.body) (ho : OkR r) (hL : LD w) :
    Calls Tryz.prog 50 #[.agg #[.string ⟨r.head.name.toArray⟩, .slice A1 n1 c1, .slice A2 n2 c2]] w fun e w' => e = .returned (.bool (ruleS r)) ∧ Below w.heap.size w w' := by
  obtain ⟨v, hv⟩ : ∃ v, v = ruleS r := ⟨_, rfl⟩
  rw [← hv]
  unfold ruleS at hv
  have hn2 := h2.len
  have hfa := fun w S (h : Sl w S A1 n1 c1 r.head.args) => formedAtom_any r.head A1 n1 c1 w S h ho.1
  have hcl := fun w S (h : Sl w S A2 n2 c2 r.body) (hL : LD w) => conL_any A2 n2 c2 w S r.body h 98 #[] (fun _ _ => by kernel_rfl) (fun l => !ltlS l) (fun x hx w1 hb v hv => by
    have := fRule1_any x v w1 S hv (ho.2 x hx) (hL.below hb)
    simpa using this)
  have hva := fun w S (h1 : Sl w S A1 n1 c1 r.head.args) (h2 : Sl w S A2 n2 c2 r.body) (hb : r.head.args.length + cntB r.body ≤ 1000000) => variables_any r A1 n1 c1 A2 n2 c2 w S h1 h2 hb
  have hbd : atomS r.head = true → n2 ≤ 4 → r.body.all ltlS = true → r.head.args.length + cntB r.body ≤ 1000000 := by
    intro g1 g2 g3
    have := form_atom g1
    have := form_cnt r.body g3
    omega
  have hall : (r.body.any fun l => !ltlS l) = !r.body.all ltlS := by rw [← any_not]; simp
  rw [hall] at hcl
  rw [← hn2] at hv
  generalize atomS r.head = b1 at *
  generalize r.body.all ltlS = b3 at *
  generalize (varsS r).length = vl at *
  have HFA := Lib.hid hfa; have HCL := Lib.hid hcl; have HVA := Lib.hid hva; have HBD := Lib.hid hbd; have HH1 := Lib.hid h1; have HH2 := Lib.hid h2; have Hv := Lib.hid hv; have HL := Lib.hid hL
  clear hfa hcl hva hbd hall h1 h2 hv hn2 ho hL
  go_enter Tryz.func50, Tryz.ntmps50
  go_wp2_with (first | (go_at_call 71; refine (HFA.out _ _ (HH1.out.alloc _)).mono ?_; rintro e w1 ⟨rfl, hb1⟩; have g0 : w1.cell? ⟨w.heap.size, 0, none⟩ = some (.string ⟨r.head.name.toArray⟩) := cell_later hb1 ((cell_blk (blkAt w _ rfl) 0).trans rfl); have g1 : w1.cell? ⟨w.heap.size, 1, none⟩ = some (.slice A1 n1 c1) := cell_later hb1 ((cell_blk (blkAt w _ rfl) 1).trans rfl); have g2 : w1.cell? ⟨w.heap.size, 2, none⟩ = some (.slice A2 n2 c2) := cell_later hb1 ((cell_blk (blkAt w _ rfl) 2).trans rfl)) | (go_at_call 97; refine (HCL.out _ _ ((HH2.out.alloc _).below hb1) ((HL.out.alloc _).below hb1)).mono ?_; rintro e w2 ⟨rfl, hb2⟩; have k0 : w2.cell? ⟨w.heap.size, 0, none⟩ = some (.string ⟨r.head.name.toArray⟩) := cell_later hb2 g0; have k1 : w2.cell? ⟨w.heap.size, 1, none⟩ = some (.slice A1 n1 c1) := cell_later hb2 g1; have k2 : w2.cell? ⟨w.heap.size, 2, none⟩ = some (.slice A2 n2 c2) := cell_later hb2 g2) | (go_at_call 25; refine (HVA.out _ _ (((HH1.out.alloc _).below hb1).below hb2) (((HH2.out.alloc _).below hb1).below hb2) (HBD.out (by simp_all) (by omega) (by simp_all))).mono ?_; rintro e w3 ⟨A, c, rfl, hs3, hb3⟩))
  all_goals (have hb0 : Below w.heap.size w w1 := next boxed hb1 (Nat.le_refl _))
  all_goals (try (have hb20 : Below w.heap.size w w2 := next hb0 hb2 (Nat.le_refl _)))
  all_goals (try (have hb30 : Below w.heap.size w w3 := next hb20 hb3 (Nat.le_refl _)))
  all_goals go_ret
  all_goals (refine ⟨?_, by assumption⟩)
  all_goals (have hv := Hv.out; clear Hv HFA HCL HVA HBD HH1 HH2 HL)
  all_goals (subst hv; first | (have h4 : n2 ≤ 4 := by omega
                                have h6 : ((vl : Int) ≤ 6) ↔ vl ≤ 6 := by omega
                                simp_all; done) | (simp_all; done) | (simp_all; omega))

theorem safe1_any (s : Bs) (p : Nat) (known : List Bs) (A : Option Addr) (n c : Nat) (w : World) (S : Nat → Prop) (hc : w.cell? ⟨p, 0, none⟩ = some (.slice A n c)) (hs : Sl w S A n c known) :
    Calls Tryz.prog 149 (#[.string ⟨s.toArray⟩] ++ #[.pointer (some ⟨p, 0, none⟩)]) w fun e w' => e = .returned (.bool (!known.contains s)) ∧ Below w.heap.size w w' := by
  have h := contains_any A n c w S known s hs
  generalize known.contains s = b at *
  have H := Lib.hid h; clear h hs
  go_enter Tryz.func149, Tryz.ntmps149
  go_wp2_with (first | (go_at_call 66; refine H.out.mono ?_; rintro e w' ⟨rfl, rfl⟩))
  go_ret
  exact ⟨rfl, Below.refl _ _⟩
theorem filter_step (p : Ltl → Bool) (x : Ltl) (l : List Ltl) (acc : List Ltl) : acc ++ (x :: l).filter p = (if p x then acc ++ [x] else acc) ++ l.filter p := by
  rw [List.filter_cons]
  cases h : p x <;> simp
theorem cntB_app (l m : List Ltl) : cntB (l ++ m) = cntB l + cntB m := by
  induction l with
  | nil => simp [cntB]
  | cons x r ih => simp only [List.cons_append, cntB, ih]; omega
theorem cntB_filter (p : Ltl → Bool) (l : List Ltl) : cntB (l.filter p) ≤ cntB l := by
  induction l with
  | nil => exact Nat.le_refl _
  | cons x r ih => rw [List.filter_cons]; split <;> simp only [cntB] <;> omega

set_option maxRecDepth 100000 in
set_option maxHeartbeats 4000000 in
theorem safe_any (r : Rul) (A1 : Option Addr) (n1 c1 : Nat) (A2 : Option Addr) (n2 c2 : Nat) (w : World) (S : Nat → Prop) (h1 : Sl w S A1 n1 c1 r.head.args) (h2 : Sl w S A2 n2 c2 r.body) (hlen : r.head.args.length + cntB r.body ≤ 1000000) (hbl : r.body.length ≤ 1000000) :
    Calls Tryz.prog 106 #[.agg #[.string ⟨r.head.name.toArray⟩, .slice A1 n1 c1, .slice A2 n2 c2]] w fun e w' => e = .returned (.bool (safeS r)) ∧ Below w.heap.size w w' := by
  obtain ⟨v, hv⟩ : ∃ v, v = safeS r := ⟨_, rfl⟩
  rw [← hv]
  have hn2 := h2.len
  subst hn2
  have H1 := Lib.hid (h1.wide (S' := fun b => b < w.heap.size) (fun k hk _ => hk) (by decide)); have H2 := Lib.hid (h2.wide (S' := fun b => b < w.heap.size) (fun k hk _ => hk) (by decide)); clear h1 h2
  have HV := Lib.hid hv; clear hv
  go_enter Tryz.func106, Tryz.ntmps106
  go_wp2_with fail
  have hB0 := blkOld (blkAt w (.cells #[.string ⟨r.head.name.toArray⟩, .slice A1 n1 c1, .slice A2 r.body.length c2] 48) rfl) (.cells #[.string ⟨#[]⟩, .slice none 0 0, .slice none 0 0] 48)
  have hB1 := blkAt (w.alloc (.cells #[.string ⟨r.head.name.toArray⟩, .slice A1 n1 c1, .slice A2 r.body.length c2] 48)) (.cells #[.string ⟨#[]⟩, .slice none 0 0, .slice none 0 0] 48) (k := w.heap.size + 1) (by simp)
  have HB0 := Lib.hid hB0; have HB1 := Lib.hid hB1; clear hB0 hB1
  have HF : Hid (r.body.filter posS = [] ++ (r.body.drop 0).filter posS) := rfl
  go_loopw [11] (fun i wr => ∃ k : Nat, k ≤ r.body.length ∧ i = .int .i64 k ∧ ∃ acc A c, wr.heap[w.heap.size + 1]? = some (.cells #[.string ⟨#[]⟩, .slice none 0 0, .slice A acc.length c] 48 (0, 0)) ∧ wr.heap[w.heap.size]? = some (.cells #[.string ⟨r.head.name.toArray⟩, .slice A1 n1 c1, .slice A2 r.body.length c2] 48 (0, 0)) ∧ Own wr (fun b => b < w.heap.size) (w.heap.size + 2) 54 A c acc ∧ acc.length ≤ k ∧ Below w.heap.size w wr ∧ w.heap.size + 2 ≤ wr.heap.size ∧ Hid (r.body.filter posS = acc ++ (r.body.drop k).filter posS)) (fun i _ => r.body.length - (intOf i).toNat)
  case atStart => exact ⟨0, by omega, rfl, [], none, 0, HB1.out, HB0.out, Own.nil _ _ _ _, Nat.le_refl _, boxed.alloc (by simp) _, by simp, HF⟩
  case round =>
    obtain ⟨k, hk, rfl, acc, A, c, hb1, hb0, hown, hal, hb, hsz, hf⟩ := hrel
    by_cases hlt : k < r.body.length
    · obtain ⟨b, o, rfl, hbn, hbs, A3, n3, c3, h1, h2, h3, h4, hs⟩ := (H2.out.below hb).ltl hlt
      have hd := hf.out
      rw [drop_get hlt, filter_step] at hd
      have hcm := fun w => positive_any r.body[k] A3 n3 c3 w
      generalize r.body[k] = x at *
      generalize posS x = cb at *
      obtain ⟨neg, op, ⟨xnm, xargs⟩⟩ := x
      simp only at h1 h2 h3 h4 hs hd hcm
      have HO := Lib.hid hown; have HD := Lib.hid hd; have HS := Lib.hid hs; have HC := Lib.hid hcm; have HQ1 := Lib.hid hb1; have HQ0 := Lib.hid hb0; clear hown hd hf hs hcm hb1 hb0
      go_wp2_with (first | (go_at_call 147; refine (HC.out _).mono ?_; rintro e w1 ⟨rfl, hb1⟩; have g0 : w1.cell? ⟨wr.heap.size, 0, none⟩ = some (.bool neg) := cell_later hb1 ((cell_blk (blkAt wr _ rfl) 0).trans rfl); have g1 : w1.cell? ⟨wr.heap.size, 1, none⟩ = some (.string ⟨op.toArray⟩) := cell_later hb1 ((cell_blk (blkAt wr _ rfl) 1).trans rfl); have g2 : w1.cell? ⟨wr.heap.size, 2, none⟩ = some (.string ⟨xnm.toArray⟩) := cell_later hb1 ((cell_blk (blkAt wr _ rfl) 2).trans rfl); have g3 : w1.cell? ⟨wr.heap.size, 3, none⟩ = some (.slice A3 n3 c3) := cell_later hb1 ((cell_blk (blkAt wr _ rfl) 3).trans rfl); have g4 : w1.cell? ⟨w.heap.size + 1, 2, none⟩ = some (.slice A acc.length c) := (cell_blk (keptBlk hb1 (blkOld HQ1.out _)) 2).trans rfl) | (at_builtin; refine wpList_app1 rfl _ _ eltLtl rfl (by decide) rfl rfl rfl (((HO.out.alloc _).below hb1).alloc _) rfl [.bool neg, .string ⟨op.toArray⟩, .string ⟨xnm.toArray⟩, .slice A3 n3 c3] (⟨neg, op, ⟨xnm, xargs⟩⟩ : Ltl) (blkAt _ _ (by simp)) rfl ⟨rfl, rfl, rfl, A3, n3, c3, rfl, (((HS.out.alloc _).below hb1).alloc _).wide (fun q _ hq => ⟨hq, HO.out.ne_lt (by omega)⟩) (by decide)⟩ (by omega) (by omega) (by have := hb1.size; simp at this; simp; omega) ?_; intro A' c' w2 hown' hg hat; have y1 := grownBlk hg (blkOld (keptBlk hb1 (blkOld HQ1.out _)) _) (HO.out.ne_lt (by omega)); have y0 := grownBlk hg (blkOld (keptBlk hb1 (blkOld HQ0.out _)) _) (HO.out.ne_lt (by omega)); have z2 := cell_blk y1 2; have f2 := frz_blk y1 2))
      · have hsz1 := hb1.size
        have hsz2 := hg.size
        simp at hsz1 hsz2
        refine ⟨⟨k + 1, by omega, by go_num, _, A', c', by rw [Blk.set w2 y1 2]; simp, (set_other w2 _ _ _ _ (by omega)).trans y0, hown'.keep (fun q _ hq => set_other _ _ _ _ _ (fun e => by rcases hq with hq | hq; omega; have := (hown'.lt q hq).1; omega)), by simp; omega, ?_, by simp [World.setCell]; omega, ?_⟩, by simp [intOf]; omega⟩
        · exact ((((hb.alloc (by omega) _).trans (hb1.mono (by simp; omega))).alloc (by omega) _).grown hg (by simp; omega) (fun q hq => by have := (HO.out.lt q hq).1; omega)).setCell (p := ⟨w.heap.size + 1, 2, none⟩) (by simp) _
        · show _ = _
          rw [HD.out]; simp_all
      · have hsz1 := hb1.size
        simp at hsz1
        refine ⟨⟨k + 1, by omega, by go_num, acc, A, c, keptBlk hb1 (blkOld HQ1.out _), keptBlk hb1 (blkOld HQ0.out _), (HO.out.alloc _).below hb1, by omega, (hb.alloc (by omega) _).trans (hb1.mono (by simp; omega)), by omega, ?_⟩, by simp [intOf]; omega⟩
        show _ = _
        rw [HD.out]; simp_all
    · have hv2 : acc = r.body.filter posS := by rw [hf.out, drop_end hlt]; simp
      have hcn : cntB acc ≤ cntB r.body := by rw [hv2]; exact cntB_filter _ _
      have hvs : varsS ⟨⟨[], []⟩, acc⟩ = boundS r := by unfold varsS boundS; rw [hv2]; rfl
      have hva : ∀ (w : World) (S : Nat → Prop), Sl w S A acc.length c acc → Calls Tryz.prog 25 #[.agg #[.string ⟨#[]⟩, .slice none 0 0, .slice A acc.length c]] w fun e w' => ∃ A c, e = .returned (.slice A (boundS r).length c) ∧ Sl w' (fun b => w.heap.size ≤ b) A (boundS r).length c (boundS r) ∧ Below w.heap.size w w' := fun w S h2 => by
        have := variables_any ⟨⟨[], []⟩, acc⟩ none 0 0 A acc.length c w S (Sl.nil w _ none 0 (by omega)) h2 (by simp; omega)
        rw [hvs] at this
        exact this
      have hvr := fun w S (h1 : Sl w S A1 n1 c1 r.head.args) (h2 : Sl w S A2 r.body.length c2 r.body) => variables_any r A1 n1 c1 A2 r.body.length c2 w S h1 h2 hlen
      have hvv := HV.out
      unfold safeS at hvv
      generalize boundS r = known at *
      generalize varsS r = asked at *
      have hcb := fun (A : Option Addr) (n c : Nat) (w : World) (S : Nat → Prop) (hs : Sl w S A n c asked) (p : Nat) (A2 : Option Addr) (n2 c2 : Nat) (S2 : Nat → Prop) (hc : w.cell? ⟨p, 0, none⟩ = some (.slice A2 n2 c2)) (hk : Sl w S2 A2 n2 c2 known) =>
        conB_any A n c w S asked hs 149 #[.pointer (some ⟨p, 0, none⟩)] (fun _ _ => by kernel_rfl) (fun s => !known.contains s) (fun x hx w1 hb => safe1_any x p known A2 n2 c2 w1 S2 (cell_later hb hc) (hk.below hb))
      have hall : (asked.any fun s => !known.contains s) = !asked.all fun s => known.contains s := by rw [← any_not]; simp
      rw [hall, ← hvv] at hcb
      have e0 := (cell_blk hb1 0).trans rfl
      have e1 := (cell_blk hb1 1).trans rfl
      have e2 := (cell_blk hb1 2).trans rfl
      have HVA := Lib.hid hva; have HVR := Lib.hid hvr; have HCB := Lib.hid hcb; have HO := Lib.hid hown; have HQ0 := Lib.hid hb0
      clear hva hvr hcb hown hb0 hb1 hf hvs hall hvv hv2
      go_wp2_with (first | (go_at_call 25; with_reducible refine (HVA.out _ _ (HO.out.sl (by decide))).mono ?_; rintro e w3 ⟨A5, c5, rfl, hs5, hb5⟩; have k0 : (w3.alloc (.cells #[.slice A5 known.length c5] 42)).cell? ⟨w.heap.size, 0, none⟩ = some (.string ⟨r.head.name.toArray⟩) := (cell_blk (blkOld (keptBlk hb5 HQ0.out) _) 0).trans rfl; have k1 : (w3.alloc (.cells #[.slice A5 known.length c5] 42)).cell? ⟨w.heap.size, 1, none⟩ = some (.slice A1 n1 c1) := (cell_blk (blkOld (keptBlk hb5 HQ0.out) _) 1).trans rfl; have k2 : (w3.alloc (.cells #[.slice A5 known.length c5] 42)).cell? ⟨w.heap.size, 2, none⟩ = some (.slice A2 r.body.length c2) := (cell_blk (blkOld (keptBlk hb5 HQ0.out) _) 2).trans rfl) | (go_at_call 25; with_reducible refine (HVR.out _ _ (((H1.out.below hb).below hb5).alloc _) (((H2.out.below hb).below hb5).alloc _)).mono ?_; rintro e w4 ⟨A6, c6, rfl, hs6, hb6⟩; have q0 : w4.cell? ⟨w3.heap.size, 0, none⟩ = some (.slice A5 known.length c5) := cell_later hb6 ((cell_blk (blkAt w3 _ rfl) 0).trans rfl)) | (go_at_call 148; go_loud (refine (HCB.out _ _ _ _ _ hs6 _ _ _ _ _ q0 ((hs5.alloc _).below hb6)).mono ?_; rintro e w5 ⟨rfl, hb7⟩)))

      go_ret
      have hsz3 := hb5.size
      exact ⟨ret_bool (by simp), ((((hb.trans (hb5.mono hb.size)).alloc (by have := hb.size; omega) _).trans (hb6.mono (by have := hb.size; simp; omega)))).trans (hb7.mono (by have := hb.size; have := hb6.size; simp at this; omega))⟩
end Go.Proofs.YtjopmgoacncmgaaGreatDoor
