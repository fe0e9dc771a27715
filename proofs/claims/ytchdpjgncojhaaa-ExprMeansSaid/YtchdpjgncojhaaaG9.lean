/- expr.Print. -/
import Derived.Test.YtchdpjgncojhaaaG8
import Derived.Deep.DeepCutAuto
import Derived.Deep.CutBlock
import Derived.Deep.DrawnRows
set_option linter.unusedVariables false
set_option linter.unusedSimpArgs false
namespace Go.Proofs.Ytchdpjgncojhaaa
open Go.RowKit
attribute [local go_sem ↓] Go.wp_at_zero Go.wp_at_succ

theorem lt_alloc (w : World) (o : Obj) : w.heap.size < (w.alloc o).heap.size := by simp
/-- What holds at the head of Print's loop. -/
def PrRel (w : World) (f : List Opn) (u : List Txt) (k : Nat) (A : Option Addr) (n c : Nat) (wr : World) : Prop :=
  ∃ st : List Txt, n = st.length ∧ Own wr (fun b => w.heap.size ≤ b) w.heap.size 69 A c st ∧ Below w.heap.size w wr ∧ checkGo (f.drop k) st.length = 0 ∧ tot st ≤ 11 * k ∧ u = printGo (f.drop k) st ∧ st.length ≤ k
/-- What the switch leaves: t in block B. -/
def TxRel (W : World) (B : Nat) (t : Txt) (wx : World) : Prop :=
  ∃ At nt ct, wx.heap[B]? = some (.cells #[.slice At nt ct, .int .i64 t.lev] 69 (0, 0)) ∧ Sl wx (fun b => W.heap.size < b) At nt ct t.toks ∧ Below W.heap.size W wx
theorem belowS {w W : World} (h : Below w.heap.size w W) {g : Nat} (hg : w.heap.size ≤ g) (i : Nat) (u : Value) : Below w.heap.size w (W.setCell ⟨g, i, none⟩ u) := h.setCell (p := ⟨g, i, none⟩) hg u
theorem TxRel.put {W wy : World} {v0 : Value} {t : Txt} {At : Option Addr} {nt ct : Nat} (hB : wy.heap[W.heap.size]? = some (.cells #[v0, .int .i64 t.lev] 69 (0, 0))) (hs : Sl wy (fun b => W.heap.size < b) At nt ct t.toks) (hb : Below W.heap.size W wy) :
    TxRel W W.heap.size t (wy.setCell ⟨W.heap.size, 0, none⟩ (.slice At nt ct)) :=
  ⟨At, nt, ct, by rw [Blk.set wy hB 0]; rfl, hs.keep (fun k _ hk => set_other _ _ _ _ _ (by omega)), belowS hb (Nat.le_refl _) _ _⟩

theorem textS_1 (t : Bs) (n : Int) (a : List Txt) : textS ⟨1, t, n⟩ a = ⟨[numTok n], 11⟩ := rfl
theorem textS_2 (t : Bs) (n : Int) (a : List Txt) : textS ⟨2, t, n⟩ a = ⟨[⟨1, t⟩], 11⟩ := rfl
theorem textS_3 (t : Bs) (n : Int) (a : List Txt) : textS ⟨3, t, n⟩ a = ⟨callS t a, 11⟩ := rfl
theorem textS_4 (t : Bs) (n : Int) (a : List Txt) : textS ⟨4, t, n⟩ a = ⟨callS [108, 111, 97, 100] a, 11⟩ := rfl
theorem textS_5 (t : Bs) (n : Int) (a : List Txt) : textS ⟨5, t, n⟩ a = ⟨callS [105, 110] a, 11⟩ := rfl
theorem textS_6 (t : Bs) (n : Int) (a : List Txt) : textS ⟨6, t, n⟩ a = ⟨[symK t] ++ atS (a.getD 0 default) 11, 11⟩ := rfl
theorem textS_7 (t : Bs) (n : Int) (a : List Txt) : textS ⟨7, t, n⟩ a = ⟨atS (a.getD 0 default) (level t) ++ [symK t] ++ atS (a.getD 1 default) ((level t : Int) + 1), level t⟩ := rfl

theorem cell_grown {w w' : World} {row : Option Nat} (hg : w.grownBy w' row) {b o : Nat} {v : Value} (h : w.cell? ⟨b, o, none⟩ = some v) (hne : row ≠ some b) : w'.cell? ⟨b, o, none⟩ = some v :=
  (World.cell?_of_block (hg.block b (World.block_lt_of_cell? w _ h) (fun e => hne e.symm))).trans h
theorem cell_set {w : World} {g b i o : Nat} {u v : Value} (h : w.cell? ⟨b, o, none⟩ = some v) (hne : b ≠ g) : (w.setCell ⟨g, i, none⟩ u).cell? ⟨b, o, none⟩ = some v :=
  (World.cell?_of_block (w := w) (set_other w g i u b hne)).trans h
theorem cell_alloc' {w : World} {b o : Nat} {v : Value} (h : w.cell? ⟨b, o, none⟩ = some v) (x : Obj) : (w.alloc x).cell? ⟨b, o, none⟩ = some v :=
  (World.cell?_of_block (w := w) (w' := w.alloc x) (Below.heap_alloc w x b (World.block_lt_of_cell? w _ h))).trans h
theorem cell_drew' {w : World} {b o : Nat} {v : Value} (h : w.cell? ⟨b, o, none⟩ = some v) : w.drew.cell? ⟨b, o, none⟩ = some v := h
theorem lit1 {w : World} {b : Nat} {k1 : Int} {s1 : Bs} {T : Nat → Prop} {base : Nat} (hb : w.heap[b]? = some (.cells #[.int .i64 k1, .string ⟨s1.toArray⟩] 54 (0, 0))) (hbb : base ≤ b) : Own w T base 54 (some ⟨b, 0, none⟩) 1 [(⟨k1, s1⟩ : Tok)] :=
  Own.lit (cs := [.int .i64 k1, .string ⟨s1.toArray⟩]) hb hbb rfl (by simp) (fun i hi => match i, hi with
    | 0, _ => ⟨rfl, rfl⟩)
theorem needs_6 {t : Bs} {n : Int} {q : Nat} (h : needsS ⟨6, t, n⟩ = (q : Int)) : q = 1 := by
  unfold needsS at h
  simp at h
  split at h <;> omega
theorem needs_7 {t : Bs} {n : Int} {q : Nat} (h : needsS ⟨7, t, n⟩ = (q : Int)) : q = 2 := by
  unfold needsS at h
  simp at h
  split at h <;> omega

set_option maxRecDepth 100000 in
set_option maxHeartbeats 4000000 in
theorem exprPrint_any (A : Option Addr) (n c : Nat) (w : World) (S : Nat → Prop) (f : List Opn) (hl : Sl w S A n c f) (hf : OkF f) :
    Calls Try.prog 16 #[.slice A n c] w fun e w' => ∃ A' n' c', e = .returned (.tuple #[.slice A' n' c', .int .i64 (exprPrintS f).2]) ∧ Sl w' (fun b => w.heap.size ≤ b) A' n' c' (exprPrintS f).1 ∧ Below w.heap.size w w' := by
  have hn := hl.le
  have hlen := hl.len
  subst hlen
  have hck := check_any A f.length c w S f hl hf
  have HL := Lib.hid hl; clear hl
  have HF := Lib.hid hf; clear hf
  obtain ⟨v, hv⟩ : ∃ v, v = exprPrintS f := ⟨_, rfl⟩
  rw [← hv]
  unfold exprPrintS at hv
  by_cases hc : checkS f = 0
  · rw [if_neg (fun h => h hc)] at hv
    rw [hc] at hck
    have hcg : checkGo (f.drop 0) 0 = 0 ∧ f.length ≤ 256 := by
      unfold checkS at hc
      split at hc
      · cases hc
      · exact ⟨hc, by omega⟩
    obtain ⟨hcg, hlen⟩ := hcg
    obtain ⟨u, hu⟩ : ∃ u, u = printGo (f.drop 0) [] := ⟨_, rfl⟩
    have hu' : printGo f [] = u := hu.symm
    rw [hu'] at hv
    have Hck := Lib.hid hck; clear hck
    have Hv := Lib.hid hv; clear hv hc hu'
    have HU := Lib.hid hu; have HCG := Lib.hid hcg; clear hu hcg
    go_enter Try.func16, Try.ntmps16
    go_wp2_with fail
    refine Hck.out.mono ?_
    rintro e w1 ⟨rfl, hb1⟩
    go_wp2_with fail
    go_loopw [5, 18] (fun s i wr => ∃ (k : Nat) (A2 : Option Addr) (n2 c2 : Nat), k ≤ f.length ∧ i = .int .i64 k ∧ s = .slice A2 n2 c2 ∧ Hid (PrRel w f u k A2 n2 c2 wr)) (fun _ i _ => f.length - (intOf i).toNat)
    case atStart => exact ⟨0, none, 0, 0, by omega, rfl, rfl, [], rfl, Own.nil _ _ _ _, hb1, HCG.out, by simp [tot], HU.out, by simp⟩
    case round =>
      obtain ⟨k, A2, n2, c2, hk, rfl, rfl, hrel⟩ := hrel
      by_cases hlt : k < f.length
      · obtain ⟨st, hn2, ho, hb, hcg, htot, hu, hsk⟩ := hrel.out
        clear hrel
        obtain ⟨bb, oo, rfl, -, hbs, h1, h2, h3⟩ := (HL.out.below hb).opn hlt
        rw [drop_get hlt] at hcg hu
        obtain ⟨ho1, ho2, ho3⟩ := HF.out f[k] (List.getElem_mem hlt)
        generalize f[k] = op at *
        obtain ⟨ok, ot, on⟩ := op
        simp only at h1 h2 h3 ho1 ho2 ho3
        obtain ⟨hg0, hg1, hg2⟩ := checkGo_cons hcg
        have hcap := ho.cap
        obtain ⟨q, hq⟩ : ∃ q : Nat, q = nd ⟨ok, ot, on⟩ := ⟨_, rfl⟩
        have hqn : needsS ⟨ok, ot, on⟩ = (q : Int) := by rw [hq]; unfold nd; omega
        have hnd := fun w => needs_any ⟨ok, ot, on⟩ w ho1 ho2 ho3
        rw [hqn] at hnd hg0 hg1
        obtain ⟨p, hp⟩ : ∃ p, p = n2 - q := ⟨_, rfl⟩
        have hpq : (n2 : Int) - (q : Int) = (p : Int) := by omega
        have hsub := fun w => sliceTxt_from A2 n2 c2 p (by omega) w
        have hargs : Sl wr (fun b => w.heap.size ≤ b ∨ A2.map Addr.block = some b) (cutA A2 c2 p 2) (n2 - p) (c2 - p) (st.drop p) := (hn2 ▸ ho.sl (by decide)).cutA (by omega)
        have hnp : n2 - p = q := by omega
        have hpb : p ≤ 256 := by omega
        have hnb : n2 ≤ 256 := by omega
        rw [hnp] at hsub hargs
        generalize cutA A2 c2 p 2 = C at *
        have HND := Lib.hid hnd; have HO := Lib.hid ho; have HAR := Lib.hid hargs; have HU2 := Lib.hid hu; have HCG2 := Lib.hid hcg; have HQN := Lib.hid hqn; have HG2 := Lib.hid hg2; have HN2 := Lib.hid hn2; have HQ := Lib.hid hq; have HP := Lib.hid hp; have HNP := Lib.hid hnp
        clear hnd ho hargs hu hcg hqn hg2 hn2 hq hp hnp
        have hq8 : q ≤ 8 := by have := needsS_le ⟨ok, ot, on⟩; have := HQN.out; omega
        go_upto_block 2 with (first | (go_at_call 41; refine (HND.out _).mono ?_; rintro e w2 ⟨rfl, hb2⟩) | (go_at_call 42; go_must (refine (cloneT_any C q (c2 - p) _ _ (st.drop p) ((HAR.out.alloc _).below hb2) (by omega)).mono ?_); rintro e w3 ⟨A9, n9, c9, rfl, hs9, hb9⟩; have h70 : w3.cell? ⟨wr.heap.size, 0, none⟩ = some (.int .i64 ok) := cell_later hb9 ((keptCell hb2 (blkAt wr _ rfl) 0).trans rfl); have h71 : w3.cell? ⟨wr.heap.size, 1, none⟩ = some (.string ⟨ot.toArray⟩) := cell_later hb9 ((keptCell hb2 (blkAt wr _ rfl) 1).trans rfl); have h72 : w3.cell? ⟨wr.heap.size, 2, none⟩ = some (.int .u32 on) := cell_later hb9 ((keptCell hb2 (blkAt wr _ rfl) 2).trans rfl); have hsz : wr.heap.size < w3.heap.size := Nat.lt_of_lt_of_le (lt_alloc wr _) (Nat.le_trans hb2.size hb9.size); have HS9 := Lib.hid hs9; clear hs9; have HB2 := Lib.hid hb2; have HB9 := Lib.hid hb9; clear hb2 hb9))
        have hk17 : ok = 1 ∨ ok = 2 ∨ ok = 3 ∨ ok = 4 ∨ ok = 5 ∨ ok = 6 ∨ ok = 7 := by
          have h := HQN.out
          by_cases hx : ok = 1 ∨ ok = 2 ∨ ok = 3 ∨ ok = 4 ∨ ok = 5 ∨ ok = 6 ∨ ok = 7
          · exact hx
          · simp only [not_or] at hx
            unfold needsS at h
            simp [hx] at h
        have htd : tot (st.drop p) ≤ 10000 := by have := tot_split st p; omega
        have hdec : ∀ w, Calls Try.prog 43 #[.int .u32 on] w fun e w' => e = .returned (.string ⟨(decF 10 on.toNat).toArray⟩) ∧ Below w.heap.size w w' := fun w => decimal_any 9 on.toNat on (by omega) (by omega) w (by omega) (by omega)
        have hcall := fun (name : Bs) (w' : World) (hb : Below w3.heap.size w3 w') => call_any name A9 n9 c9 w' _ (st.drop p) (HS9.out.below hb) htd (by have := HS9.out.len; simp at this; omega)
        have HDEC := Lib.hid hdec; have HCALL := Lib.hid hcall; have HTD := Lib.hid htd; clear hdec hcall htd
        go_cut [] from 34 to 103 (fun wx => TxRel w3 w3.heap.size (textS ⟨ok, ot, on⟩ (st.drop p)) wx)
        case first =>
          rcases hk17 with rfl | rfl | rfl | rfl | rfl | rfl | rfl
          · go_wp2_with (first | (go_at_call 43; refine (HDEC.out _).mono ?_; rintro e w4 ⟨rfl, hb4⟩; have h100 := cell_later hb4 ((cell_blk (blkAt w3 _ rfl) 0).trans rfl); have h101 := (keptFrozen hb4 (blkAt w3 _ rfl) 0); have h102 : w3.heap.size < w4.heap.size := Nat.lt_of_lt_of_le (lt_alloc w3 _) hb4.size))
            go_meet
            rw [textS_1]
            exact ⟨some ⟨w4.heap.size, 0, none⟩, 1, 1, blkOld (by rw [Blk.set w4 (keptBlk hb4 (blkAt w3 _ rfl)) 0]; rfl) _, tokSl (k := 2) (s := decF 10 on.toNat) (blkAt2 (by simp) rfl) h102, by ((repeat (first | (with_reducible exact Below.refl _ _) | (with_reducible refine belowA ?_ _) | (with_reducible refine belowD ?_) | (with_reducible refine belowS ?_ (Nat.le_refl _) _ _) | (with_reducible refine next ?_ (by assumption) (Nat.le_refl _)))); done)⟩
          · go_wp2
            go_meet
            rw [textS_2]
            exact ⟨some ⟨w3.heap.size + 1, 0, none⟩, 1, 1, by ((repeat (first | (with_reducible assumption) | ((with_reducible refine blkAt2 ?_ ?_); (focus (simp; done)); rfl) | (with_reducible refine blkOld ?_ _) | (with_reducible refine keptBlk (by assumption) ?_) | (with_reducible refine grownBlk (by assumption) ?_ (by simp; omega)) | (with_reducible refine blkDrw ?_))); done), tokSl (by ((repeat (first | (with_reducible assumption) | ((with_reducible refine blkAt2 ?_ ?_); (focus (simp; done)); rfl) | (with_reducible refine blkOld ?_ _) | (with_reducible refine keptBlk (by assumption) ?_) | (with_reducible refine grownBlk (by assumption) ?_ (by simp; omega)) | (with_reducible refine blkDrw ?_))); done)) (Nat.lt_succ_self _), by ((repeat (first | (with_reducible exact Below.refl _ _) | (with_reducible refine belowA ?_ _) | (with_reducible refine belowD ?_) | (with_reducible refine belowS ?_ (Nat.le_refl _) _ _) | (with_reducible refine next ?_ (by assumption) (Nat.le_refl _)))); done)⟩
          · go_wp2_with (first | (go_at_call 44; refine (HCALL.out ot _ (by ((repeat (first | (with_reducible exact Below.refl _ _) | (with_reducible refine belowA ?_ _) | (with_reducible refine belowD ?_) | (with_reducible refine belowS ?_ (Nat.le_refl _) _ _) | (with_reducible refine next ?_ (by assumption) (Nat.le_refl _)))); done))).mono ?_; rintro e w4 ⟨A4, n4, c4, rfl, hs4, hb4⟩; have h100 := cell_later hb4 ((cell_blk (blkAt w3 _ rfl) 0).trans rfl); have h101 := (keptFrozen hb4 (blkAt w3 _ rfl) 0); have HS4 := Lib.hid hs4; clear hs4))
            go_meet
            rw [textS_3]
            exact TxRel.put (t := ⟨callS ot (st.drop p), 11⟩) (by ((repeat (first | (with_reducible assumption) | ((with_reducible refine blkAt2 ?_ ?_); (focus (simp; done)); rfl) | (with_reducible refine blkOld ?_ _) | (with_reducible refine keptBlk (by assumption) ?_) | (with_reducible refine grownBlk (by assumption) ?_ (by simp; omega)) | (with_reducible refine blkDrw ?_))); done)) (HS4.out.wide (fun k _ hk => Nat.lt_of_lt_of_le (lt_alloc w3 _) hk) (by decide)) (by ((repeat (first | (with_reducible exact Below.refl _ _) | (with_reducible refine belowA ?_ _) | (with_reducible refine belowD ?_) | (with_reducible refine belowS ?_ (Nat.le_refl _) _ _) | (with_reducible refine next ?_ (by assumption) (Nat.le_refl _)))); done))
          · go_wp2_with (first | (go_at_call 44; refine (HCALL.out [108, 111, 97, 100] _ (by ((repeat (first | (with_reducible exact Below.refl _ _) | (with_reducible refine belowA ?_ _) | (with_reducible refine belowD ?_) | (with_reducible refine belowS ?_ (Nat.le_refl _) _ _) | (with_reducible refine next ?_ (by assumption) (Nat.le_refl _)))); done))).mono ?_; rintro e w4 ⟨A4, n4, c4, rfl, hs4, hb4⟩; have h100 := cell_later hb4 ((cell_blk (blkAt w3 _ rfl) 0).trans rfl); have h101 := (keptFrozen hb4 (blkAt w3 _ rfl) 0); have HS4 := Lib.hid hs4; clear hs4))
            go_meet
            rw [textS_4]
            exact TxRel.put (t := ⟨callS [108, 111, 97, 100] (st.drop p), 11⟩) (by ((repeat (first | (with_reducible assumption) | ((with_reducible refine blkAt2 ?_ ?_); (focus (simp; done)); rfl) | (with_reducible refine blkOld ?_ _) | (with_reducible refine keptBlk (by assumption) ?_) | (with_reducible refine grownBlk (by assumption) ?_ (by simp; omega)) | (with_reducible refine blkDrw ?_))); done)) (HS4.out.wide (fun k _ hk => Nat.lt_of_lt_of_le (lt_alloc w3 _) hk) (by decide)) (by ((repeat (first | (with_reducible exact Below.refl _ _) | (with_reducible refine belowA ?_ _) | (with_reducible refine belowD ?_) | (with_reducible refine belowS ?_ (Nat.le_refl _) _ _) | (with_reducible refine next ?_ (by assumption) (Nat.le_refl _)))); done))
          · go_wp2_with (first | (go_at_call 44; refine (HCALL.out [105, 110] _ (by ((repeat (first | (with_reducible exact Below.refl _ _) | (with_reducible refine belowA ?_ _) | (with_reducible refine belowD ?_) | (with_reducible refine belowS ?_ (Nat.le_refl _) _ _) | (with_reducible refine next ?_ (by assumption) (Nat.le_refl _)))); done))).mono ?_; rintro e w4 ⟨A4, n4, c4, rfl, hs4, hb4⟩; have h100 := cell_later hb4 ((cell_blk (blkAt w3 _ rfl) 0).trans rfl); have h101 := (keptFrozen hb4 (blkAt w3 _ rfl) 0); have HS4 := Lib.hid hs4; clear hs4))
            go_meet
            rw [textS_5]
            exact TxRel.put (t := ⟨callS [105, 110] (st.drop p), 11⟩) (by ((repeat (first | (with_reducible assumption) | ((with_reducible refine blkAt2 ?_ ?_); (focus (simp; done)); rfl) | (with_reducible refine blkOld ?_ _) | (with_reducible refine keptBlk (by assumption) ?_) | (with_reducible refine grownBlk (by assumption) ?_ (by simp; omega)) | (with_reducible refine blkDrw ?_))); done)) (HS4.out.wide (fun k _ hk => Nat.lt_of_lt_of_le (lt_alloc w3 _) hk) (by decide)) (by ((repeat (first | (with_reducible exact Below.refl _ _) | (with_reducible refine belowA ?_ _) | (with_reducible refine belowD ?_) | (with_reducible refine belowS ?_ (Nat.le_refl _) _ _) | (with_reducible refine next ?_ (by assumption) (Nat.le_refl _)))); done))
          · have hq1 := needs_6 HQN.out
            have hal : (st.drop p).length = 1 := by have := HN2.out; have := HNP.out; rw [List.length_drop]; omega
            have hx0 : (st.drop p)[0] = (st.drop p).getD 0 default := by simp [hal]
            obtain ⟨b9, o9, rfl, -, hlt9, A0, n0, c0, k90, k91, hs0⟩ := HS9.out.txt (k := 0) (by omega)
            simp only [Nat.zero_mul, Nat.add_zero] at k90 k91
            rw [hx0] at hs0 k91
            have hxl : ((st.drop p).getD 0 default).toks.length ≤ 10000 := Nat.le_trans (getD0_len _ (by omega)) HTD.out
            generalize hX : (st.drop p).getD 0 default = X at *
            have hs0' := hs0.wide (S' := fun b => b < w3.heap.size) (fun k hk _ => hk) (by decide)
            have HS0 := Lib.hid hs0'; have HX := Lib.hid hX; have HAL := Lib.hid hal; have H9L := Lib.hid (HS9.out.len); clear hs0 hs0' hX hal hx0 hq1
            have hn90 : (0 : Int) < (n9 : Int) := by have := H9L.out; have := HAL.out; omega
            have hn91 : 0 < n9 := by omega
            have hb7 : wr.heap.size ≠ w3.heap.size := by omega
            have hb9 : b9 ≠ w3.heap.size := by omega
            go_wp2_with fail
            go_region_held3 (fun w' => w'.cell? ⟨wr.heap.size, 1, none⟩ = some (.string ⟨ot.toArray⟩) ∧ w'.cell? ⟨b9, o9, none⟩ = some (.slice A0 n0 c0) ∧ w'.cell? ⟨b9, o9 + 1, none⟩ = some (.int .i64 X.lev))
              (((try go_split_ands); (try dsimp only); refine ⟨?_, ?_, ?_⟩ <;> ((repeat (first | (with_reducible assumption) | (with_reducible refine cell_alloc' ?_ _) | (with_reducible refine cell_drew' ?_) | (with_reducible refine cell_set ?_ (by assumption)) | (with_reducible refine cell_off (by decide) ?_) | (with_reducible refine cell_later (by assumption) ?_) | (with_reducible refine cell_grown (by assumption) ?_ (by simp; omega)))); done)))
              (first | (go_at_call 45; refine (symT_any _ _).mono ?_; rintro e w4 ⟨rfl, hbz⟩; have hz4 : w3.heap.size < w4.heap.size := Nat.lt_of_lt_of_le (lt_alloc w3 _) hbz.size) | (go_at_call 46; refine (at_any X A0 n0 c0 11 _ (fun b => b < w3.heap.size) (HS0.out.below (by ((repeat (first | (with_reducible exact Below.refl _ _) | (with_reducible refine belowA ?_ _) | (with_reducible refine belowD ?_) | (with_reducible refine belowS ?_ (Nat.le_refl _) _ _) | (with_reducible refine next ?_ (by assumption) (Nat.le_refl _)))); done))) hxl).mono ?_; rintro e w5 ⟨A5, n5, c5, rfl, hs5, hbz⟩; have hz5 := hbz.size; (try simp at hz5); have hn5 : n5 ≤ 10002 := (by have := hs5.len; have := atS_len X 11; omega); have tokA : True := trivial) | (have _t := tokA; go_must (refine (step_appN (T := fun _ => True) (base := w3.heap.size + 1) (xs := [(⟨3, ot⟩ : Tok)]) (ys := atS X 11) rfl (.tmp 71) (.tmp 75) eltTok rfl (by decide) rfl rfl rfl ?hown rfl ?hsl ?h63 ?hby ?hbase ?_)); go_must (case hown => exact (lit1 (T := fun _ => True) (base := w3.heap.size + 1) (k1 := 3) (s1 := ot) (by ((repeat (first | (with_reducible assumption) | ((with_reducible refine blkAt2 ?_ ?_); (focus (simp; done)); rfl) | (with_reducible refine blkOld ?_ _) | (with_reducible refine keptBlk (by assumption) ?_) | (with_reducible refine grownBlk (by assumption) ?_ (by simp; omega)) | (with_reducible refine blkDrw ?_))); done)) (by omega))); go_must (case hsl => first | exact (hs5.wide (fun q hq hk => ⟨trivial, fun e => by simp at e; (try simp at hk); omega⟩) (by decide)) | exact (hs5.wide (fun q hq hk => ⟨trivial, fun e => by simp at e; omega⟩) (by decide)).alloc _); go_must (case h63 => simp; omega); go_must (case hby => simp; omega); go_must (case hbase => (try simp); omega);  intro A6 c6 w6 hown6 hg6 hat6; have hB6 : w6.heap[w3.heap.size]? = some (.cells #[.slice none 0 0, .int .i64 11] 69 (0, 0)) := grownBlk hg6 (by ((repeat (first | (with_reducible assumption) | ((with_reducible refine blkAt2 ?_ ?_); (focus (simp; done)); rfl) | (with_reducible refine blkOld ?_ _) | (with_reducible refine keptBlk (by assumption) ?_) | (with_reducible refine grownBlk (by assumption) ?_ (by simp; omega)) | (with_reducible refine blkDrw ?_))); done)) (fun e => by simp at e; omega); have h100 := (cell_blk hB6 0).trans rfl; have h101 := frz_blk hB6 0))
            all_goals
              go_wp2_with fail
              go_meet
              rw [textS_6, HX.out]
              have hl5 := hs5.len
              refine TxRel.put (t := ⟨[symK ot] ++ atS X 11, 11⟩) hB6 ((((hown6.tokT (T' := fun b => w3.heap.size + 1 ≤ b)).res).cast ?_).wide (fun k _ hk => hk) (by decide)) ?_
              · rw [List.length_append, ← hl5]; rfl
              · exact Below.grown (row := _) (by ((repeat (first | (with_reducible exact Below.refl _ _) | (with_reducible refine belowA ?_ _) | (with_reducible refine belowD ?_) | (with_reducible refine belowS ?_ (Nat.le_refl _) _ _) | (with_reducible refine next ?_ (by assumption) (Nat.le_refl _)))); done)) hg6 (by (try simp only [World.size_alloc]); omega) (by intro q hq; simp at hq; omega)
          · have hq1 := needs_7 HQN.out
            have hal : (st.drop p).length = 2 := by have := HN2.out; have := HNP.out; rw [List.length_drop]; omega
            have hx0 : (st.drop p)[0] = (st.drop p).getD 0 default := by simp [hal]
            have hx1 : (st.drop p)[1] = (st.drop p).getD 1 default := by simp [hal]
            obtain ⟨b9, o9, rfl, -, hlt9, A0, n0, c0, k90, k91, hs0⟩ := HS9.out.txt (k := 0) (by omega)
            obtain ⟨b9', o9', he9, -, -, A1, n1, c1, k92, k93, hs1⟩ := HS9.out.txt (k := 1) (by omega)
            injection he9 with he9
            injection he9 with he1 he2
            subst he1 he2
            simp only [Nat.zero_mul, Nat.add_zero, Nat.one_mul] at k90 k91 k92 k93
            rw [hx0] at hs0 k91
            rw [hx1] at hs1 k93
            have hxy := getD1_len (st.drop p) (by omega)
            have hxl : ((st.drop p).getD 0 default).toks.length ≤ 10000 := by have := HTD.out; omega
            have hyl : ((st.drop p).getD 1 default).toks.length ≤ 10000 := by have := HTD.out; omega
            clear hxy
            generalize hX : (st.drop p).getD 0 default = X at *
            generalize hY : (st.drop p).getD 1 default = Y at *
            have hs0' := hs0.wide (S' := fun b => b < w3.heap.size) (fun k hk _ => hk) (by decide)
            have hs1' := hs1.wide (S' := fun b => b < w3.heap.size) (fun k hk _ => hk) (by decide)
            have hlv := fun w => level_any ot w
            have hlv10 := level_le ot
            generalize hL : level ot = L at *
            have HS0 := Lib.hid hs0'; have HS1 := Lib.hid hs1'; have HX := Lib.hid hX; have HY := Lib.hid hY; have HAL := Lib.hid hal; have H9L := Lib.hid (HS9.out.len); have HLV := Lib.hid hlv; have HLL := Lib.hid hL; clear hs0 hs0' hs1 hs1' hX hY hal hx0 hx1 hq1 hlv hL
            have hn90 : (0 : Int) < (n9 : Int) := by have := H9L.out; have := HAL.out; omega
            have hn91 : 0 < n9 := by omega
            have hn92 : (1 : Int) < (n9 : Int) := by have := H9L.out; have := HAL.out; omega
            have hn93 : 1 < n9 := by omega
            have hb7 : wr.heap.size ≠ w3.heap.size := by omega
            have hb9 : b9 ≠ w3.heap.size := by omega
            go_wp2_with (first | (go_at_call 47; refine (HLV.out _).mono ?_; rintro e w4 ⟨rfl, hb4⟩; have h110 : w4.cell? ⟨w3.heap.size, 1, none⟩ = some (.int .i64 11) := cell_later hb4 ((cell_blk (blkAt w3 _ rfl) 1).trans rfl); have h111 := (keptFrozen hb4 (blkAt w3 _ rfl) 1)))
            have hB7 : (w4.setCell ⟨w3.heap.size, 1, none⟩ (.int .i64 L)).heap[w3.heap.size]? = some (.cells #[.slice none 0 0, .int .i64 L] 69 (0, 0)) := by rw [Blk.set w4 (keptBlk hb4 (blkAt w3 _ rfl)) 1]; rfl
            have hbw : Below w3.heap.size w3 (w4.setCell ⟨w3.heap.size, 1, none⟩ (.int .i64 L)) := by ((repeat (first | (with_reducible exact Below.refl _ _) | (with_reducible refine belowA ?_ _) | (with_reducible refine belowD ?_) | (with_reducible refine belowS ?_ (Nat.le_refl _) _ _) | (with_reducible refine next ?_ (by assumption) (Nat.le_refl _)))); done)
            have d1 : (w4.setCell ⟨w3.heap.size, 1, none⟩ (.int .i64 L)).cell? ⟨wr.heap.size, 1, none⟩ = some (.string ⟨ot.toArray⟩) := by ((repeat (first | (with_reducible assumption) | (with_reducible refine cell_alloc' ?_ _) | (with_reducible refine cell_drew' ?_) | (with_reducible refine cell_set ?_ (by assumption)) | (with_reducible refine cell_off (by decide) ?_) | (with_reducible refine cell_later (by assumption) ?_) | (with_reducible refine cell_grown (by assumption) ?_ (by simp; omega)))); done)
            have d2 : (w4.setCell ⟨w3.heap.size, 1, none⟩ (.int .i64 L)).cell? ⟨b9, o9, none⟩ = some (.slice A0 n0 c0) := by ((repeat (first | (with_reducible assumption) | (with_reducible refine cell_alloc' ?_ _) | (with_reducible refine cell_drew' ?_) | (with_reducible refine cell_set ?_ (by assumption)) | (with_reducible refine cell_off (by decide) ?_) | (with_reducible refine cell_later (by assumption) ?_) | (with_reducible refine cell_grown (by assumption) ?_ (by simp; omega)))); done)
            have d3 : (w4.setCell ⟨w3.heap.size, 1, none⟩ (.int .i64 L)).cell? ⟨b9, o9 + 1, none⟩ = some (.int .i64 X.lev) := by ((repeat (first | (with_reducible assumption) | (with_reducible refine cell_alloc' ?_ _) | (with_reducible refine cell_drew' ?_) | (with_reducible refine cell_set ?_ (by assumption)) | (with_reducible refine cell_off (by decide) ?_) | (with_reducible refine cell_later (by assumption) ?_) | (with_reducible refine cell_grown (by assumption) ?_ (by simp; omega)))); done)
            have d4 : (w4.setCell ⟨w3.heap.size, 1, none⟩ (.int .i64 L)).cell? ⟨b9, o9 + 2, none⟩ = some (.slice A1 n1 c1) := by ((repeat (first | (with_reducible assumption) | (with_reducible refine cell_alloc' ?_ _) | (with_reducible refine cell_drew' ?_) | (with_reducible refine cell_set ?_ (by assumption)) | (with_reducible refine cell_off (by decide) ?_) | (with_reducible refine cell_later (by assumption) ?_) | (with_reducible refine cell_grown (by assumption) ?_ (by simp; omega)))); done)
            have d5 : (w4.setCell ⟨w3.heap.size, 1, none⟩ (.int .i64 L)).cell? ⟨b9, o9 + 2 + 1, none⟩ = some (.int .i64 Y.lev) := by ((repeat (first | (with_reducible assumption) | (with_reducible refine cell_alloc' ?_ _) | (with_reducible refine cell_drew' ?_) | (with_reducible refine cell_set ?_ (by assumption)) | (with_reducible refine cell_off (by decide) ?_) | (with_reducible refine cell_later (by assumption) ?_) | (with_reducible refine cell_grown (by assumption) ?_ (by simp; omega)))); done)
            have d6 : (w4.setCell ⟨w3.heap.size, 1, none⟩ (.int .i64 L)).cell? ⟨w3.heap.size, 1, none⟩ = some (.int .i64 L) := (cell_blk hB7 1).trans rfl
            generalize (w4.setCell ⟨w3.heap.size, 1, none⟩ (.int .i64 L)) = w7 at *
            clear hb4 h110 h111 k90 k91 k92 k93 h70 h71 h72
            have hw : IntKind.i64.wrap ((L : Int) + 1) = (L : Int) + 1 := IntWalk.i64_in _ (by omega)
            have tok0 : True := trivial
            go_region_held3 (fun w' => w'.cell? ⟨wr.heap.size, 1, none⟩ = some (.string ⟨ot.toArray⟩) ∧ w'.cell? ⟨b9, o9, none⟩ = some (.slice A0 n0 c0) ∧ w'.cell? ⟨b9, o9 + 1, none⟩ = some (.int .i64 X.lev) ∧ w'.cell? ⟨b9, o9 + 2, none⟩ = some (.slice A1 n1 c1) ∧ w'.cell? ⟨b9, o9 + 2 + 1, none⟩ = some (.int .i64 Y.lev) ∧ w'.cell? ⟨w3.heap.size, 1, none⟩ = some (.int .i64 L))
              (((try go_split_ands); (try dsimp only); refine ⟨?_, ?_, ?_, ?_, ?_, ?_⟩ <;> ((repeat (first | (with_reducible assumption) | (with_reducible refine cell_alloc' ?_ _) | (with_reducible refine cell_drew' ?_) | (with_reducible refine cell_set ?_ (by assumption)) | (with_reducible refine cell_off (by decide) ?_) | (with_reducible refine cell_later (by assumption) ?_) | (with_reducible refine cell_grown (by assumption) ?_ (by simp; omega)))); done)))
              (first | (go_at_call 45; refine (symT_any _ _).mono ?_; rintro e w6 ⟨rfl, hbz⟩) | (go_at_call 46; have _t := tok0; refine (at_any X A0 n0 c0 L _ (fun b => b < w3.heap.size) (HS0.out.below (by ((repeat (first | (with_reducible exact Below.refl _ _) | (with_reducible refine belowA ?_ _) | (with_reducible refine belowD ?_) | (with_reducible refine belowS ?_ (Nat.le_refl _) _ _) | (with_reducible refine next ?_ (by assumption) (Nat.le_refl _)))); done))) hxl).mono ?_; rintro e w5 ⟨A5, n5, c5, rfl, hs5, hbz⟩; clear tok0; have HS5 := Lib.hid hs5; clear hs5) | (go_at_call 46; go_must (refine (at_any Y A1 n1 c1 (L + 1) _ (fun b => b < w3.heap.size) (HS1.out.below (by ((repeat (first | (with_reducible exact Below.refl _ _) | (with_reducible refine belowA ?_ _) | (with_reducible refine belowD ?_) | (with_reducible refine belowS ?_ (Nat.le_refl _) _ _) | (with_reducible refine next ?_ (by assumption) (Nat.le_refl _)))); done))) hyl).mono ?_); rintro e w8 ⟨A8, n8, c8, rfl, hs8, hbz⟩; have HS8 := Lib.hid hs8; clear hs8) | (go_at_call 48; go_must (refine (concat_any _ _ _ _ (fun _ => True) [atS X L, [symK ot], atS Y (L + 1)] ?_ ?_ (by decide)).mono ?_); go_must (· exact sl3 (by ((repeat (first | (with_reducible assumption) | ((with_reducible refine blkAt2 ?_ ?_); (focus (simp; done)); rfl) | (with_reducible refine blkOld ?_ _) | (with_reducible refine keptBlk (by assumption) ?_) | (with_reducible refine grownBlk (by assumption) ?_ (by simp; omega)) | (with_reducible refine blkDrw ?_))); done)) trivial ((HS5.out.below (by ((repeat (first | (with_reducible exact Below.refl _ _) | (with_reducible refine belowA ?_ _) | (with_reducible refine belowD ?_) | (with_reducible refine belowS ?_ (Nat.le_refl _) _ _) | (with_reducible refine next ?_ (by assumption) (Nat.le_refl _)))); done))).any) (tokSl (by ((repeat (first | (with_reducible assumption) | ((with_reducible refine blkAt2 ?_ ?_); (focus (simp; done)); rfl) | (with_reducible refine blkOld ?_ _) | (with_reducible refine keptBlk (by assumption) ?_) | (with_reducible refine grownBlk (by assumption) ?_ (by simp; omega)) | (with_reducible refine blkDrw ?_))); done)) trivial) ((HS8.out.below (by ((repeat (first | (with_reducible exact Below.refl _ _) | (with_reducible refine belowA ?_ _) | (with_reducible refine belowD ?_) | (with_reducible refine belowS ?_ (Nat.le_refl _) _ _) | (with_reducible refine next ?_ (by assumption) (Nat.le_refl _)))); done))).any)); (· have h1 := atS_len X L; have h2 := atS_len Y (L + 1); unfold lenK; simp only [List.map_cons, List.map_nil, List.sum_cons, List.sum_nil, List.length_cons, List.length_nil]; omega); rintro e w9 ⟨A9, n9', c9', rfl, hs9, hbz⟩; have HS99 := Lib.hid hs9; clear hs9; have hB9 : w9.heap[w3.heap.size]? = some (.cells #[.slice none 0 0, .int .i64 L] 69 (0, 0)) := (by ((repeat (first | (with_reducible assumption) | ((with_reducible refine blkAt2 ?_ ?_); (focus (simp; done)); rfl) | (with_reducible refine blkOld ?_ _) | (with_reducible refine keptBlk (by assumption) ?_) | (with_reducible refine grownBlk (by assumption) ?_ (by simp; omega)) | (with_reducible refine blkDrw ?_))); done)); have h100 : w9.cell? ⟨w3.heap.size, 0, none⟩ = some (.slice none 0 0) := (cell_blk hB9 0).trans rfl; have h101 := frz_blk hB9 0))
            all_goals
              go_wp2_with fail
              go_meet
              rw [textS_7, HX.out, HY.out, HLL.out]
              refine TxRel.put (t := ⟨atS X L ++ [symK ot] ++ atS Y ((L : Int) + 1), L⟩) hB9 ?_ (by ((repeat (first | (with_reducible exact Below.refl _ _) | (with_reducible refine belowA ?_ _) | (with_reducible refine belowD ?_) | (with_reducible refine belowS ?_ (Nat.le_refl _) _ _) | (with_reducible refine next ?_ (by assumption) (Nat.le_refl _)))); done))
              have h9 := HS99.out.wide (S' := fun b => w3.heap.size < b) (fun k _ hk => Nat.lt_of_lt_of_le ?_ hk) (by decide)
              · simpa using h9
              · exact Nat.lt_of_lt_of_le (Array.getElem?_eq_some_iff.1 hB7).1 (Below.size (B := w7.heap.size) (by ((repeat (first | (with_reducible exact Below.refl _ _) | (with_reducible refine belowA ?_ _) | (with_reducible refine belowD ?_) | (with_reducible refine belowS ?_ (Nat.le_refl _) _ _) | (with_reducible refine next ?_ (by assumption) (Nat.le_refl _)))); done)))
        case rest =>
          obtain ⟨At, nt, ct, hB, hs, hbw⟩ := hcut
          have htl := textS_len ⟨ok, ot, on⟩ (st.drop p) (by have := HN2.out; have := HNP.out; have := HQ.out; rw [List.length_drop]; omega) (by have := HQN.out; omega)
          obtain ⟨t, ht⟩ : ∃ t, t = textS ⟨ok, ot, on⟩ (st.drop p) := ⟨_, rfl⟩
          rw [← ht] at hB hs htl
          have hbr : Below wr.heap.size wr w3 := by have hb2 := HB2.out; have hb9 := HB9.out; ((repeat (first | (with_reducible exact Below.refl _ _) | (with_reducible refine belowA ?_ _) | (with_reducible refine belowD ?_) | (with_reducible refine belowS ?_ (Nat.le_refl _) _ _) | (with_reducible refine next ?_ (by assumption) (Nat.le_refl _)))); done)
          have hbc : Below wr.heap.size wr wc := hbr.trans (hbw.mono hbr.size)
          have hown3 := (HO.out.below hbc).take p
          have hlt3 := (HO.out).lt
          have hbwc : Below w.heap.size w wc := next hb hbc (Nat.le_refl _)
          have e0 : wc.cell? ⟨w3.heap.size, 0, none⟩ = some (.slice At nt ct) := (cell_blk hB 0).trans rfl
          have e1 : wc.cell? ⟨w3.heap.size, 1, none⟩ = some (.int .i64 t.lev) := (cell_blk hB 1).trans rfl
          have htp : (st.take p).length = p := by have := HN2.out; rw [List.length_take]; omega
          have hsl : Sl wc (fun b => w.heap.size ≤ b ∧ A2.map Addr.block ≠ some b) At nt ct t.toks := hs.wide (fun q _ hq => ⟨by have := hb.size; omega, fun e => by have := (hlt3 q e).2; omega⟩) (by decide)
          have HT := Lib.hid ht; have HOW := Lib.hid hown3; have HSL := Lib.hid hsl; have HTP := Lib.hid htp; have HLT := Lib.hid hlt3; clear ht hown3 hsl htp hlt3 hB hs
          have hto := fun w => sliceTxt_to A2 n2 c2 p (by have := HN2.out; omega) w
          clear hsub hpq
          go_wp2_with fail
          go_region_held3 (fun w' => w'.cell? ⟨w3.heap.size, 0, none⟩ = some (.slice At nt ct) ∧ w'.cell? ⟨w3.heap.size, 1, none⟩ = some (.int .i64 t.lev))
            (((try go_split_ands); (try dsimp only); refine ⟨?_, ?_⟩ <;> first | ((repeat (first | (with_reducible assumption) | (with_reducible refine cell_alloc' ?_ _) | (with_reducible refine cell_drew' ?_) | (with_reducible refine cell_set ?_ (by assumption)) | (with_reducible refine cell_off (by decide) ?_) | (with_reducible refine cell_later (by assumption) ?_) | (with_reducible refine cell_grown (by assumption) ?_ (by simp; omega)))); done) | (exact cell_grown hg6 ‹_› (fun e => by have := (HLT.out _ e).2; omega))))
            (first | (go_must (refine (step_app1 (T := fun b => w.heap.size ≤ b) (base := w.heap.size) (xs := st.take p) rfl (.tmp 106) (.tmp 108) eltTxt rfl (by decide) rfl rfl HTP.out.symm ?hown rfl [.slice At nt ct, .int .i64 t.lev] t (blkAt _ _ (by simp)) rfl ?hy ?h63 ?hby ?hbase ?_)); (case hown => exact (HOW.out.drew.alloc _)); (case hy => exact ⟨⟨At, nt, ct, rfl, (HSL.out.drew.alloc _)⟩, rfl⟩); (case h63 => rw [HTP.out]; omega); (case hby => rw [HTP.out]; omega); (case hbase => have := hbwc.size; simp; omega); intro A6 c6 w6 hown6 hg6 hat6))
          go_wp2_with fail
          have hlen' : (st.take p ++ [t]).length = p + 1 := by rw [List.length_append, HTP.out]; rfl
          have hpn : p = st.length - nd ⟨ok, ot, on⟩ := by have := HN2.out; have := HP.out; have := HQ.out; omega
          go_roundw
          case rel =>
            refine ⟨k + 1, A6, p + 1, c6, by omega, by go_num, rfl, Lib.hid ⟨st.take p ++ [t], hlen'.symm, hown6, (hbwc.drew.alloc hbwc.size _).grown hg6 (by have := hbwc.size; simp; omega) (fun q hq => (HLT.out q hq).1), ?_, ?_, ?_, by omega⟩⟩
            · have h := HG2.out
              rw [HQN.out] at h
              have e : ((st.take p ++ [t]).length : Int) = (st.length : Int) + (1 - (q : Int)) := by rw [hlen']; have := HN2.out; have := HNP.out; omega
              rw [e]
              exact h
            · have h1 := tot_split st p
              rw [tot_append]
              have h2 : tot [t] = t.toks.length := by simp [tot]
              omega
            · rw [HU2.out, printGo, ← hpn, ← HT.out]
          case measure => simp [intOf]; omega
      · obtain ⟨st, hn2, ho, hb, hcg, htot, hu, hsk⟩ := hrel.out
        clear hrel
        rw [drop_end hlt] at hcg hu
        have h1 := checkGo_nil hcg
        have hn1 : n2 = 1 := by omega
        have hst : (st.getD 0 default) = st[0]'(by omega) := by simp [show 0 < st.length by omega]
        obtain ⟨b, o, rfl, hS, hlt9, At, nt, ct, k0, k1, hs⟩ := (ho.sl (by decide)).txt (k := 0) (by omega)
        have hlt3 := ho.lt
        rw [← hst] at hs
        simp only [Nat.zero_mul, Nat.add_zero] at k0 k1
        have hv2 := Hv.out
        have hus : u = st := hu
        rw [hus] at hv2
        generalize st.getD 0 default = X at *
        have hnt := hs.len
        have hres : Sl wr (fun b => w.heap.size ≤ b) At nt ct X.toks := hs.wide (fun q _ hq => hq.elim id (fun hq => (hlt3 q hq).1)) (by decide)
        have HRES := Lib.hid hres; have HNT := Lib.hid hnt; have HV2 := Lib.hid hv2
        subst hn1
        clear hres hnt hv2 hs hS hst ho hn2 h1 hu hus hcg htot hsk hlt3 k1
        by_cases hbig : 256 < nt
        · go_wp2
          go_ret2
          rw [HV2.out, if_pos (by have := HNT.out; omega)]
          exact ⟨none, 0, 0, rfl, Sl.nil _ _ _ _ (by decide), hb⟩
        · go_wp2
          go_ret2
          rw [HV2.out, if_neg (by have := HNT.out; omega)]
          exact ⟨At, nt, ct, rfl, HRES.out, hb⟩
  · rw [if_pos hc] at hv
    have Hck := Lib.hid hck; clear hck
    have hc' : (checkS f != 0) = true := by rw [bne_iff_ne]; exact hc
    have Hv := Lib.hid hv; clear hv hc
    go_enter Try.func16, Try.ntmps16
    go_wp2_with fail
    refine Hck.out.mono ?_
    rintro e w1 ⟨rfl, hb1⟩
    go_wp2
    go_ret2
    rw [Hv.out]
    exact ⟨none, 0, 0, rfl, Sl.nil _ _ _ _ (by decide), hb1⟩
end Go.Proofs.Ytchdpjgncojhaaa
