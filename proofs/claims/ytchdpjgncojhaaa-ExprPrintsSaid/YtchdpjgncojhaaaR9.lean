/- licitref08.Print. -/
import Derived.Test.YtchdpjgncojhaaaR8
import Derived.Test.YtchdpjgncojhaaaPrintEq
set_option linter.unusedVariables false
set_option linter.unusedSimpArgs false
namespace Go.Proofs.Ytchdpjgncojhaaa
open Go.RowKit
attribute [local go_sem ↓] Go.wp_at_zero Go.wp_at_succ

def PrRel8 (w : World) (f : List Opn) (u : List Txt) (k : Nat) (A : Option Addr) (n c : Nat) (wr : World) : Prop :=
  ∃ st : List Txt, n = st.length ∧ Own wr (fun b => w.heap.size ≤ b) w.heap.size 78 A c st ∧ Below w.heap.size w wr ∧ checkGo (f.drop k) st.length = 0 ∧ tot st ≤ 11 * k ∧ u = print8Go (f.drop k) st ∧ st.length ≤ k
def TxRel8 (W : World) (B : Nat) (t : Txt) (wx : World) : Prop :=
  ∃ At nt ct, wx.heap[B]? = some (.cells #[.slice At nt ct, .int .i64 t.lev] 78 (0, 0)) ∧ Sl wx (fun b => W.heap.size < b) At nt ct t.toks ∧ Below W.heap.size W wx
theorem TxRel8.put {W wy : World} {v0 : Value} {t : Txt} {At : Option Addr} {nt ct : Nat} (hB : wy.heap[W.heap.size]? = some (.cells #[v0, .int .i64 t.lev] 78 (0, 0))) (hs : Sl wy (fun b => W.heap.size < b) At nt ct t.toks) (hb : Below W.heap.size W wy) :
    TxRel8 W W.heap.size t (wy.setCell ⟨W.heap.size, 0, none⟩ (.slice At nt ct)) :=
  ⟨At, nt, ct, by rw [Blk.set wy hB 0]; rfl, hs.keep (fun k _ hk => set_other _ _ _ _ _ (by omega)), belowS hb (Nat.le_refl _) _ _⟩
theorem TxRel8.put2 {W wy : World} {v0 v1 : Value} {t : Txt} {At : Option Addr} {nt ct : Nat} (hB : wy.heap[W.heap.size]? = some (.cells #[v0, v1] 78 (0, 0))) (hs : Sl wy (fun b => W.heap.size < b) At nt ct t.toks) (hb : Below W.heap.size W wy) :
    TxRel8 W W.heap.size t ((wy.setCell ⟨W.heap.size, 0, none⟩ (.slice At nt ct)).setCell ⟨W.heap.size, 1, none⟩ (.int .i64 t.lev)) :=
  ⟨At, nt, ct, by rw [Blk.set _ (Blk.set wy hB 0 _) 1]; rfl, hs.keep (fun k _ hk => (set_other _ _ _ _ _ (by omega)).trans (set_other _ _ _ _ _ (by omega))), belowS (belowS hb (Nat.le_refl _) _ _) (Nat.le_refl _) _ _⟩
theorem slicePart_from (A : Option Addr) (n c p : Nat) (h1 : p ≤ n) (w : World) : (Instr.slice 76 (.slice A n c) (some (.int .i64 (p : Int))) none none).run Try.prog w = .ok (.slice (cutA A c p 2) (n - p) (c - p)) w := by
  have h0 : (0 : Int) ≤ (p : Int) := by omega
  have h1' : (p : Int) ≤ (n : Int) := by omega
  simp [go_sem, h0, h1', cutA]
theorem slicePart_to (A : Option Addr) (n c p : Nat) (h1 : p ≤ c) (w : World) : (Instr.slice 76 (.slice A n c) none (some (.int .i64 (p : Int))) none).run Try.prog w = .ok (.slice A p c) w := by
  have h0 : (0 : Int) ≤ (p : Int) := by omega
  have h1' : (p : Int) ≤ (c : Int) := by omega
  simp [go_sem, h0, h1']
theorem text8_1 (t : Bs) (n : Int) (a : List Txt) : text8S ⟨1, t, n⟩ a = ⟨[numTok n], 12⟩ := rfl
theorem text8_2 (t : Bs) (n : Int) (a : List Txt) : text8S ⟨2, t, n⟩ a = ⟨[⟨1, t⟩], 12⟩ := rfl
theorem text8_3 (t : Bs) (n : Int) (a : List Txt) : text8S ⟨3, t, n⟩ a = ⟨callS t a, 12⟩ := rfl
theorem text8_4 (t : Bs) (n : Int) (a : List Txt) : text8S ⟨4, t, n⟩ a = ⟨callS [108, 111, 97, 100] a, 12⟩ := rfl
theorem text8_5 (t : Bs) (n : Int) (a : List Txt) : text8S ⟨5, t, n⟩ a = ⟨callS [105, 110] [], 12⟩ := rfl
theorem text8_6 (t : Bs) (n : Int) (a : List Txt) : text8S ⟨6, t, n⟩ a = ⟨[symK t] ++ atS (a.getD 0 default) 11, 11⟩ := rfl
theorem text8_7 (t : Bs) (n : Int) (a : List Txt) : text8S ⟨7, t, n⟩ a = ⟨atS (a.getD 0 default) (level t) ++ [symK t] ++ atS (a.getD 1 default) ((level t : Int) + 1), level t⟩ := rfl
theorem text8S_len (o : Opn) (args : List Txt) (h : args.length = nd o) (h0 : 0 ≤ needsS o) : (text8S o args).toks.length ≤ tot args + 11 := by
  have hr : LvL args args := by
    induction args with
    | nil => exact LvL.nil
    | cons a r ih => exact LvL.cons ⟨rfl, .inl rfl⟩ (by
        clear ih h
        induction r with
        | nil => exact LvL.nil
        | cons a r ih => exact LvL.cons ⟨rfl, .inl rfl⟩ ih)
  rw [← (text_rel (o := o) hr (fun hk => ?_)).toks]
  · exact textS_len o args h h0
  · have : nd o = 0 := by
      unfold nd needsS
      simp only [hk]
      simp only [show ¬ (5 : Int) = 1 by decide, show ¬ (5 : Int) = 2 by decide, show ¬ (5 : Int) = 3 by decide, show ¬ (5 : Int) = 4 by decide, if_false, if_true]
      split <;> rfl
    exact List.eq_nil_of_length_eq_zero (h.trans this)

set_option maxRecDepth 100000 in
set_option maxHeartbeats 4000000 in
theorem print8_any (A : Option Addr) (n c : Nat) (w : World) (S : Nat → Prop) (f : List Opn) (hl : Sl w S A n c f) (hf : OkF f) :
    Calls Try.prog 17 #[.slice A n c] w fun e w' => ∃ A' n' c', e = .returned (.tuple #[.slice A' n' c', .int .i64 (print8S f).2]) ∧ Sl w' (fun b => w.heap.size ≤ b) A' n' c' (print8S f).1 ∧ Below w.heap.size w w' := by
  have hn := hl.le
  have hlen := hl.len
  subst hlen
  have hck := check8_any A f.length c w S f hl hf
  have HL := Lib.hid hl; clear hl
  have HF := Lib.hid hf; clear hf
  obtain ⟨v, hv⟩ : ∃ v, v = print8S f := ⟨_, rfl⟩
  rw [← hv]
  unfold print8S at hv
  by_cases hc : checkS f = 0
  · rw [if_neg (fun h => h hc)] at hv
    rw [hc] at hck
    have hcg : checkGo (f.drop 0) 0 = 0 ∧ f.length ≤ 256 := by
      unfold checkS at hc
      split at hc
      · cases hc
      · exact ⟨hc, by omega⟩
    obtain ⟨hcg, hlen⟩ := hcg
    obtain ⟨u, hu⟩ : ∃ u, u = print8Go (f.drop 0) [] := ⟨_, rfl⟩
    have hu' : print8Go f [] = u := hu.symm
    rw [hu'] at hv
    have Hck := Lib.hid hck; clear hck
    have Hv := Lib.hid hv; clear hv hc hu'
    have HU := Lib.hid hu; have HCG := Lib.hid hcg; clear hu hcg
    go_enter Try.func17, Try.ntmps17
    go_wp2_with fail
    refine Hck.out.mono ?_
    rintro e w1 ⟨rfl, hb1⟩
    go_wp2_with fail
    go_loopw [5, 20] (fun s i wr => ∃ (k : Nat) (A2 : Option Addr) (n2 c2 : Nat), k ≤ f.length ∧ i = .int .i64 k ∧ s = .slice A2 n2 c2 ∧ Hid (PrRel8 w f u k A2 n2 c2 wr)) (fun _ i _ => f.length - (intOf i).toNat)
    case atStart => exact ⟨0, none, 0, 0, by omega, rfl, rfl, [], rfl, Own.nil _ _ _ _, hb1, HCG.out, by simp [tot], HU.out, by simp⟩
    case round =>
      obtain ⟨k, A2, n2, c2, hk, rfl, rfl, hrel⟩ := hrel
      by_cases hlt : k < f.length
      · obtain ⟨st, hn2, ho, hb, hcg, htot, hu, hsk⟩ := hrel.out
        clear hrel
        obtain ⟨bb, oo, rfl, -, hbs, h1, h2, h3⟩ := (HL.out.below hb).opn hlt
        rw [drop_get hlt] at hcg hu
        obtain ⟨ho1, ho2, ho3⟩ := HF.out f[k] (List.getElem_mem hlt)
        generalize f[k] = op at *
        obtain ⟨ok, ot, on⟩ := op
        simp only at h1 h2 h3 ho1 ho2 ho3
        obtain ⟨hg0, hg1, hg2⟩ := checkGo_cons hcg
        have hcap := ho.cap
        obtain ⟨q, hq⟩ : ∃ q : Nat, q = nd ⟨ok, ot, on⟩ := ⟨_, rfl⟩
        have hqn : needsS ⟨ok, ot, on⟩ = (q : Int) := by rw [hq]; unfold nd; omega
        have hnd := fun w => needs8_any ⟨ok, ot, on⟩ w ho1 ho2 ho3
        rw [hqn] at hnd hg0 hg1
        obtain ⟨p, hp⟩ : ∃ p, p = n2 - q := ⟨_, rfl⟩
        have hpq : (n2 : Int) - (q : Int) = (p : Int) := by omega
        have hsub := fun w => slicePart_from A2 n2 c2 p (by omega) w
        have hargs : Sl wr (fun b => w.heap.size ≤ b ∨ A2.map Addr.block = some b) (cutA A2 c2 p 2) (n2 - p) (c2 - p) (st.drop p) := (hn2 ▸ ho.sl (by decide)).cutA (by omega)
        have hnp : n2 - p = q := by omega
        have hpb : p ≤ 256 := by omega
        have hnb : n2 ≤ 256 := by omega
        rw [hnp] at hsub hargs
        generalize cutA A2 c2 p 2 = C at *
        have HND := Lib.hid hnd; have HO := Lib.hid ho; have HAR := Lib.hid hargs; have HU2 := Lib.hid hu; have HCG2 := Lib.hid hcg; have HQN := Lib.hid hqn; have HG2 := Lib.hid hg2; have HN2 := Lib.hid hn2; have HQ := Lib.hid hq; have HP := Lib.hid hp; have HNP := Lib.hid hnp
        clear hnd ho hargs hu hcg hqn hg2 hn2 hq hp hnp
        have hq8 : q ≤ 8 := by have := needsS_le ⟨ok, ot, on⟩; have := HQN.out; omega
        have hto := fun w => slicePart_to A2 n2 c2 p (by have := HN2.out; omega) w
        go_upto_block 2 with (first | (go_at_call 49; refine (HND.out _).mono ?_; rintro e w2 ⟨rfl, hb2⟩) | (at_builtin; refine wpList_appN (T := fun b => w.heap.size ≤ b) (base := w.heap.size) (xs := ([] : List Txt)) rfl (.tmp 26) (.tmp 32) eltPart rfl (by decide) rfl rfl rfl (Own.emp (blkAt _ _ rfl) (Nat.le_trans hb.size (Nat.le_trans (Nat.le_of_lt (lt_alloc wr _)) hb2.size))) rfl ((((HAR.out.alloc _).below hb2).wide (fun q hq1 hq => ⟨hq.elim id (fun hq => (HO.out.lt q hq).1), fun e => by simp at e; omega⟩) (by decide)).alloc _) (by simp; omega) (by simp; omega) (by have := hb.size; have := hb2.size; simp at this; simp; omega) ?_; intro A9 c9 w3 hown9 hg9 hat9; have hb9 : Below w2.heap.size w2 w3 := boxed.grown hg9 (by simp) (fun q hq => by simp at hq; omega); have h70 : w3.cell? ⟨wr.heap.size, 0, none⟩ = some (.int .i64 ok) := cell_later hb9 ((keptCell hb2 (blkAt wr _ rfl) 0).trans rfl); have h71 : w3.cell? ⟨wr.heap.size, 1, none⟩ = some (.string ⟨ot.toArray⟩) := cell_later hb9 ((keptCell hb2 (blkAt wr _ rfl) 1).trans rfl); have h72 : w3.cell? ⟨wr.heap.size, 2, none⟩ = some (.int .u32 on) := cell_later hb9 ((keptCell hb2 (blkAt wr _ rfl) 2).trans rfl); have hsz : wr.heap.size < w3.heap.size := Nat.lt_of_lt_of_le (lt_alloc wr _) (Nat.le_trans hb2.size hb9.size); have hs9 : Sl w3 (fun b => w.heap.size ≤ b ∨ A9.map Addr.block = some b) A9 q c9 (st.drop p) := (by have h := hown9.sl (by decide); have hl := HAR.out.len; rw [hl]; simpa using h); have HS9 := Lib.hid hs9; clear hs9 hown9 hg9 hat9; have HB2 := Lib.hid hb2; have HB9 := Lib.hid hb9; clear hb2 hb9))
        have hk17 : ok = 1 ∨ ok = 2 ∨ ok = 3 ∨ ok = 4 ∨ ok = 5 ∨ ok = 6 ∨ ok = 7 := by
          have h := HQN.out
          by_cases hx : ok = 1 ∨ ok = 2 ∨ ok = 3 ∨ ok = 4 ∨ ok = 5 ∨ ok = 6 ∨ ok = 7
          · exact hx
          · simp only [not_or] at hx
            unfold needsS at h
            simp [hx] at h
        have htd : tot (st.drop p) ≤ 10000 := by have := tot_split st p; omega
        have hdec : ∀ w, Calls Try.prog 50 #[.int .u32 on] w fun e w' => e = .returned (.string ⟨(decF 10 on.toNat).toArray⟩) ∧ Below w.heap.size w w' := fun w => decimal8_any 9 on.toNat on (by omega) (by omega) w (by omega) (by omega)
        have hcall := fun (name : Bs) (w' : World) (hb : Below w3.heap.size w3 w') => call8_any name A9 q c9 w' _ (st.drop p) (HS9.out.below hb) htd (by omega)
        have hcall5 := fun (w' : World) (hb : Below w3.heap.size w3 w') => call8_any [105, 110] none 0 0 w' (fun _ => True) [] (Sl.nil _ _ _ _ (by decide)) (by simp [tot]) (by decide)
        have HDEC := Lib.hid hdec; have HCALL := Lib.hid hcall; have HCALL5 := Lib.hid hcall5; have HTD := Lib.hid htd; clear hdec hcall hcall5 htd
        go_cut [] from 43 to 110 (fun wx => TxRel8 w3 w3.heap.size (text8S ⟨ok, ot, on⟩ (st.drop p)) wx)
        case first =>
          rcases hk17 with rfl | rfl | rfl | rfl | rfl | rfl | rfl
          · go_wp2_with (first | (go_at_call 50; refine (HDEC.out _).mono ?_; rintro e w4 ⟨rfl, hb4⟩; have h100 := cell_later hb4 ((cell_blk (blkAt w3 _ rfl) 0).trans rfl); have h101 := (keptFrozen hb4 (blkAt w3 _ rfl) 0); have h102 : w3.heap.size < w4.heap.size := Nat.lt_of_lt_of_le (lt_alloc w3 _) hb4.size))
            go_meet
            rw [text8_1]
            exact ⟨some ⟨w4.heap.size, 0, none⟩, 1, 1, blkOld (by rw [Blk.set w4 (keptBlk hb4 (blkAt w3 _ rfl)) 0]; rfl) _, tokSl (k := 2) (s := decF 10 on.toNat) (blkAt2 (by simp) rfl) h102, by ((repeat (first | (with_reducible exact Below.refl _ _) | (with_reducible refine belowA ?_ _) | (with_reducible refine belowD ?_) | (with_reducible refine belowS ?_ (Nat.le_refl _) _ _) | (with_reducible refine next ?_ (by assumption) (Nat.le_refl _)))); done)⟩
          · go_wp2
            go_meet
            rw [text8_2]
            exact ⟨some ⟨w3.heap.size + 1, 0, none⟩, 1, 1, by ((repeat (first | (with_reducible assumption) | ((with_reducible refine blkAt2 ?_ ?_); (focus (simp; done)); rfl) | (with_reducible refine blkOld ?_ _) | (with_reducible refine keptBlk (by assumption) ?_) | (with_reducible refine grownBlk (by assumption) ?_ (by simp; omega)) | (with_reducible refine blkDrw ?_))); done), tokSl (by ((repeat (first | (with_reducible assumption) | ((with_reducible refine blkAt2 ?_ ?_); (focus (simp; done)); rfl) | (with_reducible refine blkOld ?_ _) | (with_reducible refine keptBlk (by assumption) ?_) | (with_reducible refine grownBlk (by assumption) ?_ (by simp; omega)) | (with_reducible refine blkDrw ?_))); done)) (Nat.lt_succ_self _), by ((repeat (first | (with_reducible exact Below.refl _ _) | (with_reducible refine belowA ?_ _) | (with_reducible refine belowD ?_) | (with_reducible refine belowS ?_ (Nat.le_refl _) _ _) | (with_reducible refine next ?_ (by assumption) (Nat.le_refl _)))); done)⟩
          · go_wp2_with (first | (go_at_call 51; refine (HCALL.out ot _ (by ((repeat (first | (with_reducible exact Below.refl _ _) | (with_reducible refine belowA ?_ _) | (with_reducible refine belowD ?_) | (with_reducible refine belowS ?_ (Nat.le_refl _) _ _) | (with_reducible refine next ?_ (by assumption) (Nat.le_refl _)))); done))).mono ?_; rintro e w4 ⟨A4, n4, c4, rfl, hs4, hb4⟩; have hB4 := keptBlk hb4 (blkAt w3 _ rfl); have h100 : w4.cell? ⟨w3.heap.size, 0, none⟩ = some (.slice none 0 0) := (cell_blk hB4 0).trans rfl; have h101 : w4.cell? ⟨w3.heap.size, 1, none⟩ = some (.int .i64 12) := (cell_blk hB4 1).trans rfl; have z0 := frz_blk hB4 0; have z1 := frz_blk hB4 1; have HB4 := Lib.hid hB4; have HS4 := Lib.hid hs4; clear hs4 hB4))
            go_meet
            rw [text8_3]
            exact TxRel8.put2 (t := ⟨callS ot (st.drop p), 12⟩) HB4.out (HS4.out.wide (fun k _ hk => Nat.lt_of_lt_of_le (lt_alloc w3 _) hk) (by decide)) (by ((repeat (first | (with_reducible exact Below.refl _ _) | (with_reducible refine belowA ?_ _) | (with_reducible refine belowD ?_) | (with_reducible refine belowS ?_ (Nat.le_refl _) _ _) | (with_reducible refine next ?_ (by assumption) (Nat.le_refl _)))); done))
          · go_wp2_with (first | (go_at_call 51; refine (HCALL.out [108, 111, 97, 100] _ (by ((repeat (first | (with_reducible exact Below.refl _ _) | (with_reducible refine belowA ?_ _) | (with_reducible refine belowD ?_) | (with_reducible refine belowS ?_ (Nat.le_refl _) _ _) | (with_reducible refine next ?_ (by assumption) (Nat.le_refl _)))); done))).mono ?_; rintro e w4 ⟨A4, n4, c4, rfl, hs4, hb4⟩; have hB4 := keptBlk hb4 (blkAt w3 _ rfl); have h100 : w4.cell? ⟨w3.heap.size, 0, none⟩ = some (.slice none 0 0) := (cell_blk hB4 0).trans rfl; have h101 : w4.cell? ⟨w3.heap.size, 1, none⟩ = some (.int .i64 12) := (cell_blk hB4 1).trans rfl; have z0 := frz_blk hB4 0; have z1 := frz_blk hB4 1; have HB4 := Lib.hid hB4; have HS4 := Lib.hid hs4; clear hs4 hB4))
            go_meet
            rw [text8_4]
            exact TxRel8.put2 (t := ⟨callS [108, 111, 97, 100] (st.drop p), 12⟩) HB4.out (HS4.out.wide (fun k _ hk => Nat.lt_of_lt_of_le (lt_alloc w3 _) hk) (by decide)) (by ((repeat (first | (with_reducible exact Below.refl _ _) | (with_reducible refine belowA ?_ _) | (with_reducible refine belowD ?_) | (with_reducible refine belowS ?_ (Nat.le_refl _) _ _) | (with_reducible refine next ?_ (by assumption) (Nat.le_refl _)))); done))
          · go_wp2_with (first | (go_at_call 51; refine (HCALL5.out _ (by ((repeat (first | (with_reducible exact Below.refl _ _) | (with_reducible refine belowA ?_ _) | (with_reducible refine belowD ?_) | (with_reducible refine belowS ?_ (Nat.le_refl _) _ _) | (with_reducible refine next ?_ (by assumption) (Nat.le_refl _)))); done))).mono ?_; rintro e w4 ⟨A4, n4, c4, rfl, hs4, hb4⟩; have hB4 := keptBlk hb4 (blkAt w3 _ rfl); have h100 : w4.cell? ⟨w3.heap.size, 0, none⟩ = some (.slice none 0 0) := (cell_blk hB4 0).trans rfl; have h101 : w4.cell? ⟨w3.heap.size, 1, none⟩ = some (.int .i64 12) := (cell_blk hB4 1).trans rfl; have z0 := frz_blk hB4 0; have z1 := frz_blk hB4 1; have HB4 := Lib.hid hB4; have HS4 := Lib.hid hs4; clear hs4 hB4))
            go_meet
            rw [text8_5]
            exact TxRel8.put2 (t := ⟨callS [105, 110] [], 12⟩) HB4.out (HS4.out.wide (fun k _ hk => Nat.lt_of_lt_of_le (lt_alloc w3 _) hk) (by decide)) (by ((repeat (first | (with_reducible exact Below.refl _ _) | (with_reducible refine belowA ?_ _) | (with_reducible refine belowD ?_) | (with_reducible refine belowS ?_ (Nat.le_refl _) _ _) | (with_reducible refine next ?_ (by assumption) (Nat.le_refl _)))); done))
          · have hq1 := needs_6 HQN.out
            have hal : (st.drop p).length = 1 := by have := HN2.out; have := HNP.out; rw [List.length_drop]; omega
            have hx0 : (st.drop p)[0] = (st.drop p).getD 0 default := by simp [hal]
            obtain ⟨b9, o9, rfl, -, hlt9, A0, n0, c0, k90, k91, hs0⟩ := HS9.out.txt (k := 0) (by omega)
            simp only [Nat.zero_mul, Nat.add_zero] at k90 k91
            rw [hx0] at hs0 k91
            have hxl : ((st.drop p).getD 0 default).toks.length ≤ 10000 := Nat.le_trans (getD0_len _ (by omega)) HTD.out
            generalize hX : (st.drop p).getD 0 default = X at *
            have hs0' := hs0.wide (S' := fun b => b < w3.heap.size) (fun k hk _ => hk) (by decide)
            have hq0 : 1 ≤ q := by omega
            have HS0 := Lib.hid hs0'; have HX := Lib.hid hX; have HAL := Lib.hid hal; clear hs0 hs0' hX hal hx0 hq1
            have hn90 : (0 : Int) < (q : Int) := by omega
            have hn91 : 0 < q := by omega
            have hb7 : wr.heap.size ≠ w3.heap.size := by omega
            have hb9 : b9 ≠ w3.heap.size := by omega
            go_wp2_with fail
            go_region_held3 (fun w' => w'.cell? ⟨wr.heap.size, 1, none⟩ = some (.string ⟨ot.toArray⟩) ∧ w'.cell? ⟨b9, o9, none⟩ = some (.slice A0 n0 c0) ∧ w'.cell? ⟨b9, o9 + 1, none⟩ = some (.int .i64 X.lev))
              (((try go_split_ands); (try dsimp only); refine ⟨?_, ?_, ?_⟩ <;> ((repeat (first | (with_reducible assumption) | (with_reducible refine cell_alloc' ?_ _) | (with_reducible refine cell_drew' ?_) | (with_reducible refine cell_set ?_ (by assumption)) | (with_reducible refine cell_off (by decide) ?_) | (with_reducible refine cell_later (by assumption) ?_) | (with_reducible refine cell_grown (by assumption) ?_ (by simp; omega)))); done)))
              (first | (go_at_call 52; refine (sym8_any _ _).mono ?_; rintro e w4 ⟨rfl, hbz⟩; have hz4 : w3.heap.size < w4.heap.size := Nat.lt_of_lt_of_le (lt_alloc w3 _) hbz.size) | (go_at_call 53; refine (within8_any X A0 n0 c0 11 _ (fun b => b < w3.heap.size) (HS0.out.below (by ((repeat (first | (with_reducible exact Below.refl _ _) | (with_reducible refine belowA ?_ _) | (with_reducible refine belowD ?_) | (with_reducible refine belowS ?_ (Nat.le_refl _) _ _) | (with_reducible refine next ?_ (by assumption) (Nat.le_refl _)))); done))) hxl).mono ?_; rintro e w5 ⟨A5, n5, c5, rfl, hs5, hbz⟩; have hz5 := hbz.size; (try simp at hz5); have hn5 : n5 ≤ 10002 := (by have := hs5.len; have := atS_len X 11; omega); have tokA : True := trivial) | (have _t := tokA; go_must (refine (step_appN (T := fun _ => True) (base := w3.heap.size + 1) (xs := [(⟨3, ot⟩ : Tok)]) (ys := atS X 11) rfl (.tmp 76) (.tmp 80) eltTok rfl (by decide) rfl rfl rfl ?hown rfl ?hsl ?h63 ?hby ?hbase ?_)); go_must (case hown => exact (lit1 (T := fun _ => True) (base := w3.heap.size + 1) (k1 := 3) (s1 := ot) (by ((repeat (first | (with_reducible assumption) | ((with_reducible refine blkAt2 ?_ ?_); (focus (simp; done)); rfl) | (with_reducible refine blkOld ?_ _) | (with_reducible refine keptBlk (by assumption) ?_) | (with_reducible refine grownBlk (by assumption) ?_ (by simp; omega)) | (with_reducible refine blkDrw ?_))); done)) (by omega))); go_must (case hsl => first | exact (hs5.wide (fun q hq hk => ⟨trivial, fun e => by simp at e; (try simp at hk); omega⟩) (by decide)) | exact (hs5.wide (fun q hq hk => ⟨trivial, fun e => by simp at e; omega⟩) (by decide)).alloc _); go_must (case h63 => simp; omega); go_must (case hby => simp; omega); go_must (case hbase => (try simp); omega);  intro A6 c6 w6 hown6 hg6 hat6; have hB6 : w6.heap[w3.heap.size]? = some (.cells #[.slice none 0 0, .int .i64 12] 78 (0, 0)) := grownBlk hg6 (by ((repeat (first | (with_reducible assumption) | ((with_reducible refine blkAt2 ?_ ?_); (focus (simp; done)); rfl) | (with_reducible refine blkOld ?_ _) | (with_reducible refine keptBlk (by assumption) ?_) | (with_reducible refine grownBlk (by assumption) ?_ (by simp; omega)) | (with_reducible refine blkDrw ?_))); done)) (fun e => by simp at e; omega); have h100 : w6.cell? ⟨w3.heap.size, 0, none⟩ = some (.slice none 0 0) := (cell_blk hB6 0).trans rfl; have h101 : w6.cell? ⟨w3.heap.size, 1, none⟩ = some (.int .i64 12) := (cell_blk hB6 1).trans rfl; have z0 := frz_blk hB6 0; have z1 := frz_blk hB6 1))
            all_goals
              go_wp2_with fail
              go_meet
              rw [text8_6, HX.out]
              have hl5 := hs5.len
              refine TxRel8.put2 (t := ⟨[symK ot] ++ atS X 11, 11⟩) hB6 ((((hown6.tokT (T' := fun b => w3.heap.size + 1 ≤ b)).res).cast ?_).wide (fun k _ hk => hk) (by decide)) ?_
              · rw [List.length_append, ← hl5]; rfl
              · exact Below.grown (row := _) (by ((repeat (first | (with_reducible exact Below.refl _ _) | (with_reducible refine belowA ?_ _) | (with_reducible refine belowD ?_) | (with_reducible refine belowS ?_ (Nat.le_refl _) _ _) | (with_reducible refine next ?_ (by assumption) (Nat.le_refl _)))); done)) hg6 (by (try simp only [World.size_alloc]); omega) (by intro q hq; simp at hq; omega)
          · have hq1 := needs_7 HQN.out
            have hal : (st.drop p).length = 2 := by have := HN2.out; have := HNP.out; rw [List.length_drop]; omega
            have hx0 : (st.drop p)[0] = (st.drop p).getD 0 default := by simp [hal]
            have hx1 : (st.drop p)[1] = (st.drop p).getD 1 default := by simp [hal]
            obtain ⟨b9, o9, rfl, -, hlt9, A0, n0, c0, k90, k91, hs0⟩ := HS9.out.txt (k := 0) (by omega)
            obtain ⟨b9', o9', he9, -, -, A1, n1, c1, k92, k93, hs1⟩ := HS9.out.txt (k := 1) (by omega)
            injection he9 with he9
            injection he9 with he1 he2
            subst he1 he2
            simp only [Nat.zero_mul, Nat.add_zero, Nat.one_mul] at k90 k91 k92 k93
            rw [hx0] at hs0 k91
            rw [hx1] at hs1 k93
            have hxy := getD1_len (st.drop p) (by omega)
            have hxl : ((st.drop p).getD 0 default).toks.length ≤ 10000 := by have := HTD.out; omega
            have hyl : ((st.drop p).getD 1 default).toks.length ≤ 10000 := by have := HTD.out; omega
            clear hxy
            generalize hX : (st.drop p).getD 0 default = X at *
            generalize hY : (st.drop p).getD 1 default = Y at *
            have hs0' := hs0.wide (S' := fun b => b < w3.heap.size) (fun k hk _ => hk) (by decide)
            have hs1' := hs1.wide (S' := fun b => b < w3.heap.size) (fun k hk _ => hk) (by decide)
            have hlv := fun w => level8_any ot w
            have hlv10 := level_le ot
            generalize hL : level ot = L at *
            have hq0 : 2 ≤ q := by omega
            have HS0 := Lib.hid hs0'; have HS1 := Lib.hid hs1'; have HX := Lib.hid hX; have HY := Lib.hid hY; have HLV := Lib.hid hlv; have HLL := Lib.hid hL; clear hs0 hs0' hs1 hs1' hX hY hal hx0 hx1 hq1 hlv hL
            have hn90 : (0 : Int) < (q : Int) := by omega
            have hn91 : 0 < q := by omega
            have hn92 : (1 : Int) < (q : Int) := by omega
            have hn93 : 1 < q := by omega
            have hb7 : wr.heap.size ≠ w3.heap.size := by omega
            have hb9 : b9 ≠ w3.heap.size := by omega
            have hfr : ∀ W', Below (w3.alloc (.cells #[.slice none 0 0, .int .i64 12] 78)).heap.size (w3.alloc (.cells #[.slice none 0 0, .int .i64 12] 78)) W' → W'.cell? ⟨wr.heap.size, 1, none⟩ = some (.string ⟨ot.toArray⟩) ∧ W'.cell? ⟨b9, o9 + 2, none⟩ = some (.slice A1 n1 c1) ∧ W'.cell? ⟨b9, o9 + 2 + 1, none⟩ = some (.int .i64 Y.lev) ∧ W'.heap[w3.heap.size]? = some (.cells #[.slice none 0 0, .int .i64 12] 78 (0, 0)) ∧ w3.heap.size + 1 ≤ W'.heap.size := fun W' hW =>
              ⟨cell_later hW (cell_alloc' h71 _), cell_later hW (cell_alloc' k92 _), cell_later hW (cell_alloc' k93 _), keptBlk hW (blkAt w3 _ rfl), Nat.le_trans (lt_alloc w3 _) hW.size⟩
            have HFR := Lib.hid hfr; clear hfr
            have tok0 : True := trivial
            go_wp2_with (first | (go_at_call 54; refine (HLV.out _).mono ?_; rintro e w4 ⟨rfl, rfl⟩) | (go_at_call 53; have _t := tok0; refine (within8_any X A0 n0 c0 L _ (fun b => b < w3.heap.size) (HS0.out.below (by ((repeat (first | (with_reducible exact Below.refl _ _) | (with_reducible refine belowA ?_ _) | (with_reducible refine belowD ?_) | (with_reducible refine belowS ?_ (Nat.le_refl _) _ _) | (with_reducible refine next ?_ (by assumption) (Nat.le_refl _)))); done))) hxl).mono ?_; rintro e w5 ⟨A5, n5, c5, rfl, hs5, hb5⟩; have tokA : True := trivial; clear tok0) | (at_builtin; have _t := tokA; refine wpList_appN (T := fun _ => True) (base := w3.heap.size + 1) (xs := ([] : List Tok)) rfl (.tmp 88) (.tmp 93) eltTok rfl (by decide) rfl rfl rfl (Own.emp (b := w3.heap.size + 1) (by ((repeat (first | (with_reducible assumption) | ((with_reducible refine blkAt2 ?_ ?_); (focus (simp; done)); rfl) | (with_reducible refine blkOld ?_ _) | (with_reducible refine keptBlk (by assumption) ?_) | (with_reducible refine grownBlk (by assumption) ?_ (by simp; omega)) | (with_reducible refine blkDrw ?_))); done)) (Nat.le_refl _)) rfl (hs5.wide (fun q hq hk => ⟨trivial, fun e => by simp at e; (try simp at hk); omega⟩) (by decide)) (by have := hs5.len; have := atS_len X L; simp; omega) (by have := hs5.len; have := atS_len X L; simp; omega) (by have := hb5.size; simp at this; omega) ?_; intro A6 c6 w6 hown6 hg6 hat6; go_must (have hbq6 := Below.grown (row := _) (a := w3.alloc (.cells #[.slice none 0 0, .int .i64 12] 78)) (B := (w3.alloc (.cells #[.slice none 0 0, .int .i64 12] 78)).heap.size) (by ((repeat (first | (with_reducible exact Below.refl _ _) | (with_reducible refine belowA ?_ _) | (with_reducible refine belowD ?_) | (with_reducible refine belowS ?_ (Nat.le_refl _) _ _) | (with_reducible refine next ?_ (by assumption) (Nat.le_refl _)))); done)) hg6 (by have := hb5.size; simp at this; simp; omega) (by intro q hq; simp at hq; simp; omega)); go_must (obtain ⟨u60, u61, u62, u63, u64⟩ := HFR.out w6 hbq6); have tokB : True := trivial; clear tokA) | (go_at_call 52; have _t := tokB; refine (sym8_any _ _).mono ?_; rintro e w7 ⟨rfl, hb7⟩; have tokC : True := trivial; clear tokB) | (at_builtin; have _t := tokC; go_must (refine wpList_app1 (T := fun _ => True) (base := w3.heap.size + 1) (xs := [] ++ atS X L) rfl (.tmp 95) (.tmp 99) eltTok rfl (by decide) rfl rfl (by have := hs5.len; simp; omega) ((hown6.below hb7).alloc _) rfl [.int .i64 3, .string ⟨ot.toArray⟩] (⟨3, ot⟩ : Tok) (blkAt _ _ rfl) rfl ⟨rfl, rfl⟩ (by have := atS_len X L; simp; omega) (by have := atS_len X L; simp; omega) (by have := hb7.size; simp; omega) ?_); intro A8 c8 w8 hown8 hg8 hat8; go_must (have hbq8 := Below.grown (row := _) (a := w3.alloc (.cells #[.slice none 0 0, .int .i64 12] 78)) (B := (w3.alloc (.cells #[.slice none 0 0, .int .i64 12] 78)).heap.size) (by ((repeat (first | (with_reducible exact Below.refl _ _) | (with_reducible refine belowA ?_ _) | (with_reducible refine belowD ?_) | (with_reducible refine belowS ?_ (Nat.le_refl _) _ _) | (with_reducible refine next ?_ (by assumption) (Nat.le_refl _)))); done)) hg8 (by have := hb7.size; simp; omega) (by intro q hq; have := (hown6.lt q hq).1; simp; omega)); go_must (obtain ⟨u80, u81, u82, u83, u84⟩ := HFR.out w8 hbq8); have tokD : True := trivial; clear tokC) | (go_at_call 53; have _t := tokD; go_must (refine (within8_any Y A1 n1 c1 ((L : Int) + 1) _ (fun b => b < w3.heap.size) (HS1.out.below (by ((repeat (first | (with_reducible exact Below.refl _ _) | (with_reducible refine belowA ?_ _) | (with_reducible refine belowD ?_) | (with_reducible refine belowS ?_ (Nat.le_refl _) _ _) | (with_reducible refine next ?_ (by assumption) (Nat.le_refl _)))); done))) hyl).mono ?_); rintro e w9 ⟨A9, n9, c9, rfl, hs9, hb9⟩; have tokE : True := trivial; clear tokD) | (at_builtin; have _t := tokE; go_must (refine wpList_appN (T := fun _ => True) (base := w3.heap.size + 1) (xs := ([] ++ atS X L) ++ [(⟨3, ot⟩ : Tok)]) rfl (.tmp 101) (.tmp 107) eltTok rfl (by decide) rfl rfl (by have := hs5.len; simp; omega) (hown8.below hb9) rfl (hs9.wide (fun q hq hk => ⟨trivial, fun e => by have := hown8.lt q e; (try simp at hk); omega⟩) (by decide)) (by have := hs9.len; have := atS_len X L; have := atS_len Y ((L : Int) + 1); simp; omega) (by have := hs9.len; have := atS_len X L; have := atS_len Y ((L : Int) + 1); simp; omega) (by have := hb9.size; omega) ?_); intro Az cz wz hownz hgz hatz; go_must (have hbqz := Below.grown (row := _) (a := w3.alloc (.cells #[.slice none 0 0, .int .i64 12] 78)) (B := (w3.alloc (.cells #[.slice none 0 0, .int .i64 12] 78)).heap.size) (by ((repeat (first | (with_reducible exact Below.refl _ _) | (with_reducible refine belowA ?_ _) | (with_reducible refine belowD ?_) | (with_reducible refine belowS ?_ (Nat.le_refl _) _ _) | (with_reducible refine next ?_ (by assumption) (Nat.le_refl _)))); done)) hgz (by have := hb9.size; simp; omega) (by intro q hq; have := (hown8.lt q hq).1; simp; omega)); go_must (obtain ⟨uz0, uz1, uz2, uz3, uz4⟩ := HFR.out wz hbqz); have h100 : wz.cell? ⟨w3.heap.size, 0, none⟩ = some (.slice none 0 0) := (cell_blk uz3 0).trans rfl; have h101 : wz.cell? ⟨w3.heap.size, 1, none⟩ = some (.int .i64 12) := (cell_blk uz3 1).trans rfl; have z0 := frz_blk uz3 0; have z1 := frz_blk uz3 1; clear tokE))
            go_meet
            rw [text8_7, HX.out, HY.out, HLL.out]
            have hl5 := hs5.len
            have hl9 := hs9.len
            refine TxRel8.put2 (t := ⟨(([] ++ atS X L) ++ [symK ot]) ++ atS Y ((L : Int) + 1), (L : Int)⟩) uz3 ((((hownz.tokT (T' := fun b => w3.heap.size + 1 ≤ b)).res).cast ?_).wide (fun k _ hk => hk) (by decide)) ?_
            · simp [← hl5, ← hl9]; omega
            · ((repeat (first | (with_reducible exact Below.refl _ _) | (with_reducible refine belowA ?_ _) | (with_reducible refine belowD ?_) | (with_reducible refine belowS ?_ (Nat.le_refl _) _ _) | (with_reducible refine next ?_ (by assumption) (Nat.le_refl _)))); done)
        case rest =>
          obtain ⟨At, nt, ct, hB, hs, hbw⟩ := hcut
          have htl := text8S_len ⟨ok, ot, on⟩ (st.drop p) (by have := HN2.out; have := HNP.out; have := HQ.out; rw [List.length_drop]; omega) (by have := HQN.out; omega)
          obtain ⟨t, ht⟩ : ∃ t, t = text8S ⟨ok, ot, on⟩ (st.drop p) := ⟨_, rfl⟩
          rw [← ht] at hB hs htl
          have hbr : Below wr.heap.size wr w3 := by have hb2 := HB2.out; have hb9 := HB9.out; ((repeat (first | (with_reducible exact Below.refl _ _) | (with_reducible refine belowA ?_ _) | (with_reducible refine belowD ?_) | (with_reducible refine belowS ?_ (Nat.le_refl _) _ _) | (with_reducible refine next ?_ (by assumption) (Nat.le_refl _)))); done)
          have hbc : Below wr.heap.size wr wc := hbr.trans (hbw.mono hbr.size)
          have hown3 := (HO.out.below hbc).take p
          have hlt3 := (HO.out).lt
          have hbwc : Below w.heap.size w wc := next hb hbc (Nat.le_refl _)
          have e0 : wc.cell? ⟨w3.heap.size, 0, none⟩ = some (.slice At nt ct) := (cell_blk hB 0).trans rfl
          have e1 : wc.cell? ⟨w3.heap.size, 1, none⟩ = some (.int .i64 t.lev) := (cell_blk hB 1).trans rfl
          have htp : (st.take p).length = p := by have := HN2.out; rw [List.length_take]; omega
          have hsl : Sl wc (fun b => w.heap.size ≤ b ∧ A2.map Addr.block ≠ some b) At nt ct t.toks := hs.wide (fun q _ hq => ⟨by have := hb.size; omega, fun e => by have := (hlt3 q e).2; omega⟩) (by decide)
          have HT := Lib.hid ht; have HOW := Lib.hid hown3; have HSL := Lib.hid hsl; have HTP := Lib.hid htp; have HLT := Lib.hid hlt3; clear ht hown3 hsl htp hlt3 hB hs
          clear hsub hpq
          go_wp2_with (at_builtin; refine (wpList_app1 (T := fun b => w.heap.size ≤ b) (base := w.heap.size) (xs := st.take p) rfl (.tmp 111) (.tmp 113) eltPart rfl (by decide) rfl rfl HTP.out.symm (HOW.out.alloc _) rfl [.slice At nt ct, .int .i64 t.lev] t (blkAt _ _ rfl) rfl ⟨⟨At, nt, ct, rfl, (HSL.out.alloc _)⟩, rfl⟩ (by rw [HTP.out]; omega) (by rw [HTP.out]; omega) (by have := hbwc.size; simp; omega) ?_); intro A6 c6 w6 hown6 hg6 hat6)
          have hlen' : (st.take p ++ [t]).length = p + 1 := by rw [List.length_append, HTP.out]; rfl
          have hpn : p = st.length - nd ⟨ok, ot, on⟩ := by have := HN2.out; have := HP.out; have := HQ.out; omega
          go_roundw
          case rel =>
            refine ⟨k + 1, A6, p + 1, c6, by omega, by go_num, rfl, Lib.hid ⟨st.take p ++ [t], hlen'.symm, hown6, (hbwc.alloc hbwc.size _).grown hg6 (by have := hbwc.size; simp; omega) (fun q hq => (HLT.out q hq).1), ?_, ?_, ?_, by omega⟩⟩
            · have h := HG2.out
              rw [HQN.out] at h
              have e : ((st.take p ++ [t]).length : Int) = (st.length : Int) + (1 - (q : Int)) := by rw [hlen']; have := HN2.out; have := HNP.out; omega
              rw [e]
              exact h
            · have h1 := tot_split st p
              rw [tot_append]
              have h2 : tot [t] = t.toks.length := by simp [tot]
              omega
            · rw [HU2.out, print8Go, ← hpn, ← HT.out]
          case measure => simp [intOf]; omega
      · obtain ⟨st, hn2, ho, hb, hcg, htot, hu, hsk⟩ := hrel.out
        clear hrel
        rw [drop_end hlt] at hcg hu
        have h1 := checkGo_nil hcg
        have hn1 : n2 = 1 := by omega
        have hst : (st.getD 0 default) = st[0]'(by omega) := by simp [show 0 < st.length by omega]
        obtain ⟨b, o, rfl, hS, hlt9, At, nt, ct, k0, k1, hs⟩ := (ho.sl (by decide)).txt (k := 0) (by omega)
        have hlt3 := ho.lt
        rw [← hst] at hs
        simp only [Nat.zero_mul, Nat.add_zero] at k0 k1
        have hv2 := Hv.out
        have hus : u = st := hu
        rw [hus] at hv2
        generalize st.getD 0 default = X at *
        have hnt := hs.len
        have hres : Sl wr (fun b => w.heap.size ≤ b) At nt ct X.toks := hs.wide (fun q _ hq => hq.elim id (fun hq => (hlt3 q hq).1)) (by decide)
        have HRES := Lib.hid hres; have HNT := Lib.hid hnt; have HV2 := Lib.hid hv2
        subst hn1
        clear hres hnt hv2 hs hS hst ho hn2 h1 hu hus hcg htot hsk hlt3 k1
        by_cases hbig : 256 < nt
        · go_wp2
          go_ret2
          rw [HV2.out, if_pos (by have := HNT.out; omega)]
          exact ⟨none, 0, 0, rfl, Sl.nil _ _ _ _ (by decide), hb⟩
        · go_wp2
          go_ret2
          rw [HV2.out, if_neg (by have := HNT.out; omega)]
          exact ⟨At, nt, ct, rfl, HRES.out, hb⟩
  · rw [if_pos hc] at hv
    have Hck := Lib.hid hck; clear hck
    have hc' : (checkS f != 0) = true := by rw [bne_iff_ne]; exact hc
    have Hv := Lib.hid hv; clear hv hc
    go_enter Try.func17, Try.ntmps17
    go_wp2_with fail
    refine Hck.out.mono ?_
    rintro e w1 ⟨rfl, hb1⟩
    go_wp2
    go_ret2
    rw [Hv.out]
    exact ⟨none, 0, 0, rfl, Sl.nil _ _ _ _ (by decide), hb1⟩
end Go.Proofs.Ytchdpjgncojhaaa
