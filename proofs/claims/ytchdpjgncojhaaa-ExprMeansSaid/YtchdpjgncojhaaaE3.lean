/- Expressions: the walks of the parser's within and parentheses, over whatever part. -/
import Derived.Test.YtchdpjgncojhaaaE2
import Derived.Test.YtchdpjgncojhaaaParseSpec
set_option linter.unusedVariables false
set_option linter.unusedSimpArgs false
namespace Go.Proofs.Ytchdpjgncojhaaa
open Go.RowKit

/-- The blocks that a part may turn: the parser's, and those of X. -/
def PMX (X : Nat → Prop) (n0 g : Nat) (w : World) (b : Nat) : Prop := PM n0 g w b ∨ X b
def PPostX (X : Nat → Prop) (R : World → Prop) (n0 g : Nat) (w : World) (b : Bool) (st : PSt) (e : Ending) (w' : World) : Prop :=
  e = .returned (.bool b) ∧ PW w' n0 g st ∧ Frm (PMX X n0 g w) w w' ∧ R w'
/-- What a part must pay: what R says outlasts what the parser's own methods turn. -/
def Lasts (R : World → Prop) (n0 g : Nat) : Prop := ∀ w w', R w → Frm (PM n0 g w) w w' → R w'

theorem PMX.trans {X : Nat → Prop} {n0 g : Nat} {a b c : World} (h : Frm (PMX X n0 g a) a b) (k : Frm (PMX X n0 g b) b c) : Frm (PMX X n0 g a) a c :=
  h.transM k fun i hi hm => by
    refine Classical.byContradiction fun hn => ?_
    rcases hm with ⟨h0, hm⟩ | hm
    · rcases hm with rfl | ⟨cs, fz, hm⟩
      · exact hn (.inl ⟨h0, .inl rfl⟩)
      · exact hn (.inl ⟨h0, .inr ⟨cs, fz, by rw [← h.block i hi hn, hm]⟩⟩)
    · exact hn (.inr hm)
theorem Frm.blkX {X : Nat → Prop} {n0 g : Nat} {w w' : World} (h : Frm (PMX X n0 g w) w w') {b : Nat} {cs : Array Value} {t : TypeId} {fz : Nat × Nat} (hb : w.heap[b]? = some (.cells cs t fz)) (ht : t ≠ 50) (hg : b ≠ g) (hX : ¬ X b) : w'.heap[b]? = some (.cells cs t fz) := by
  rw [h.block b (Array.getElem?_eq_some_iff.1 hb).1, hb]
  rintro (⟨_, rfl | ⟨cs', fz', h'⟩⟩ | h')
  · exact hg rfl
  · rw [hb] at h'
    injection h' with h'
    injection h' with _ e
    exact ht e
  · exact hX h'
theorem PMX.of {X : Nat → Prop} {n0 g : Nat} {a b : World} (h : Frm (PM n0 g a) a b) : Frm (PMX X n0 g a) a b := h.mono fun _ _ hm => .inl hm
theorem PMX.plain {n0 g : Nat} {a b : World} (h : Frm (PMX (fun _ => False) n0 g a) a b) : Frm (PM n0 g a) a b := h.mono fun _ _ hm => hm.elim id False.elim

set_option maxRecDepth 100000 in
/-- within(part), where it is not too deep; part: whatever function value, by its own contract. -/
theorem within_any (X : Nat → Prop) (R : World → Prop) (n0 g : Nat) (st : PSt) (F : Nat) (first caps : Array Value) (hF : ∀ (args : Array Value) (w : World), (callFunc F args).run Try.prog w = .ok (.enter F args) w)
    (hR : Lasts R n0 g) (b : Bool) (s2 : PSt) (w : World) (h : PW w n0 g st) (hd : st.depth ≤ 24) (hd0 : 0 ≤ st.depth) (hr : 1 ≤ st.rest.length) (hs2 : s2.depth = st.depth + 1)
    (hpart : ∀ w1, PW w1 n0 g { st with depth := st.depth + 1, rest := st.rest.tail } → Frm (PM n0 g w) w w1 → Calls Try.prog F (first ++ caps) w1 (PPostX X R n0 g w1 b s2)) :
    Calls Try.prog 97 #[.pointer (some ⟨g, 0, none⟩), .func (.func F) first caps] w (PPostX X R n0 g w b { s2 with depth := s2.depth - 1 }) := by
  obtain ⟨hn0, hol, htl, A, n, c, Ao, co, hb, hsl, hown⟩ := h
  have c0 := cell_blk hb 0
  have c1 := cell_blk hb 1
  have z0 := frz_blk hb 0
  have z1 := frz_blk hb 1
  simp only [List.getElem?_toArray, List.getElem?_cons_succ, List.getElem?_cons_zero] at c0 c1
  have hn := hsl.len
  subst hn
  have hle := hsl.le
  have hcap := hsl.2.1
  have HB := Lib.hid hb; clear hb
  have HS := Lib.hid hsl; clear hsl
  have HO := Lib.hid hown; clear hown
  have HP := Lib.hid hpart; clear hpart
  have HRR := Lib.hid hR; clear hR
  have Hs2 := Lib.hid hs2; clear hs2
  have hgz : g < w.heap.size := (Array.getElem?_eq_some_iff.1 HB.out).1
  go_enter Try.func97, Try.ntmps97
  go_wp2_with fail
  · have hc : c = 1 := by assumption
    refine (HP.out _ (PW.mk_ hn0 hol (fun t ht => htl t (List.mem_of_mem_tail ht)) (by rw [Blk.set _ (Blk.set w HB.out 1 _) 0]; rfl) (HS.out.tail1 hr hc) HO.out (fun k _ hk => (set_other _ _ _ _ _ hk).trans (set_other _ _ _ _ _ hk))) (((Frm.refl _ _).setCell (fun _ => ⟨hn0, .inl rfl⟩) _).setCell (fun _ => ⟨hn0, .inl rfl⟩) _)).mono ?_
    rintro e w2 ⟨rfl, ⟨-, hol2, htl2, A2, n2, c2, Ao2, co2, hb2, hsl2, hown2⟩, hf2, hr2⟩
    have d1 := cell_blk hb2 1
    have y1 := frz_blk hb2 1
    simp only [List.getElem?_toArray, List.getElem?_cons_succ, List.getElem?_cons_zero] at d1
    have hb1 : 1 ≤ s2.depth := by have := Hs2.out; omega
    have hb3 : s2.depth ≤ 25 := by have := Hs2.out; omega
    have HB2 := Lib.hid hb2; clear hb2
    have HS2 := Lib.hid hsl2; clear hsl2
    have HO2 := Lib.hid hown2; clear hown2
    go_wp2
    go_ret
    have hf1 : Frm (PM n0 g w) w ((w.setCell ⟨g, 1, none⟩ (.int .i64 (st.depth + 1))).setCell ⟨g, 0, none⟩ (.slice A (st.rest.length - 1) 0)) := ((Frm.refl _ _).setCell (fun _ => ⟨hn0, .inl rfl⟩) _).setCell (fun _ => ⟨hn0, .inl rfl⟩) _
    have hf3 : Frm (PM n0 g w2) w2 (w2.setCell ⟨g, 1, none⟩ (.int .i64 (s2.depth - 1))) := (Frm.refl _ _).setCell (fun _ => ⟨hn0, .inl rfl⟩) _
    exact ⟨rfl, PW.mk_ hn0 hol2 htl2 (by rw [Blk.set _ HB2.out 1]; rfl) HS2.out HO2.out (fun k _ hk => set_other _ _ _ _ _ hk), PMX.trans (PMX.trans (PMX.of hf1) hf2) (PMX.of hf3), HRR.out _ _ hr2 hf3⟩
  · have hc : ¬ c = 1 := by assumption
    refine (HP.out _ (PW.mk_ hn0 hol (fun t ht => htl t (List.mem_of_mem_tail ht)) (by rw [Blk.set _ (Blk.set w HB.out 1 _) 0]; rfl) (HS.out.tail2 hr hc) HO.out (fun k _ hk => (set_other _ _ _ _ _ hk).trans (set_other _ _ _ _ _ hk))) (((Frm.refl _ _).setCell (fun _ => ⟨hn0, .inl rfl⟩) _).setCell (fun _ => ⟨hn0, .inl rfl⟩) _)).mono ?_
    rintro e w2 ⟨rfl, ⟨-, hol2, htl2, A2, n2, c2, Ao2, co2, hb2, hsl2, hown2⟩, hf2, hr2⟩
    have d1 := cell_blk hb2 1
    have y1 := frz_blk hb2 1
    simp only [List.getElem?_toArray, List.getElem?_cons_succ, List.getElem?_cons_zero] at d1
    have hb1 : 1 ≤ s2.depth := by have := Hs2.out; omega
    have hb3 : s2.depth ≤ 25 := by have := Hs2.out; omega
    have HB2 := Lib.hid hb2; clear hb2
    have HS2 := Lib.hid hsl2; clear hsl2
    have HO2 := Lib.hid hown2; clear hown2
    go_wp2
    go_ret
    have hf1 : Frm (PM n0 g w) w ((w.setCell ⟨g, 1, none⟩ (.int .i64 (st.depth + 1))).setCell ⟨g, 0, none⟩ (.slice (A.map fun x => { block := x.block, off := x.off + 2 }) (st.rest.length - 1) (c - 1))) := ((Frm.refl _ _).setCell (fun _ => ⟨hn0, .inl rfl⟩) _).setCell (fun _ => ⟨hn0, .inl rfl⟩) _
    have hf3 : Frm (PM n0 g w2) w2 (w2.setCell ⟨g, 1, none⟩ (.int .i64 (s2.depth - 1))) := (Frm.refl _ _).setCell (fun _ => ⟨hn0, .inl rfl⟩) _
    exact ⟨rfl, PW.mk_ hn0 hol2 htl2 (by rw [Blk.set _ HB2.out 1]; rfl) HS2.out HO2.out (fun k _ hk => set_other _ _ _ _ _ hk), PMX.trans (PMX.trans (PMX.of hf1) hf2) (PMX.of hf3), HRR.out _ _ hr2 hf3⟩

theorem Frm.any {M : Nat → Prop} {w w' : World} (h : Below w.heap.size w w') : Frm M w w' := Frm.of_below h fun i hi hle => by omega

set_option maxRecDepth 100000 in
/-- parentheses' own part: the part, then ')'. -/
theorem paren1_any (X : Nat → Prop) (R : World → Prop) (n0 g : Nat) (st : PSt) (F : Nat) (first caps : Array Value) (hF : ∀ (args : Array Value) (w : World), (callFunc F args).run Try.prog w = .ok (.enter F args) w)
    (hR : Lasts R n0 g) (b : Bool) (s2 : PSt) (w : World) (hpw : PW w n0 g st) (bp bf : Nat) (hbp : w.heap[bp]? = some (.cells #[.pointer (some ⟨g, 0, none⟩)] 57 (0, 0))) (hbf : w.heap[bf]? = some (.cells #[.func (.func F) first caps] 23 (0, 0)))
    (hXp : ¬ X bp) (hgp : bp ≠ g)
    (hpart : Calls Try.prog F (first ++ caps) w (PPostX X R n0 g w b s2)) :
    Calls Try.prog 109 #[.pointer (some ⟨bf, 0, none⟩), .pointer (some ⟨bp, 0, none⟩)] w (PPostX X R n0 g w (if b then (ptake s2 [41]).1 else b) (if b then (ptake s2 [41]).2 else s2)) := by
  have cp := cell_blk hbp 0
  have cf := cell_blk hbf 0
  simp only [List.getElem?_toArray, List.getElem?_cons_zero] at cp cf
  have HBp := Lib.hid hbp; clear hbp
  have HBf := Lib.hid hbf; clear hbf
  have HP := Lib.hid hpart; clear hpart
  have HRR := Lib.hid hR; clear hR
  clear hpw
  cases b
  · simp only [Bool.false_eq_true, if_false]
    go_enter Try.func109, Try.ntmps109
    go_wp2_with fail
    refine HP.out.mono ?_
    rintro e w2 ⟨rfl, hpw2, hf2, hr2⟩
    go_wp2
    go_ret
    exact ⟨rfl, hpw2, hf2, hr2⟩
  · simp only [if_true]
    go_enter Try.func109, Try.ntmps109
    go_wp2_with fail
    refine HP.out.mono ?_
    rintro e w2 ⟨rfl, hpw2, hf2, hr2⟩
    have hbp2 : w2.heap[bp]? = some (.cells #[.pointer (some ⟨g, 0, none⟩)] 57 (0, 0)) := hf2.blkX HBp.out (by decide) hgp hXp
    have cp2 := cell_blk hbp2 0
    simp only [List.getElem?_toArray, List.getElem?_cons_zero] at cp2
    clear hbp2
    go_wp2_with fail
    refine (take_any n0 g s2 [41] _ hpw2).mono ?_
    rintro e w3 ⟨rfl, hpw3, hf3⟩
    go_wp2
    go_ret
    exact ⟨rfl, hpw3, PMX.trans hf2 (PMX.of hf3), HRR.out _ _ hr2 hf3⟩

theorem pfail_depth (st : PSt) (e : Int) : (pfail st e).2.depth = st.depth := by unfold pfail; split <;> rfl
theorem ptake_depth (st : PSt) (s : Bs) : (ptake st s).2.depth = st.depth := by
  unfold ptake; split
  · rfl
  · exact pfail_depth _ _

set_option maxRecDepth 100000 in
/-- parentheses(part), where '(' is next and it is not too deep. -/
theorem parens_any (X : Nat → Prop) (R : World → Prop) (n0 g : Nat) (st : PSt) (F : Nat) (first caps : Array Value) (hF : ∀ (args : Array Value) (w : World), (callFunc F args).run Try.prog w = .ok (.enter F args) w)
    (hR : Lasts R n0 g) (b : Bool) (s2 : PSt) (w : World) (h : PW w n0 g st) (hnx : pnext st [40] = true) (hd : st.depth ≤ 24) (hd0 : 0 ≤ st.depth) (hs2 : s2.depth = st.depth + 1) (hX : ∀ k, X k → k < w.heap.size)
    (hpart : ∀ w1, PW w1 n0 g { st with depth := st.depth + 1, rest := st.rest.tail } → Frm (PM n0 g w) w w1 → Calls Try.prog F (first ++ caps) w1 (PPostX X R n0 g w1 b s2)) :
    Calls Try.prog 99 #[.pointer (some ⟨g, 0, none⟩), .func (.func F) first caps] w (PPostX X R n0 g w (if b then (ptake s2 [41]).1 else b) { (if b then (ptake s2 [41]).2 else s2) with depth := (if b then (ptake s2 [41]).2 else s2).depth - 1 }) := by
  have hr : 1 ≤ st.rest.length := by
    unfold pnext at hnx
    cases hr : st.rest with
    | nil => rw [hr] at hnx; simp at hnx
    | cons t r => simp
  have hs3 : (if b then (ptake s2 [41]).2 else s2).depth = st.depth + 1 := by cases b; exact hs2; exact (ptake_depth _ _).trans hs2
  have hgz := h.lt
  have H := Lib.hid h; clear h
  have HP := Lib.hid hpart; clear hpart
  have HRR := Lib.hid hR; clear hR
  have HF := Lib.hid hF; clear hF
  have HX := Lib.hid hX; clear hX
  have Hs2 := Lib.hid hs2; clear hs2
  have Hs3 := Lib.hid hs3; clear hs3
  have HN := Lib.hid hnx; clear hnx
  generalize hv1 : (if b = true then (ptake s2 [41]).1 else b) = v1
  generalize hv2 : (if b = true then (ptake s2 [41]).2 else s2) = v2 at *
  have Hv1 := Lib.hid hv1; clear hv1
  have Hv2 := Lib.hid hv2; clear hv2
  go_enter Try.func99, Try.ntmps99
  go_wp2_with fail
  have hpw2 : PW ((w.alloc (.cells #[.pointer (some ⟨g, 0, none⟩)] 57)).alloc (.cells #[.func (.func F) first caps] 23)) n0 g st := H.out.below ((boxed).alloc (by simp) _)
  refine (next_is n0 g st [40] _ hpw2).mono ?_
  rw [HN.out]
  rintro e w' ⟨rfl, rfl⟩
  go_wp2_with fail
  refine (within_any X R n0 g st 109 #[] #[.pointer (some ⟨w.heap.size + 1, 0, none⟩), .pointer (some ⟨w.heap.size, 0, none⟩)] (fun _ _ => by kernel_rfl) HRR.out v1 v2 _ hpw2 hd hd0 hr Hs3.out ?_).mono ?_
  · intro w1 hw1 hf1
    have hf0 : Frm (PM n0 g w) w w1 := PM.trans (Frm.any (boxed.alloc (by simp) _)) hf1
    have hb1 : w1.heap[w.heap.size]? = some (.cells #[.pointer (some ⟨g, 0, none⟩)] 57 (0, 0)) := hf1.blk (blkOld (heap_alloc_new w _) _) (by decide) (by omega)
    have hb2 : w1.heap[w.heap.size + 1]? = some (.cells #[.func (.func F) first caps] 23 (0, 0)) := hf1.blk (blkAt _ _ (by simp)) (by decide) (by omega)
    have := paren1_any X R n0 g _ F first caps HF.out HRR.out b s2 w1 hw1 w.heap.size (w.heap.size + 1) hb1 hb2 (fun hx => by have := HX.out _ hx; omega) (by omega) (HP.out w1 hw1 hf0)
    rw [Hv1.out, Hv2.out] at this
    exact this
  · rintro e w3 ⟨rfl, hpw3, hf3, hr3⟩
    go_wp2
    go_ret
    exact ⟨rfl, hpw3, PMX.trans (Frm.any (boxed.alloc (by simp) _)) hf3, hr3⟩
end Go.Proofs.Ytchdpjgncojhaaa
