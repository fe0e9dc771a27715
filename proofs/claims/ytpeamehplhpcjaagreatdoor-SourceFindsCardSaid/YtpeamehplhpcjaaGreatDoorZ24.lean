/- A part of the proofs of the laws of one package; see the law's own text, which comes last in 'order'. No conditions of its own. -/
import Derived.Test.YtpeamehplhpcjaaGreatDoorZ23
set_option linter.unusedVariables false
set_option linter.unusedSimpArgs false
namespace Go.Proofs.YtpeamehplhpcjaaGreatDoor
open Go.RowKit
def ScanPost (w : World) (R : Unt × Flt) (e : Ending) (w' : World) : Prop := ∃ v, e = .returned (.tuple #[v, vFlt R.2]) ∧ VUnt w' v R.1 ∧ Below w.heap.size w w'
structure ResW (w W : World) : Prop where
  bl : Below w.heap.size w W
  r0 : W.heap[w.heap.size]? = some (.cells #[.string ⟨#[]⟩, .slice none 0 0, .slice none 0 0, .slice none 0 0, .slice none 0 0, .slice none 0 0] 36 (0, 0))
  r1 : W.heap[w.heap.size + 1]? = some (.cells #[.int .i64 0, .int .i64 0, .int .i64 0, .string ⟨#[]⟩, .int .i64 0] 40 (0, 0))
theorem ResW.below {w W W' : World} (h : ResW w W) (hb : Below W.heap.size W W') : ResW w W' := ⟨h.bl.trans (hb.mono h.bl.size), keptBlk hb h.r0, keptBlk hb h.r1⟩
theorem ResW.lt {w W : World} (h : ResW w W) : w.heap.size + 2 ≤ W.heap.size := (Array.getElem?_eq_some_iff.1 h.r1).1
theorem ResW.out {w W W' : World} {M M' : Nat → Prop} (h : ResW w W) (o : ScOut W M W' M') (hM : ∀ k, M k → w.heap.size + 2 ≤ k) : ResW w W' := by
  refine ⟨?_, o.blk h.r0 (fun hm => by have := hM _ hm; omega), o.blk h.r1 (fun hm => by have := hM _ hm; omega)⟩
  exact h.bl.trans (o.2.below (Nat.le_trans (Nat.le_add_right _ 2) h.lt) (fun i hi hm => by have := hM i hm; omega))
theorem Blk.set6 (w : World) {g : Nat} {cs : Array Value} {t : TypeId} (h : w.heap[g]? = some (.cells cs t (0, 0))) (a0 a1 a2 a3 a4 a5 : Value) :
    ((((((w.setCell ⟨g, 0, none⟩ a0).setCell ⟨g, 1, none⟩ a1).setCell ⟨g, 2, none⟩ a2).setCell ⟨g, 3, none⟩ a3).setCell ⟨g, 4, none⟩ a4).setCell ⟨g, 5, none⟩ a5).heap[g]? = some (.cells ((((((cs.setIfInBounds 0 a0).setIfInBounds 1 a1).setIfInBounds 2 a2).setIfInBounds 3 a3).setIfInBounds 4 a4).setIfInBounds 5 a5) t (0, 0)) :=
  Blk.set _ (set5' w h 0 1 2 3 4 a0 a1 a2 a3 a4) 5 a5
theorem set6_other (w : World) {g : Nat} (a0 a1 a2 a3 a4 a5 : Value) (q : Nat) (hq : q ≠ g) :
    ((((((w.setCell ⟨g, 0, none⟩ a0).setCell ⟨g, 1, none⟩ a1).setCell ⟨g, 2, none⟩ a2).setCell ⟨g, 3, none⟩ a3).setCell ⟨g, 4, none⟩ a4).setCell ⟨g, 5, none⟩ a5).heap[q]? = w.heap[q]? :=
  (set_other _ _ _ _ _ hq).trans (set5_other w 0 1 2 3 4 a0 a1 a2 a3 a4 q hq)
theorem ResW.set {w W : World} (h : ResW w W) (a0 a1 a2 a3 a4 a5 b0 b1 b2 b3 b4 : Value) :
    (((((((((((W.setCell ⟨w.heap.size, 0, none⟩ a0).setCell ⟨w.heap.size, 1, none⟩ a1).setCell ⟨w.heap.size, 2, none⟩ a2).setCell ⟨w.heap.size, 3, none⟩ a3).setCell ⟨w.heap.size, 4, none⟩ a4).setCell ⟨w.heap.size, 5, none⟩ a5).setCell ⟨w.heap.size + 1, 0, none⟩ b0).setCell ⟨w.heap.size + 1, 1, none⟩ b1).setCell ⟨w.heap.size + 1, 2, none⟩ b2).setCell ⟨w.heap.size + 1, 3, none⟩ b3).setCell ⟨w.heap.size + 1, 4, none⟩ b4).heap[w.heap.size]? = some (.cells #[a0, a1, a2, a3, a4, a5] 36 (0, 0)) ∧ (((((((((((W.setCell ⟨w.heap.size, 0, none⟩ a0).setCell ⟨w.heap.size, 1, none⟩ a1).setCell ⟨w.heap.size, 2, none⟩ a2).setCell ⟨w.heap.size, 3, none⟩ a3).setCell ⟨w.heap.size, 4, none⟩ a4).setCell ⟨w.heap.size, 5, none⟩ a5).setCell ⟨w.heap.size + 1, 0, none⟩ b0).setCell ⟨w.heap.size + 1, 1, none⟩ b1).setCell ⟨w.heap.size + 1, 2, none⟩ b2).setCell ⟨w.heap.size + 1, 3, none⟩ b3).setCell ⟨w.heap.size + 1, 4, none⟩ b4).heap[w.heap.size + 1]? = some (.cells #[b0, b1, b2, b3, b4] 40 (0, 0)) ∧ Below w.heap.size w (((((((((((W.setCell ⟨w.heap.size, 0, none⟩ a0).setCell ⟨w.heap.size, 1, none⟩ a1).setCell ⟨w.heap.size, 2, none⟩ a2).setCell ⟨w.heap.size, 3, none⟩ a3).setCell ⟨w.heap.size, 4, none⟩ a4).setCell ⟨w.heap.size, 5, none⟩ a5).setCell ⟨w.heap.size + 1, 0, none⟩ b0).setCell ⟨w.heap.size + 1, 1, none⟩ b1).setCell ⟨w.heap.size + 1, 2, none⟩ b2).setCell ⟨w.heap.size + 1, 3, none⟩ b3).setCell ⟨w.heap.size + 1, 4, none⟩ b4) := by
  refine ⟨(set5_other _ 0 1 2 3 4 _ _ _ _ _ _ (by omega)).trans (Blk.set6 W h.r0 a0 a1 a2 a3 a4 a5), set5' _ ((set6_other W a0 a1 a2 a3 a4 a5 _ (by omega)).trans h.r1) 0 1 2 3 4 b0 b1 b2 b3 b4, ?_⟩
  refine belowS (belowS (belowS (belowS (belowS (belowS (belowS (belowS (belowS (belowS (belowS h.bl ?_ _ _) ?_ _ _) ?_ _ _) ?_ _ _) ?_ _ _) ?_ _ _) ?_ _ _) ?_ _ _) ?_ _ _) ?_ _ _) ?_ _ _ <;> omega
def UnC (w6 wx : World) (u : Nat) (p : Bs) (iA : Option Addr) (n ic : Nat) (A4 : Option Addr) (n4 c4 : Nat) (hs : List Spn) : Prop :=
  wx.heap[u]? = some (.cells #[.string ⟨p.toArray⟩, .slice none 0 0, .slice none 0 0, .slice iA n ic, .slice A4 n4 c4, .slice none 0 0] 36 (0, 0)) ∧ Sl wx (fun k => w6.heap.size ≤ k ∧ k ≠ u) A4 n4 c4 hs ∧ Below w6.heap.size w6 wx ∧ w6.heap.size ≤ u
theorem nodup_vf {w : World} {b : Nat} {m : List (Bs × Bool)} (h : MapV TS w b (vFlags m)) : (m.map (·.1)).Nodup := by
  have := h.nodup
  unfold vFlags at this
  rw [List.map_map] at this
  exact this
theorem sortS_perm {a b : List Bs} (h : a.Perm b) : sortG ltS a = sortG ltS b := by
  obtain ⟨s1, s2⟩ := sortG_law strS a (fun x _ y _ => ltS_tot y x)
  obtain ⟨t1, t2⟩ := sortG_law strS b (fun x _ y _ => ltS_tot y x)
  exact srt_unique strS s1 t1 (fun x => by rw [s2, t2, h.mem_iff])
theorem mac_tot {b : List Mac} (hi : ∀ x ∈ b, ∀ y ∈ b, x.name = y.name → x = y) : ∀ x ∈ b, ∀ y ∈ b, ltMac y x = true ∨ y = x ∨ ltMac x y = true := fun x hx y hy => by
  rcases ltS_tot y.name x.name with h | h | h
  · exact .inl h
  · exact .inr (.inl (hi y hy x hx h))
  · exact .inr (.inr h)
theorem sortM_perm {a b : List Mac} (h : a.Perm b) (hi : ∀ x ∈ b, ∀ y ∈ b, x.name = y.name → x = y) : sortG ltMac a = sortG ltMac b := by
  have ht : ∀ x ∈ b, ∀ y ∈ b, ltMac y x = true ∨ y = x ∨ ltMac x y = true := fun x hx y hy => by
    rcases ltS_tot y.name x.name with h | h | h
    · exact .inl h
    · exact .inr (.inl (hi y hy x hx h))
    · exact .inr (.inr h)
  obtain ⟨s1, s2⟩ := sortG_law strMac a (fun x hx y hy => ht x (h.mem_iff.1 hx) y (h.mem_iff.1 hy))
  obtain ⟨t1, t2⟩ := sortG_law strMac b ht
  exact srt_unique strMac s1 t1 (fun x => by rw [s2, t2, h.mem_iff])
def VMacQ (w : World) (v : Value) (x : Mac) : Prop := ∃ A n c, v = .agg #[.string ⟨x.name.toArray⟩, .slice A n c, .string ⟨x.body.path.toArray⟩, .int .i64 x.body.fr, .int .i64 x.body.tu] ∧ Sl w (fun k => k < w.heap.size) A n c x.params
theorem vmacs_zip {w : World} {M : Nat → Prop} : ∀ {mv : List (Bs × Value)} {ms : List (Bs × Mac)}, VMacs w M mv ms → ∃ ls : List ((Bs × Value) × Mac), ls.map (·.1) = mv ∧ ls.map (·.2) = ms.map (·.2) ∧ ∀ q ∈ ls, VMacQ w q.1.2 q.2
  | [], [], _ => ⟨[], rfl, rfl, fun q hq => by cases hq⟩
  | p :: r, q :: t, h => by
    obtain ⟨ls, e1, e2, e3⟩ := vmacs_zip h.2.2
    obtain ⟨A, n, c, e, hs⟩ := h.2.1
    refine ⟨(p, q.2) :: ls, by rw [List.map_cons, e1], by rw [List.map_cons, e2, List.map_cons], fun x hx => ?_⟩
    rcases List.mem_cons.1 hx with rfl | hx
    · exact ⟨A, n, c, e, hs.wide (fun k hk _ => hk) (by decide)⟩
    · exact e3 x hx
  | [], _ :: _, h => h.elim
  | _ :: _, [], h => h.elim
structure UnW (V W : World) (u : Nat) (cs : Array Value) : Prop where
  fr : Frm (fun k => k = u) V W
  un : W.heap[u]? = some (.cells cs 36 (0, 0))
theorem un_keep {w3 W1 w7 : World} {u j : Nat} {v : Value} {A : Option Addr} (hb : Below w3.heap.size w3 W1) (hg : W1.grownBy w7 (A.map Addr.block)) : ∀ k, k < w3.heap.size → k ≠ u → A.map Addr.block ≠ some k → (w7.setCell ⟨u, j, none⟩ v).heap[k]? = w3.heap[k]? := fun k h1 h2 h3 =>
  (set_other _ _ _ _ _ h2).trans ((hg.block k (Nat.lt_of_lt_of_le h1 hb.size) (fun e => h3 e.symm)).trans (hb.block k h1))
theorem UnW.step {V wr w3 W1 w7 : World} {u r : Nat} {cs : Array Value} (h : UnW V wr u cs) (hu : u < V.heap.size) (hr : V.heap.size ≤ r) (hg3 : wr.grownBy w3 (some r)) (hb : Below w3.heap.size w3 W1) {A : Option Addr} (hA : ∀ k, A.map Addr.block = some k → V.heap.size ≤ k) (hg : W1.grownBy w7 (A.map Addr.block)) (j : Nat) (v : Value) : UnW V (w7.setCell ⟨u, j, none⟩ v) u (cs.setIfInBounds j v) := by
  have hz := h.fr.size
  have h3 := hg3.size
  refine ⟨?_, ?_⟩
  · refine ((((h.fr.grown hg3 (fun k e hk => by injection e with e; omega)).trans (Frm.any hb)).grown hg (fun k e hk => ?_)).setCell (p := ⟨u, j, none⟩) (fun _ => rfl) v)
    have := hA k e; omega
  · refine Blk.set _ ?_ j v
    rw [hg.block u (by have := hb.size; omega) (fun e => by have := hA u e.symm; omega), hb.block u (by omega), hg3.block u (by omega) (fun e => by injection e with e; omega)]
    exact h.un
set_option maxRecDepth 100000 in
set_option maxHeartbeats 16000000 in
theorem scan_any (A : Option Addr) (n c : Nat) (A2 : Option Addr) (n2 c2 : Nat) (w : World) (S S2 : Nat → Prop) (t : List Fil) (p : Bs) (fl : List Bs) (hl : Sl w S A n c t) (hl2 : Sl w S2 A2 n2 c2 fl) (hL : LS w) (hs : ∀ f ∈ t, f.path.length ≤ 4294967000) (hsd : treeS t = 0 → ∀ f ∈ t, f.data.length ≤ 4294967000) (hs1 : p.length ≤ 4294967000) (hs2 : ∀ s ∈ fl, s.length ≤ 4294967000) :
    Calls Tryz.prog 13 #[.slice A n c, .string ⟨p.toArray⟩, .slice A2 n2 c2] w (ScanPost w (scanS t p fl)) := by
  obtain ⟨R, hR⟩ : ∃ R, R = scanS t p fl := ⟨_, rfl⟩
  rw [← hR]
  unfold scanS at hR
  simp only at hR
  have hst := fun w' h1 h2 h3 => start_any A n c A2 n2 c2 w' S S2 t p fl h1 h2 h3 hs hsd hs1 hs2
  have hok := fun h => start_ok (t := t) (p := p) (fl := fl) h
  have hgB : gMx < w.heap.size := by obtain ⟨m, hm⟩ := hL.mxl; exact World.block_lt_of_cell? _ _ hm
  generalize startS t p fl = X at *
  obtain ⟨ls, ⟨ap, an⟩, ec⟩ := X
  simp only at hR hok
  have hn2 := hl2.len
  subst hn2
  have hle2 := hl2.le
  have HST := Lib.hid hst; have HOK := Lib.hid hok; have HR0 := Lib.hid hR; have HT := Lib.hid hl; have HF := Lib.hid hl2; have HL := Lib.hid hL; have HS2 := Lib.hid hs2
  clear hst hok hR hl hl2 hL hs hsd hs2
  go_enter Tryz.func13, Tryz.ntmps13
  go_upto_region 1 with fail
  have hW0 : ResW w ((w.alloc (.cells #[.string ⟨#[]⟩, .slice none 0 0, .slice none 0 0, .slice none 0 0, .slice none 0 0, .slice none 0 0] 36)).alloc (.cells #[.int .i64 0, .int .i64 0, .int .i64 0, .string ⟨#[]⟩, .int .i64 0] 40)) := ⟨by ((repeat (first | (with_reducible exact Below.refl _ _) | (with_reducible refine belowA ?_ _) | (with_reducible refine belowD ?_) | (with_reducible refine belowS ?_ (Nat.le_refl _) _ _) | (with_reducible refine next ?_ (by assumption) (Nat.le_refl _)))); done), blkOld (blkAt _ _ rfl) _, blkAt _ _ (by simp)⟩
  generalize ((w.alloc (.cells #[.string ⟨#[]⟩, .slice none 0 0, .slice none 0 0, .slice none 0 0, .slice none 0 0, .slice none 0 0] 36)).alloc (.cells #[.int .i64 0, .int .i64 0, .int .i64 0, .string ⟨#[]⟩, .int .i64 0] 40)) = W0 at *
  have HW0 := Lib.hid hW0
  clear hW0
  go_wp2_with fail
  refine (HST.out W0 (HT.out.below HW0.out.bl) (HF.out.below HW0.out.bl) (HL.out.below HW0.out.bl)).mono ?_
  rintro e w1 ⟨A3, n3, c3, rfl, hsl, hb1⟩
  simp only at hsl
  have HW1 := Lib.hid (HW0.out.below hb1)
  have hlw := HW0.out.lt
  have hsl' : Sl w1 (fun k => k < w1.heap.size) A3 n3 c3 ls := hsl.wide (fun k hk _ => hk) (by decide)
  have HSL := Lib.hid hsl'
  clear hb1 hsl hsl' HST
  go_upto_region 2 with fail
  have hb2 : Below w1.heap.size w1 (w1.alloc (.cells #[.string ⟨ap.toArray⟩, .int .i64 an] 38)) := boxed
  have hq2 := blkAt w1 (.cells #[.string ⟨ap.toArray⟩, .int .i64 an] 38) rfl
  generalize (w1.alloc (.cells #[.string ⟨ap.toArray⟩, .int .i64 an] 38)) = w2 at *
  have HW2 := Lib.hid (HW1.out.below hb2); have HSL2 := Lib.hid ((HSL.out.below hb2).wide (S' := fun k => k < w2.heap.size) (fun k hk _ => hk) (by decide)); have HQ2 := Lib.hid hq2
  have hw12 := HW1.out.lt
  clear hb2 hq2 HW1 HSL HW0
  by_cases hec : ec ≠ 0
  · have HR := Lib.hid (HR0.out.trans (if_pos hec))
    have hE : (ec != 0) = true := by rw [bne_iff_ne]; exact hec
    clear hec
    go_upto_region 3 with fail
    have HX := Lib.hid (fun (z : World) (hz : z.heap[w1.heap.size]? = some (.cells #[.string ⟨ap.toArray⟩, .int .i64 an] 38 (0, 0))) => And.intro ((cell_blk hz 0).trans rfl) ((cell_blk hz 1).trans rfl))
    refine wpH_region (fun z => z.heap[w1.heap.size]? = some (.cells #[.string ⟨ap.toArray⟩, .int .i64 an] 38 (0, 0))) (by kernel_rfl) ?_
    have hS := blkDrw HQ2.out
    have HW3 := Lib.hid (HW2.out.below (Below.refl _ _).drew)
    generalize w2.drew = w3 at *
    (refine tkW 0 (v := ?_) hS ?_ ?_; rotate_left; (focus (intro x hx; have fx := HX.out x hx; go_simp; (try with_reducible rfl); done)); (try simp only [Act.put, lsa, lsz, lss]))
    (refine tkW 1 (v := ?_) hS ?_ ?_; rotate_left; (focus (intro x hx; have fx := HX.out x hx; go_simp; (try with_reducible rfl); done)); (try simp only [Act.put, lsa, lsz, lss]))
    (refine tkW 2 (v := ?_) hS ?_ ?_; rotate_left; (focus (intro x hx; have fx := HX.out x hx; go_simp; (try with_reducible rfl); done)); (try simp only [Act.put, lsa, lsz, lss]))
    (refine tkW 3 (v := ?_) hS ?_ ?_; rotate_left; (focus (intro x hx; have fx := HX.out x hx; go_simp; (try with_reducible rfl); done)); (try simp only [Act.put, lsa, lsz, lss]))
    (have r00 := (cell_blk HW3.out.r0 0).trans rfl); (have r01 := (cell_blk HW3.out.r0 1).trans rfl); (have r02 := (cell_blk HW3.out.r0 2).trans rfl); (have r03 := (cell_blk HW3.out.r0 3).trans rfl); (have r04 := (cell_blk HW3.out.r0 4).trans rfl); (have r05 := (cell_blk HW3.out.r0 5).trans rfl); (have z00 := frz_blk HW3.out.r0 0); (have z01 := frz_blk HW3.out.r0 1); (have z02 := frz_blk HW3.out.r0 2); (have z03 := frz_blk HW3.out.r0 3); (have z04 := frz_blk HW3.out.r0 4); (have z05 := frz_blk HW3.out.r0 5); (have r10 := (cell_blk HW3.out.r1 0).trans rfl); (have r11 := (cell_blk HW3.out.r1 1).trans rfl); (have r12 := (cell_blk HW3.out.r1 2).trans rfl); (have r13 := (cell_blk HW3.out.r1 3).trans rfl); (have r14 := (cell_blk HW3.out.r1 4).trans rfl); (have z10 := frz_blk HW3.out.r1 0); (have z11 := frz_blk HW3.out.r1 1); (have z12 := frz_blk HW3.out.r1 2); (have z13 := frz_blk HW3.out.r1 3); (have z14 := frz_blk HW3.out.r1 4)
    (refine wpAnyH_one 4 (by kernel_rfl) rfl ?_; intro K' hK'; go_simp; refine hK'.out _ _ ((set6_other _ _ _ _ _ _ _ _ (by omega)).trans hS) ?_; clear hK' K')
    (refine wpAnyH_one 5 (by kernel_rfl) rfl ?_; intro K' hK'; go_simp; refine hK'.out _ _ ((set5_other _ 0 1 2 3 4 _ _ _ _ _ _ (by omega)).trans ((set6_other _ _ _ _ _ _ _ _ (by omega)).trans hS)) ?_; clear hK' K')
    refine wpAnyH_done (by kernel_rfl) ?_ _
    go_wp2_with fail
    (obtain ⟨hA, hB, hC⟩ := ResW.set HW3.out (.string ⟨#[]⟩) (.slice none 0 0) (.slice none 0 0) (.slice none 0 0) (.slice none 0 0) (.slice none 0 0) (.int .i64 ec) (.int .i64 (-1)) (.int .i64 (-1)) (.string ⟨ap.toArray⟩) (.int .i64 an)); (have q00 := (cell_blk hA 0).trans rfl); (have q01 := (cell_blk hA 1).trans rfl); (have q02 := (cell_blk hA 2).trans rfl); (have q03 := (cell_blk hA 3).trans rfl); (have q04 := (cell_blk hA 4).trans rfl); (have q05 := (cell_blk hA 5).trans rfl); (have q10 := (cell_blk hB 0).trans rfl); (have q11 := (cell_blk hB 1).trans rfl); (have q12 := (cell_blk hB 2).trans rfl); (have q13 := (cell_blk hB 3).trans rfl); (have q14 := (cell_blk hB 4).trans rfl)
    refine bodyPost_ret (v := .tuple #[.agg #[.string ⟨#[]⟩, .slice none 0 0, .slice none 0 0, .slice none 0 0, .slice none 0 0, .slice none 0 0], .agg #[.int .i64 ec, .int .i64 (-1), .int .i64 (-1), .string ⟨ap.toArray⟩, .int .i64 an]]) (by simp [results, Tryz.results13, go_sem, q00, q01, q02, q03, q04, q05, q10, q11, q12, q13, q14]) rfl ?_
    exact ⟨_, by rw [HR.out]; rfl, by rw [HR.out]; exact ⟨none, 0, 0, none, 0, 0, none, 0, 0, none, 0, 0, none, 0, 0, rfl, Sl.nil _ _ _ _ (by decide), Sl.nil _ _ _ _ (by decide), Sl.nil _ _ _ _ (by decide), Sl.nil _ _ _ _ (by decide), Sl.nil _ _ _ _ (by decide)⟩, hC⟩
  · have hec0 : ec = 0 := by omega
    subst hec0
    obtain ⟨hT0, hp1, hf1, hlo, hlpos⟩ := HOK.out rfl
    have HLO := Lib.hid hlo
    have HR1 := Lib.hid (HR0.out.trans (if_neg hec))
    have hTO := Lib.hid (tree_ok hT0)
    clear hec HR0 HOK hlo hT0
    have hmm := @run_makeMap Tryz.prog
    go_upto_region 5 with fail
    clear hmm
    have hbV : Below w2.heap.size w2 (((((w2.alloc (.map #[] 0)).alloc (.map #[] 0)).alloc (.map #[] 0)).alloc (.map #[] 0)).alloc (.cells #[.slice A n c, .map (some w2.heap.size), .map (some (w2.heap.size + 1)), .slice none 0 0, .map (some (w2.heap.size + 2)), .map (some (w2.heap.size + 3)), .slice none 0 0, .int .i64 0, .int .i64 0, .int .i64 0, .int .i64 0, .string ⟨#[]⟩, .int .i64 0] 96)) := by ((repeat (first | (with_reducible exact Below.refl _ _) | (with_reducible refine belowA ?_ _) | (with_reducible refine belowD ?_) | (with_reducible refine belowS ?_ (Nat.le_refl _) _ _) | (with_reducible refine next ?_ (by assumption) (Nat.le_refl _)))); done)
    have hzV : w2.heap.size + 4 < ((((((w2.alloc (.map #[] 0)).alloc (.map #[] 0)).alloc (.map #[] 0)).alloc (.map #[] 0)).alloc (.cells #[.slice A n c, .map (some w2.heap.size), .map (some (w2.heap.size + 1)), .slice none 0 0, .map (some (w2.heap.size + 2)), .map (some (w2.heap.size + 3)), .slice none 0 0, .int .i64 0, .int .i64 0, .int .i64 0, .int .i64 0, .string ⟨#[]⟩, .int .i64 0] 96))).heap.size := by simp
    have k0 : ((((((w2.alloc (.map #[] 0)).alloc (.map #[] 0)).alloc (.map #[] 0)).alloc (.map #[] 0)).alloc (.cells #[.slice A n c, .map (some w2.heap.size), .map (some (w2.heap.size + 1)), .slice none 0 0, .map (some (w2.heap.size + 2)), .map (some (w2.heap.size + 3)), .slice none 0 0, .int .i64 0, .int .i64 0, .int .i64 0, .int .i64 0, .string ⟨#[]⟩, .int .i64 0] 96))).heap[w2.heap.size]? = some (.map #[] 0) := by ((repeat (first | (with_reducible assumption) | ((with_reducible refine blkAt2 ?_ ?_); (focus (simp; done)); rfl) | (with_reducible refine blkOld ?_ _) | (with_reducible refine keptBlk (by assumption) ?_) | (with_reducible refine grownBlk (by assumption) ?_ (by simp; omega)) | (with_reducible refine blkDrw ?_))); done)
    have k1 : ((((((w2.alloc (.map #[] 0)).alloc (.map #[] 0)).alloc (.map #[] 0)).alloc (.map #[] 0)).alloc (.cells #[.slice A n c, .map (some w2.heap.size), .map (some (w2.heap.size + 1)), .slice none 0 0, .map (some (w2.heap.size + 2)), .map (some (w2.heap.size + 3)), .slice none 0 0, .int .i64 0, .int .i64 0, .int .i64 0, .int .i64 0, .string ⟨#[]⟩, .int .i64 0] 96))).heap[w2.heap.size + 1]? = some (.map #[] 0) := by ((repeat (first | (with_reducible assumption) | ((with_reducible refine blkAt2 ?_ ?_); (focus (simp; done)); rfl) | (with_reducible refine blkOld ?_ _) | (with_reducible refine keptBlk (by assumption) ?_) | (with_reducible refine grownBlk (by assumption) ?_ (by simp; omega)) | (with_reducible refine blkDrw ?_))); done)
    have k2 : ((((((w2.alloc (.map #[] 0)).alloc (.map #[] 0)).alloc (.map #[] 0)).alloc (.map #[] 0)).alloc (.cells #[.slice A n c, .map (some w2.heap.size), .map (some (w2.heap.size + 1)), .slice none 0 0, .map (some (w2.heap.size + 2)), .map (some (w2.heap.size + 3)), .slice none 0 0, .int .i64 0, .int .i64 0, .int .i64 0, .int .i64 0, .string ⟨#[]⟩, .int .i64 0] 96))).heap[w2.heap.size + 2]? = some (.map #[] 0) := by ((repeat (first | (with_reducible assumption) | ((with_reducible refine blkAt2 ?_ ?_); (focus (simp; done)); rfl) | (with_reducible refine blkOld ?_ _) | (with_reducible refine keptBlk (by assumption) ?_) | (with_reducible refine grownBlk (by assumption) ?_ (by simp; omega)) | (with_reducible refine blkDrw ?_))); done)
    have k3 : ((((((w2.alloc (.map #[] 0)).alloc (.map #[] 0)).alloc (.map #[] 0)).alloc (.map #[] 0)).alloc (.cells #[.slice A n c, .map (some w2.heap.size), .map (some (w2.heap.size + 1)), .slice none 0 0, .map (some (w2.heap.size + 2)), .map (some (w2.heap.size + 3)), .slice none 0 0, .int .i64 0, .int .i64 0, .int .i64 0, .int .i64 0, .string ⟨#[]⟩, .int .i64 0] 96))).heap[w2.heap.size + 3]? = some (.map #[] 0) := by ((repeat (first | (with_reducible assumption) | ((with_reducible refine blkAt2 ?_ ?_); (focus (simp; done)); rfl) | (with_reducible refine blkOld ?_ _) | (with_reducible refine keptBlk (by assumption) ?_) | (with_reducible refine grownBlk (by assumption) ?_ (by simp; omega)) | (with_reducible refine blkDrw ?_))); done)
    have kg : ((((((w2.alloc (.map #[] 0)).alloc (.map #[] 0)).alloc (.map #[] 0)).alloc (.map #[] 0)).alloc (.cells #[.slice A n c, .map (some w2.heap.size), .map (some (w2.heap.size + 1)), .slice none 0 0, .map (some (w2.heap.size + 2)), .map (some (w2.heap.size + 3)), .slice none 0 0, .int .i64 0, .int .i64 0, .int .i64 0, .int .i64 0, .string ⟨#[]⟩, .int .i64 0] 96))).heap[w2.heap.size + 4]? = some (.cells #[.slice A n c, .map (some w2.heap.size), .map (some (w2.heap.size + 1)), .slice none 0 0, .map (some (w2.heap.size + 2)), .map (some (w2.heap.size + 3)), .slice none 0 0, .int .i64 0, .int .i64 0, .int .i64 0, .int .i64 0, .string ⟨#[]⟩, .int .i64 0] 96 (0, 0)) := by ((repeat (first | (with_reducible assumption) | ((with_reducible refine blkAt2 ?_ ?_); (focus (simp; done)); rfl) | (with_reducible refine blkOld ?_ _) | (with_reducible refine keptBlk (by assumption) ?_) | (with_reducible refine grownBlk (by assumption) ?_ (by simp; omega)) | (with_reducible refine blkDrw ?_))); done)
    generalize (((((w2.alloc (.map #[] 0)).alloc (.map #[] 0)).alloc (.map #[] 0)).alloc (.map #[] 0)).alloc (.cells #[.slice A n c, .map (some w2.heap.size), .map (some (w2.heap.size + 1)), .slice none 0 0, .map (some (w2.heap.size + 2)), .map (some (w2.heap.size + 3)), .slice none 0 0, .int .i64 0, .int .i64 0, .int .i64 0, .int .i64 0, .string ⟨#[]⟩, .int .i64 0] 96)) = W4 at *
    have hB0 := HW2.out.lt
    have htree : Sl W4 (fun k => k < w2.heap.size) A n c t := ((HT.out.wide (S' := fun k => k < w.heap.size) (fun k hk _ => hk) (by decide)).below HW2.out.bl |>.below hbV).wide (fun k _ hk => by omega) (by decide)
    have HM4 := Lib.hid (made_scan hbV hzV htree k0 k1 k2 k3 kg)
    have HW4 := Lib.hid (HW2.out.below hbV); have HSL4 := Lib.hid (HSL2.out.below hbV)
    have HF4 := Lib.hid (((HF.out.wide (S' := fun k => k < w.heap.size) (fun k hk _ => hk) (by decide)).below HW2.out.bl).below hbV)
    have HL4 := Lib.hid (HL.out.below (HW2.out.bl.trans (hbV.mono HW2.out.bl.size)))
    clear hbV hzV k0 k1 k2 k3 kg htree HT HF HL HW2 HSL2 HQ2
    obtain ⟨g, hg⟩ : ∃ g, g = w2.heap.size + 1 + 1 + 1 + 1 := ⟨_, rfl⟩
    rw [← hg]
    have hg4 : w2.heap.size + 4 = g := by omega
    rw [hg4] at HM4
    obtain ⟨B, hB⟩ : ∃ B, B = w2.heap.size := ⟨_, rfl⟩
    rw [← hB] at HM4 hB0 HSL4
    have hgB4 : g = B + 4 := by omega
    have hgBw : B < g := by omega
    obtain ⟨M, hM⟩ : ∃ M : Nat → Prop, M = fun k => B ≤ k ∧ k ≤ g := ⟨_, rfl⟩
    rw [← hM] at HM4
    have hMB : ∀ k, M k → B ≤ k := fun k hk => by rw [hM] at hk; exact hk.1
    have HMB := Lib.hid hMB
    have hgMB : gMx < B := by omega
    have HS4 := Lib.hid (show ScW W4 M B g t (st0 (fl.take 0)) from ⟨_, _, _, _, _, _, _, _, _, _, _, _, HM4.out⟩)
    have hfile := fun W' M' h1 h2 h3 => (scan_all t B hTO.out hgMB 24 (by omega)).2 W' M' g (st0 fl) p A3 n3 c3 ls h1 ⟨Nat.zero_le _, Nat.zero_le _, Nat.zero_le _⟩ (by show 0 + 24 ≤ 24; omega) h2 (by omega) h3 HLO.out
    rw [show (24 : Int) - ((24 : Nat) : Int) = 0 from rfl] at hfile
    have hkeep := keep_file (keep_group t 24) p ls (s := st0 fl) ⟨Nat.zero_le _, Nat.zero_le _, Nat.zero_le _⟩
    have hnei := fun ok s2 h => (scan_ne t p ls fl (ok := ok) (s2 := s2) h)
    have HNEI := Lib.hid hnei
    clear hnei
    have hfin := fun s2 h => (scan_fin t p ls fl hlpos HLO.out.1 (s2 := s2) h)
    have HFI := Lib.hid hfile; have HKE := Lib.hid hkeep; have HFN := Lib.hid hfin
    clear HM4 hM hMB hB hg4 hg hgB4 hfile hkeep hfin
    generalize fileS (groupS t 24) p ls (st0 fl) = Y at *
    obtain ⟨ok, s2⟩ := Y
    simp only at HR1
    have HNE := Lib.hid (HNEI.out ok s2 rfl)
    clear HNEI
    go_wp2_with fail
    go_loopw [42] (fun i wr => ∃ k : Nat, k ≤ fl.length ∧ i = .int .i64 k ∧ Hid (ScW wr M B g t (st0 (fl.take k)) ∧ ScOut W4 M wr M)) (fun i _ => fl.length - (intOf i).toNat)
    case atStart => exact ⟨0, Nat.zero_le _, rfl, Lib.hid ⟨HS4.out, ScOut.refl _ _⟩⟩
    case round =>
      obtain ⟨k, hk, rfl, hr⟩ := hrel
      obtain ⟨h1, h2⟩ := hr.out
      clear hr
      by_cases hlt : k < fl.length
      · obtain ⟨b1, o1, rfl, -, hb1, g1⟩ := (h2.sl HF4.out (fun j hj hm => by have := HMB.out j hm; omega)).str hlt
        have hfl := HS2.out _ (List.getElem_mem hlt)
        have hst := st0_step fl k hlt
        generalize fl[k] = fk at *
        obtain ⟨tA, tn, tc, mf, mm, mh, ml, iA, ic, oA, oc, mv, H1⟩ := h1
        have hcs := H1.cells
        unfold scC at hcs
        have c1 := (cell_blk hcs 1).trans rfl
        have H1H := Lib.hid H1; have HO1 := Lib.hid h2; have HST := Lib.hid hst
        have hpk : TS.ok fk := by show fk.length ≤ 9223372036854775807; omega
        clear H1 h2 hcs hst
        go_wp2_with (at_mapUpdate; go_loud (refine wpList_updV rfl _ _ _ rfl Tryz.underlying92 rfl fk rfl (.bool true) rfl H1H.out.flags hpk ?_); intro w5 hm5 hg5; have HM5 := Lib.hid hm5; have HG5 := Lib.hid hg5; clear hm5 hg5)
        obtain ⟨h51, h52⟩ := H1H.out.flag HM5.out HG5.out
        have HR5 := Lib.hid (show ScW w5 M B g t (st0 (fl.take (k + 1))) ∧ ScOut W4 M w5 M from ⟨by rw [HST.out]; exact ⟨_, _, _, _, _, _, _, _, _, _, _, _, h51⟩, HO1.out.trans h52⟩)
        clear h51 h52 HM5 HG5 c1 g1
        go_roundw
        case measure => simp [intOf]; omega
        case rel => exact ⟨k + 1, by omega, by go_num, HR5⟩
      · have hkl : k = fl.length := by omega
        subst hkl
        rw [List.take_length] at h1
        have hsl5 : Sl wr (fun j => ¬ M j) A3 n3 c3 ls := (h2.sl HSL4.out (fun j hj hm => by have := HMB.out j hm; omega)).wide (fun j hj hb hm => by have := HMB.out j hm; omega) (by decide)
        have hL5 := HL4.out.out hgMB HMB.out h2
        have hf5 := HFI.out wr M h1 hL5 hsl5
        have HF5 := Lib.hid hf5; have HW5 := Lib.hid (HW4.out.out h2 (fun j hj => by have := HMB.out j hj; omega))
        clear h1 h2 hsl5 hL5 hf5 HFI HF4 HSL4 HL4 HS4
        go_wp2_with fail
        refine HF5.out.mono ?_
        rintro e w6 ⟨rfl, M6, hs6, ho6⟩
        simp only at hs6
        have hM6 : ∀ j, M6 j → w.heap.size + 2 ≤ j := fun j hj => by
          rcases ho6.1 j hj with h | h
          · have := HMB.out j h; omega
          · have := HW5.out.lt; omega
        have HM6 := Lib.hid hM6
        have HW6 := Lib.hid (HW5.out.out ho6 (fun j hj => by have := HMB.out j hj; omega))
        obtain ⟨tA, tn, tc, mf, mm, mh, ml, iA, ic, oA, oc, mv, H6⟩ := hs6
        have H6H := Lib.hid H6
        have hgw : g ≠ w.heap.size ∧ g ≠ w.heap.size + 1 := by omega
        clear ho6 HF5 HW5 H6
        cases ok with
        | false =>
          have HR := Lib.hid (HR1.out.trans (if_pos rfl))
          go_upto_region 11 with fail
          have hcs := H6H.out.cells
          have HX := Lib.hid (fun (z : World) (hz : z.heap[g]? = some (.cells (scC tA tn tc mf mm iA ic mh ml oA oc s2) 96 (0, 0))) => And.intro (show z.cell? ⟨g, 8, none⟩ = some (.int .i64 s2.fault.err) from (cell_blk hz 8).trans rfl) (And.intro (show z.cell? ⟨g, 9, none⟩ = some (.int .i64 s2.fault.pkg) from (cell_blk hz 9).trans rfl) (And.intro (show z.cell? ⟨g, 10, none⟩ = some (.int .i64 s2.fault.step) from (cell_blk hz 10).trans rfl) (And.intro (show z.cell? ⟨g, 11, none⟩ = some (.string ⟨s2.fault.ln.path.toArray⟩) from (cell_blk hz 11).trans rfl) (show z.cell? ⟨g, 12, none⟩ = some (.int .i64 s2.fault.ln.n) from (cell_blk hz 12).trans rfl)))))
          refine wpH_region (fun z => z.heap[g]? = some (.cells (scC tA tn tc mf mm iA ic mh ml oA oc s2) 96 (0, 0))) (by kernel_rfl) ?_
          have hS := blkDrw hcs
          have HW7 := Lib.hid (HW6.out.below (Below.refl _ _).drew)
          clear hcs
          generalize w6.drew = w7 at *
          (refine tkW 0 (v := ?_) hS ?_ ?_; rotate_left; (focus (intro x hx; have fx := HX.out x hx; go_simp; (try with_reducible rfl); done)); (try simp only [Act.put, lsa, lsz, lss]))
          (refine tkW 1 (v := ?_) hS ?_ ?_; rotate_left; (focus (intro x hx; have fx := HX.out x hx; go_simp; (try with_reducible rfl); done)); (try simp only [Act.put, lsa, lsz, lss]))
          (refine tkW 2 (v := ?_) hS ?_ ?_; rotate_left; (focus (intro x hx; have fx := HX.out x hx; go_simp; (try with_reducible rfl); done)); (try simp only [Act.put, lsa, lsz, lss]))
          (refine tkW 3 (v := ?_) hS ?_ ?_; rotate_left; (focus (intro x hx; have fx := HX.out x hx; go_simp; (try with_reducible rfl); done)); (try simp only [Act.put, lsa, lsz, lss]))
          (refine tkW 4 (v := ?_) hS ?_ ?_; rotate_left; (focus (intro x hx; have fx := HX.out x hx; go_simp; (try with_reducible rfl); done)); (try simp only [Act.put, lsa, lsz, lss]))
          (have r00 := (cell_blk HW7.out.r0 0).trans rfl); (have r01 := (cell_blk HW7.out.r0 1).trans rfl); (have r02 := (cell_blk HW7.out.r0 2).trans rfl); (have r03 := (cell_blk HW7.out.r0 3).trans rfl); (have r04 := (cell_blk HW7.out.r0 4).trans rfl); (have r05 := (cell_blk HW7.out.r0 5).trans rfl); (have z00 := frz_blk HW7.out.r0 0); (have z01 := frz_blk HW7.out.r0 1); (have z02 := frz_blk HW7.out.r0 2); (have z03 := frz_blk HW7.out.r0 3); (have z04 := frz_blk HW7.out.r0 4); (have z05 := frz_blk HW7.out.r0 5); (have r10 := (cell_blk HW7.out.r1 0).trans rfl); (have r11 := (cell_blk HW7.out.r1 1).trans rfl); (have r12 := (cell_blk HW7.out.r1 2).trans rfl); (have r13 := (cell_blk HW7.out.r1 3).trans rfl); (have r14 := (cell_blk HW7.out.r1 4).trans rfl); (have z10 := frz_blk HW7.out.r1 0); (have z11 := frz_blk HW7.out.r1 1); (have z12 := frz_blk HW7.out.r1 2); (have z13 := frz_blk HW7.out.r1 3); (have z14 := frz_blk HW7.out.r1 4)
          (refine wpAnyH_one 5 (by kernel_rfl) rfl ?_; intro K' hK'; go_simp; refine hK'.out _ _ ((set6_other _ _ _ _ _ _ _ _ hgw.1).trans hS) ?_; clear hK' K')
          (refine wpAnyH_one 6 (by kernel_rfl) rfl ?_; intro K' hK'; go_simp; refine hK'.out _ _ ((set5_other _ 0 1 2 3 4 _ _ _ _ _ _ hgw.2).trans ((set6_other _ _ _ _ _ _ _ _ hgw.1).trans hS)) ?_; clear hK' K')
          refine wpAnyH_done (by kernel_rfl) ?_ _
          go_wp2_with fail
          (obtain ⟨hA, hB, hC⟩ := ResW.set HW7.out (.string ⟨#[]⟩) (.slice none 0 0) (.slice none 0 0) (.slice none 0 0) (.slice none 0 0) (.slice none 0 0) (.int .i64 s2.fault.err) (.int .i64 s2.fault.pkg) (.int .i64 s2.fault.step) (.string ⟨s2.fault.ln.path.toArray⟩) (.int .i64 s2.fault.ln.n)); (have q00 := (cell_blk hA 0).trans rfl); (have q01 := (cell_blk hA 1).trans rfl); (have q02 := (cell_blk hA 2).trans rfl); (have q03 := (cell_blk hA 3).trans rfl); (have q04 := (cell_blk hA 4).trans rfl); (have q05 := (cell_blk hA 5).trans rfl); (have q10 := (cell_blk hB 0).trans rfl); (have q11 := (cell_blk hB 1).trans rfl); (have q12 := (cell_blk hB 2).trans rfl); (have q13 := (cell_blk hB 3).trans rfl); (have q14 := (cell_blk hB 4).trans rfl)
          refine bodyPost_ret (v := .tuple #[.agg #[.string ⟨#[]⟩, .slice none 0 0, .slice none 0 0, .slice none 0 0, .slice none 0 0, .slice none 0 0], .agg #[.int .i64 s2.fault.err, .int .i64 s2.fault.pkg, .int .i64 s2.fault.step, .string ⟨s2.fault.ln.path.toArray⟩, .int .i64 s2.fault.ln.n]]) (by simp [results, Tryz.results13, go_sem, q00, q01, q02, q03, q04, q05, q10, q11, q12, q13, q14]) rfl ?_
          exact ⟨_, by rw [HR.out]; rfl, by (rw [HR.out]; exact ⟨none, 0, 0, none, 0, 0, none, 0, 0, none, 0, 0, none, 0, 0, rfl, Sl.nil _ _ _ _ (by decide), Sl.nil _ _ _ _ (by decide), Sl.nil _ _ _ _ (by decide), Sl.nil _ _ _ _ (by decide), Sl.nil _ _ _ _ (by decide)⟩), hC⟩
        | true =>
          have HR := Lib.hid (HR1.out.trans (if_neg (by simp)))
          obtain ⟨f1, f2, f3, f4, f5, f6, f7, f8, f9⟩ := HFN.out s2 rfl
          have hcs := H6H.out.cells
          have hspn := fun W' (hb : Below w6.heap.size w6 W') => spans_any mh s2.heads W' (H6H.out.heads.below hb) f8 (by omega) f3
          have HSP := Lib.hid hspn; have HCS := Lib.hid hcs
          clear hspn hcs HFN f3 f8
          go_upto_region 12 with fail
          go_cut [14] from 62 to 72 (fun s14 wx => ∃ u A4 n4 c4, s14 = .pointer (some ⟨u, 0, none⟩) ∧ UnC w6 wx u p iA s2.items.length ic A4 n4 c4 (spansS (s2.heads.map (·.1))))
          case first =>
            have HX := Lib.hid (fun (z : World) (hz : Below w6.heap.size w6 z) => And.intro (show z.cell? ⟨g, 3, none⟩ = some (.slice iA s2.items.length ic) from (cell_blk (keptBlk hz HCS.out) 3).trans rfl) (show z.cell? ⟨g, 4, none⟩ = some (.map (some mh)) from (cell_blk (keptBlk hz HCS.out) 4).trans rfl))
            refine wpH_region (fun z => Below w6.heap.size w6 z) (by kernel_rfl) ?_
            have hS : Below w6.heap.size w6 w6.drew := (Below.refl _ _).drew
            (refine tkW 0 (v := ?_) hS ?_ ?_; rotate_left; (focus (intro x hx; have fx := HX.out x hx; go_simp; (try with_reducible rfl); done)); (try simp only [Act.put, lsa, lsz, lss]))
            (refine tkW 1 (v := ?_) hS ?_ ?_; rotate_left; (focus (intro x hx; have fx := HX.out x hx; go_simp; (try with_reducible rfl); done)); (try simp only [Act.put, lsa, lsz, lss]))
            (refine tkW 2 (v := ?_) hS ?_ ?_; rotate_left; (focus (intro x hx; have fx := HX.out x hx; go_simp; (try with_reducible rfl); done)); (try simp only [Act.put, lsa, lsz, lss]))
            (refine tkW 3 (v := ?_) hS ?_ ?_; rotate_left; (focus (intro x hx; have fx := HX.out x hx; go_simp; (try with_reducible rfl); done)); (try simp only [Act.put, lsa, lsz, lss]))
            (refine tkW 4 (v := ?_) hS ?_ ?_; rotate_left; (focus (intro x hx; have fx := HX.out x hx; go_simp; (try with_reducible rfl); done)); (try simp only [Act.put, lsa, lsz, lss]))
            (refine tkW 5 (v := ?_) hS ?_ ?_; rotate_left; (focus (intro x hx; have fx := HX.out x hx; go_simp; (try with_reducible rfl); done)); (try simp only [Act.put, lsa, lsz, lss]))
            (refine tkW 6 (v := ?_) hS ?_ ?_; rotate_left; (focus (intro x hx; have fx := HX.out x hx; go_simp; (try with_reducible rfl); done)); (try simp only [Act.put, lsa, lsz, lss]))
            (refine tkW 7 (v := ?_) hS ?_ ?_; rotate_left; (focus (intro x hx; have fx := HX.out x hx; go_simp; (try with_reducible rfl); done)); (try simp only [Act.put, lsa, lsz, lss]))
            (refine tkW 8 (v := ?_) hS ?_ ?_; rotate_left; (focus (intro x hx; have fx := HX.out x hx; go_simp; (try with_reducible rfl); done)); (try simp only [Act.put, lsa, lsz, lss]))
            refine wpAnyH_two 9 11 (by kernel_rfl) rfl rfl ?sx1 ?sx2
            case sx1 =>
              intro K' hK'
              go_simp
              refine (HSP.out _ hS).mono ?_
              rintro e w8 ⟨A4, n4, c4, rfl, hs4, hb8⟩
              have hs4' : Sl w8 (fun k => w6.heap.size ≤ k ∧ k < w8.heap.size) A4 n4 c4 (spansS (s2.heads.map (·.1))) := hs4.wide (fun k hk h => ⟨h, hk⟩) (by decide)
              have hS := hS.trans (hb8.mono hS.size)
              refine hK'.out _ _ hS ?_
              clear hK' K'
              (refine tkW 10 (v := ?_) hS ?_ ?_; rotate_left; (focus (intro x hx; have fx := HX.out x hx; go_simp; (try with_reducible rfl); done)); (try simp only [Act.put, lsa, lsz, lss]))
              refine wpAnyH_one 11 (by kernel_rfl) rfl ?_
              intro K' hK'
              go_simp
              have hS9 := hS.alloc hS.size (.cells #[.string ⟨#[]⟩, .slice none 0 0, .slice none 0 0, .slice none 0 0, .slice none 0 0, .slice none 0 0] 36)
              refine hK'.out _ _ hS9 ?_
              clear hK' K'
              refine wpAnyH_one 12 (by kernel_rfl) rfl ?_
              intro K' hK'
              go_simp
              refine hK'.out _ _ (hS.alloc hS.size _) ?_
              clear hK' K'
              refine wpAnyH_done (by kernel_rfl) ?_ _
              go_wp2_with fail
              go_meet
              exact ⟨w8.heap.size, A4, n4, c4, rfl, blkAt _ _ rfl, (hs4'.alloc _).wide (fun k _ hk => ⟨hk.1, by omega⟩) (by decide), hS.alloc hS.size _, hS.size⟩
            case sx2 =>
              intro K' hK'
              go_simp
              have hS9 : Below w6.heap.size w6 (w6.alloc (.cells #[.string ⟨#[]⟩, .slice none 0 0, .slice none 0 0, .slice none 0 0, .slice none 0 0, .slice none 0 0] 36)).drew := boxed.drew
              have hu9 : (w6.alloc (.cells #[.string ⟨#[]⟩, .slice none 0 0, .slice none 0 0, .slice none 0 0, .slice none 0 0, .slice none 0 0] 36)).drew.heap[w6.heap.size]? = some (.cells #[.string ⟨#[]⟩, .slice none 0 0, .slice none 0 0, .slice none 0 0, .slice none 0 0, .slice none 0 0] 36 (0, 0)) := blkAt w6 _ rfl
              refine hK'.out _ _ hS9 ?_
              clear hK' K'
              have hlt9 : w6.heap.size < (w6.alloc (.cells #[.string ⟨#[]⟩, .slice none 0 0, .slice none 0 0, .slice none 0 0, .slice none 0 0, .slice none 0 0] 36)).drew.heap.size := lt_alloc w6 _
              generalize (w6.alloc (.cells #[.string ⟨#[]⟩, .slice none 0 0, .slice none 0 0, .slice none 0 0, .slice none 0 0, .slice none 0 0] 36)).drew = w7 at *
              refine wpAnyH_one 9 (by kernel_rfl) rfl ?_
              intro K' hK'
              go_simp
              refine (HSP.out _ hS9).mono ?_
              rintro e w8 ⟨A4, n4, c4, rfl, hs4, hb8⟩
              have hS := hS9.trans (hb8.mono hS9.size)
              have hu8 : w8.heap[w6.heap.size]? = some (.cells #[.string ⟨#[]⟩, .slice none 0 0, .slice none 0 0, .slice none 0 0, .slice none 0 0, .slice none 0 0] 36 (0, 0)) := keptBlk hb8 hu9
              refine hK'.out _ _ hS ?_
              clear hK' K'
              (refine tkW 10 (v := ?_) hS ?_ ?_; rotate_left; (focus (intro x hx; have fx := HX.out x hx; go_simp; (try with_reducible rfl); done)); (try simp only [Act.put, lsa, lsz, lss]))
              have u0 := (cell_blk hu8 0).trans rfl
              have u1 := (cell_blk hu8 1).trans rfl
              have u2 := (cell_blk hu8 2).trans rfl
              have u3 := (cell_blk hu8 3).trans rfl
              have u4 := (cell_blk hu8 4).trans rfl
              have u5 := (cell_blk hu8 5).trans rfl
              have y0 := frz_blk hu8 0
              have y1 := frz_blk hu8 1
              have y2 := frz_blk hu8 2
              have y3 := frz_blk hu8 3
              have y4 := frz_blk hu8 4
              have y5 := frz_blk hu8 5
              refine wpAnyH_one 12 (by kernel_rfl) rfl ?_
              intro K' hK'
              go_simp
              have hS10 := belowS (belowS (belowS (belowS (belowS (belowS hS (Nat.le_refl _) 0 (.string ⟨p.toArray⟩)) (Nat.le_refl _) 1 (.slice none 0 0)) (Nat.le_refl _) 2 (.slice none 0 0)) (Nat.le_refl _) 3 (.slice iA s2.items.length ic)) (Nat.le_refl _) 4 (.slice A4 n4 c4)) (Nat.le_refl _) 5 (.slice none 0 0)
              refine hK'.out _ _ hS10 ?_
              clear hK' K' u0 u1 u2 u3 u4 u5 y0 y1 y2 y3 y4 y5
              refine wpAnyH_done (by kernel_rfl) ?_ _
              go_wp2_with fail
              go_meet
              exact ⟨w6.heap.size, A4, n4, c4, rfl, Blk.set6 w8 hu8 _ _ _ _ _ _, (hs4.keep fun k _ hk => set6_other w8 _ _ _ _ _ _ k (by omega)).wide (fun k _ hk => ⟨by omega, by omega⟩) (by decide), hS10, Nat.le_refl _⟩
          case rest =>
            obtain ⟨u, A4, n4, c4, rfl, hun, hh4, hb12, hu6⟩ := hcut
            have hul : u < wc.heap.size := (Array.getElem?_eq_some_iff.1 hun).1
            have hg12 := keptBlk hb12 HCS.out
            have HG12 := Lib.hid hg12; have HMF := Lib.hid (H6H.out.flags.below hb12); have HMM := Lib.hid (H6H.out.mval.below hb12); have HML := Lib.hid (H6H.out.files.below hb12)
            have hgu : g ≠ u := fun e => by have := (Array.getElem?_eq_some_iff.1 HCS.out).1; omega
            have HB12 := Lib.hid hb12; have HUN := Lib.hid hun; have HH4 := Lib.hid hh4
            have hmfu : mf < w6.heap.size ∧ mm < w6.heap.size ∧ ml < w6.heap.size := ⟨H6H.out.flags.lt, H6H.out.mval.lt, H6H.out.files.lt⟩
            clear hg12 hb12 hun hh4 HSP
            have HG1 := HG12
            have HM1 := HMF
            have hwc := HB12.out.size
            have c1' : wc.cell? ⟨g, 1, none⟩ = some (.map (some mf)) := (cell_blk HG1.out 1).trans rfl
            go_wp2_with (at_range; refine wpList_rangeV rfl _ rfl Tryz.underlying92 rfl HM1.out ?_; intro wz1 hrg hbz hsz)
            go_frame
            have HRG1 := Lib.hid hrg; have HBZ1 := Lib.hid hbz
            have hsz1 := hsz
            clear hrg hbz c1' hsz
            go_loopw [] (fun wr => ∃ (ls : List (Bs × Bool)) (out : List Bs) (A1 : Option Addr) (c1 : Nat), Hid (RangeV TS wr mf wc.heap.size (vFlags s2.flags) (vFlags ls) ∧ UnW wc wr u #[.string ⟨p.toArray⟩, .slice A1 out.length c1, .slice none 0 0, .slice iA s2.items.length ic, .slice A4 n4 c4, .slice none 0 0] ∧ Own wr (fun _ => False) wc.heap.size 9 A1 c1 out ∧ A1.map Addr.block ≠ some wc.heap.size ∧ (out ++ ls.map (·.1)).Perm (s2.flags.map (·.1)))) (fun wr => wr.rangeLeft mf wc.heap.size)
            case atStart => exact ⟨s2.flags, [], none, 0, Lib.hid ⟨HRG1.out, ⟨Frm.any HBZ1.out, keptBlk HBZ1.out HUN.out⟩, Own.nil _ _ _ _, by simp, by simp⟩⟩
            case round =>
              obtain ⟨ls, out, A1, c1, hr⟩ := hrel
              obtain ⟨h1, h2, h3, h4, h5⟩ := hr.out
              clear hr
              have hol : out.length ≤ 200 := by have := h5.length_eq; rw [List.length_append, List.length_map, List.length_map] at this; omega
              have H1 := Lib.hid h1; have H2 := Lib.hid h2; have H3 := Lib.hid h3; have H4 := Lib.hid h4; have H5 := Lib.hid h5
              clear h1 h2 h3 h4 h5
              have hwrz := H2.out.fr.size
              go_wp2_with (at_next; refine wpList_nextV rfl _ rfl rfl H1.out ?_ ?_)
              · intro h0
                have hls : ls = [] := by unfold vFlags at h0; simpa using h0
                subst hls
                have hpm := H5.out
                rw [List.map_nil, List.append_nil] at hpm
                have HP1 := Lib.hid hpm; have HU1 := H2; have HO1 := H3
                clear hpm h0 H1 H2 H3 H4 H5
                obtain ⟨wo1, rfl⟩ : ∃ z, z = wr := ⟨_, rfl⟩
                obtain ⟨fs, rfl⟩ : ∃ z, z = out := ⟨_, rfl⟩
                have hfsl := hol
                have hwo1 := hwrz
                clear hwrz
                have hgl := (Array.getElem?_eq_some_iff.1 HG12.out).1
                have HG2 := Lib.hid ((HU1.out.fr.block g hgl hgu).trans HG12.out)
                have HM2 := Lib.hid (HMM.out.keep (HU1.out.fr.block mm HMM.out.lt (by omega)))
                have R20 : A1.map Addr.block ≠ some wo1.heap.size := fun e => by have := (HO1.out.lt _ e).2; omega
                have hmz := vmacs_zip H6H.out.macs
                obtain ⟨ms0, hmz⟩ := hmz
                have HMZ := Lib.hid hmz
                clear hmz
                have c2' : wo1.cell? ⟨g, 2, none⟩ = some (.map (some mm)) := (cell_blk HG2.out 2).trans rfl
                go_wp2_with (at_range; refine wpList_rangeV rfl _ rfl Tryz.underlying93 rfl HM2.out ?_; intro wz2 hrg hbz hsz)
                go_frame
                have HRG2 := Lib.hid hrg; have HBZ2 := Lib.hid hbz
                have hsz2 := hsz
                clear hrg hbz c2' hsz
                go_loopw [] (fun wr => ∃ (ls : List ((Bs × Value) × Mac)) (out : List Mac) (A2' : Option Addr) (c2' : Nat), Hid (RangeV TS wr mm wo1.heap.size mv (ls.map (·.1)) ∧ UnW wc wr u #[.string ⟨p.toArray⟩, .slice A1 fs.length c1, .slice A2' out.length c2', .slice iA s2.items.length ic, .slice A4 n4 c4, .slice none 0 0] ∧ Own wr (fun k => k < w6.heap.size) wc.heap.size 63 A2' c2' out ∧ A2'.map Addr.block ≠ some wo1.heap.size ∧ (out ++ ls.map (·.2)).Perm (s2.macros.map (·.2)) ∧ (∀ q ∈ ls, VMacQ w6 q.1.2 q.2) ∧ Own wr (fun _ => False) wc.heap.size 9 A1 c1 fs ∧ (∀ k, A2'.map Addr.block = some k → A1.map Addr.block ≠ some k))) (fun wr => wr.rangeLeft mm wo1.heap.size)
                case atStart => exact ⟨ms0, [], none, 0, Lib.hid ⟨by rw [HMZ.out.1]; exact HRG2.out, ⟨HU1.out.fr.trans (Frm.any HBZ2.out), keptBlk HBZ2.out HU1.out.un⟩, Own.nil _ _ _ _, by simp, by rw [List.nil_append, HMZ.out.2.1], HMZ.out.2.2, HO1.out.below HBZ2.out, fun k e => absurd e (by simp)⟩⟩
                case round =>
                  obtain ⟨ls, out, A2', c2', hr⟩ := hrel
                  obtain ⟨h1, h2, h3, h4, h5, h6, k0, d0⟩ := hr.out
                  clear hr
                  have hol : out.length ≤ 128 := by have := h5.length_eq; rw [List.length_append, List.length_map, List.length_map] at this; omega
                  have H1 := Lib.hid h1; have H2 := Lib.hid h2; have H3 := Lib.hid h3; have H4 := Lib.hid h4; have H5 := Lib.hid h5; have H6 := Lib.hid h6; have K0 := Lib.hid k0; have D0 := Lib.hid d0
                  clear h1 h2 h3 h4 h5 h6 k0 d0
                  have hwrz := H2.out.fr.size
                  go_wp2_with (at_next; refine wpList_nextV rfl _ rfl rfl H1.out ?_ ?_)
                  · intro h0
                    have hls : ls = [] := by simpa using h0
                    subst hls
                    have hpm := H5.out
                    rw [List.map_nil, List.append_nil] at hpm
                    have HP2 := Lib.hid hpm; have HU2 := H2; have HO2 := H3
                    clear hpm h0 H1 H2 H3 H4 H5 H6
                    obtain ⟨wo2, rfl⟩ : ∃ z, z = wr := ⟨_, rfl⟩
                    obtain ⟨ms, rfl⟩ : ∃ z, z = out := ⟨_, rfl⟩
                    have hmsl := hol
                    have hwo2 := hwrz
                    clear hwrz
                    have HG5 := Lib.hid ((HU2.out.fr.block g hgl hgu).trans HG12.out)
                    have HM5 := Lib.hid (HML.out.keep (HU2.out.fr.block ml HML.out.lt (by omega)))
                    have R50 : A1.map Addr.block ≠ some wo2.heap.size := fun e => by have := (K0.out.lt _ e).2; omega
                    have R51 : A2'.map Addr.block ≠ some wo2.heap.size := fun e => by have := (HO2.out.lt _ e).2; omega
                    have K0' := K0; have D0' := D0
                    clear K0 D0
                    have c5' : wo2.cell? ⟨g, 5, none⟩ = some (.map (some ml)) := (cell_blk HG5.out 5).trans rfl
                    go_wp2_with (at_range; refine wpList_rangeV rfl _ rfl Tryz.underlying92 rfl HM5.out ?_; intro wz5 hrg hbz hsz)
                    go_frame
                    have HRG5 := Lib.hid hrg; have HBZ5 := Lib.hid hbz
                    have hsz5 := hsz
                    clear hrg hbz c5' hsz
                    go_loopw [] (fun wr => ∃ (ls : List (Bs × Bool)) (out : List Bs) (A5 : Option Addr) (c5 : Nat), Hid (RangeV TS wr ml wo2.heap.size (vFlags s2.files) (vFlags ls) ∧ UnW wc wr u #[.string ⟨p.toArray⟩, .slice A1 fs.length c1, .slice A2' ms.length c2', .slice iA s2.items.length ic, .slice A4 n4 c4, .slice A5 out.length c5] ∧ Own wr (fun _ => False) wc.heap.size 9 A5 c5 out ∧ A5.map Addr.block ≠ some wo2.heap.size ∧ (out ++ ls.map (·.1)).Perm (s2.files.map (·.1)) ∧ Own wr (fun _ => False) wc.heap.size 9 A1 c1 fs ∧ (∀ k, A5.map Addr.block = some k → A1.map Addr.block ≠ some k) ∧ Own wr (fun k => k < w6.heap.size) wc.heap.size 63 A2' c2' ms ∧ (∀ k, A5.map Addr.block = some k → A2'.map Addr.block ≠ some k))) (fun wr => wr.rangeLeft ml wo2.heap.size)
                    case atStart => exact ⟨s2.files, [], none, 0, Lib.hid ⟨HRG5.out, ⟨HU2.out.fr.trans (Frm.any HBZ5.out), keptBlk HBZ5.out HU2.out.un⟩, Own.nil _ _ _ _, by simp, by simp, K0'.out.below HBZ5.out, fun k e => absurd e (by simp), HO2.out.below HBZ5.out, fun k e => absurd e (by simp)⟩⟩
                    case round =>
                      obtain ⟨ls, out, A5, c5, hr⟩ := hrel
                      obtain ⟨h1, h2, h3, h4, h5, k0, d0, k1, d1⟩ := hr.out
                      clear hr
                      have hol : out.length ≤ 2049 := by have := h5.length_eq; rw [List.length_append, List.length_map, List.length_map] at this; omega
                      have H1 := Lib.hid h1; have H2 := Lib.hid h2; have H3 := Lib.hid h3; have H4 := Lib.hid h4; have H5 := Lib.hid h5
                      have K0 := Lib.hid k0; have D0 := Lib.hid d0
                      have K1 := Lib.hid k1; have D1 := Lib.hid d1
                      clear h1 h2 h3 h4 h5 k0 d0 k1 d1
                      have hwrz := H2.out.fr.size
                      go_wp2_with (at_next; refine wpList_nextV rfl _ rfl rfl H1.out ?_ ?_)
                      · intro h0
                        have hls : ls = [] := by unfold vFlags at h0; simpa using h0
                        subst hls
                        have hpm := H5.out
                        rw [List.map_nil, List.append_nil] at hpm
                        have HP5 := Lib.hid hpm; have HU5 := H2; have HO5 := H3
                        clear hpm h0 H1 H2 H3 H4 H5
                        obtain ⟨wo3, rfl⟩ : ∃ z, z = wr := ⟨_, rfl⟩
                        obtain ⟨fi, rfl⟩ : ∃ z, z = out := ⟨_, rfl⟩
                        have hwo3 := hwrz
                        have hnf := HP1.out.nodup_iff.2 (nodup_vf HMF.out)
                        have hnfi := HP5.out.nodup_iff.2 (nodup_vf HML.out)
                        have hnm := HP2.out.nodup_iff.2 f1
                        have hinj : ∀ x ∈ ms, ∀ y ∈ ms, x.name = y.name → x = y := fun x hx y hy => f2 x (HP2.out.mem_iff.1 hx) y (HP2.out.mem_iff.1 hy)
                        have hA1u : A1.map Addr.block ≠ some u := fun e => by have := (K0.out.lt u e).1; omega
                        have hA5u : A5.map Addr.block ≠ some u := fun e => by have := (HO5.out.lt u e).1; omega
                        have hA2u : A2'.map Addr.block ≠ some u := fun e => by have := (K1.out.lt u e).1; omega
                        have HS1 := Lib.hid (sortS_any A1 c1 wc.heap.size fs wo3 K0.out hnf (by omega))
                        have HNU := Lib.hid (And.intro hA1u (And.intro hA5u hA2u)); have HNN := Lib.hid (And.intro hnfi (And.intro hnm hinj))
                        clear hnf hnfi hnm hinj hA1u hA5u hA2u hwrz
                        have u1 := (cell_blk HU5.out.un 1).trans rfl
                        go_wp2_with fail
                        refine HS1.out.mono ?_
                        rintro e w41 ⟨rfl, hsa, hga⟩
                        have hun41 := grownBlk hga HU5.out.un HNU.out.1
                        have hof : Own w41 (fun _ => False) wc.heap.size 9 A5 c5 fi := HO5.out.keep fun k hk hT => hga.block k hk (fun e => by
                          rcases hT with hT | hT
                          · exact hT
                          · exact D0.out k hT e.symm)
                        have hom : Own w41 (fun k => k < w6.heap.size) wc.heap.size 63 A2' c2' ms := K1.out.keep fun k hk hT => hga.block k hk (fun e => by
                          rcases hT with hT | hT
                          · have : k < w6.heap.size := hT
                            have := (K0.out.lt k e.symm).1
                            omega
                          · exact D0'.out k hT e.symm)
                        have HSA := Lib.hid hsa; have HGA := Lib.hid hga; have HU41 := Lib.hid hun41; have HOF := Lib.hid hof; have HOM := Lib.hid hom
                        have HS2' := Lib.hid (sortS_any A5 c5 wc.heap.size fi w41 hof HNN.out.1 (by omega))
                        clear hsa hga hun41 hof hom u1 HS1
                        have u5 := (cell_blk HU41.out 5).trans rfl
                        go_wp2_with fail
                        refine HS2'.out.mono ?_
                        rintro e w42 ⟨rfl, hsb, hgb⟩
                        have hun42 := grownBlk hgb HU41.out HNU.out.2.1
                        have hom2 : Own w42 (fun k => k < w6.heap.size) wc.heap.size 63 A2' c2' ms := HOM.out.keep fun k hk hT => hgb.block k hk (fun e => by
                          rcases hT with hT | hT
                          · have : k < w6.heap.size := hT
                            have := (HOF.out.lt k e.symm).1
                            omega
                          · exact D1.out k e.symm hT)
                        have hsa2 := HSA.out.keep (w' := w42) fun k hk hT => hgb.block k hk (fun e => D0.out k e.symm hT.2)
                        have HSB := Lib.hid hsb; have HGB := Lib.hid hgb; have HU42 := Lib.hid hun42; have HSA2 := Lib.hid hsa2
                        have HS3 := Lib.hid (sortMac_any A2' c2' wc.heap.size ms w42 _ hom2 HNN.out.2.1 HNN.out.2.2 (by omega))
                        have HOM2 := Lib.hid hom2
                        clear hsb hgb hun42 hom2 hsa2 u5 HS2' HSA HOF HOM
                        have u2 := (cell_blk HU42.out 2).trans rfl
                        go_wp2_with fail
                        refine HS3.out.mono ?_
                        rintro e w43 ⟨rfl, hsc, hgc⟩
                        have hun43 := grownBlk hgc HU42.out HNU.out.2.2
                        have hsa3 := HSA2.out.keep (w' := w43) fun k hk hT => hgc.block k hk (fun e => D0'.out k e.symm hT.2)
                        have hsb3 := HSB.out.keep (w' := w43) fun k hk hT => hgc.block k hk (fun e => D1.out k hT.2 e.symm)
                        have hzA := HGA.out.size
                        have hzB := HGB.out.size
                        have hold : ∀ k, k < wc.heap.size → k ≠ u → w43.heap[k]? = wc.heap[k]? := fun k hk hne => by
                          rw [hgc.block k (by omega) (fun e => by have := (HOM2.out.lt k e.symm).1; omega), HGB.out.block k (by omega) (fun e => by have := (HO5.out.lt k e.symm).1; omega), HGA.out.block k (by omega) (fun e => by have := (K0.out.lt k e.symm).1; omega), HU5.out.fr.block k hk hne]
                        have hit : Sl w43 (fun _ => True) iA s2.items.length ic s2.items := (((H6H.out.items.sl (by decide)).wide (S' := fun k => k < w6.heap.size) (fun k hk _ => hk) (by decide)).keep (w' := w43) fun k hk hT => (hold k (by omega) (by omega)).trans (HB12.out.block k hT)).any
                        have hhd : Sl w43 (fun k => w6.heap.size ≤ k) A4 n4 c4 (spansS (s2.heads.map (·.1))) := ((HH4.out.wide (S' := fun k => (k < wc.heap.size ∧ k ≠ u) ∧ w6.heap.size ≤ k) (fun k hk hT => ⟨⟨hk, hT.2⟩, hT.1⟩) (by decide)).keep (w' := w43) fun k hk hT => hold k hT.1.1 hT.1.2).wide (fun k _ hT => hT.2) (by decide)
                        have hbA : Below w6.heap.size w6 w43 := (((HB12.out.trans (HU5.out.fr.below hwc (fun i hi e => by omega))).grown HGA.out (by omega) (fun k e => by have := (K0.out.lt k e).1; omega)).grown HGB.out (by omega) (fun k e => by have := (HO5.out.lt k e).1; omega)).grown hgc (by omega) (fun k e => by have := (HOM2.out.lt k e).1; omega)
                        have HW43 := Lib.hid (HW6.out.below hbA)
                        have HFIN := Lib.hid (And.intro hsa3 (And.intro hsb3 (And.intro hsc (And.intro hit hhd))))
                        have HU43 := Lib.hid hun43
                        clear hun43 hsa3 hsb3 hold hit hhd hbA hsc hgc u2 HS3 HOM2 HU42 HSA2 HSB HGA HGB HU41
                        have v0 := (cell_blk HU43.out 0).trans rfl
                        have v1 := (cell_blk HU43.out 1).trans rfl
                        have v2 := (cell_blk HU43.out 2).trans rfl
                        have v3 := (cell_blk HU43.out 3).trans rfl
                        have v4 := (cell_blk HU43.out 4).trans rfl
                        have v5 := (cell_blk HU43.out 5).trans rfl
                        (have r00 := (cell_blk HW43.out.r0 0).trans rfl); (have r01 := (cell_blk HW43.out.r0 1).trans rfl); (have r02 := (cell_blk HW43.out.r0 2).trans rfl); (have r03 := (cell_blk HW43.out.r0 3).trans rfl); (have r04 := (cell_blk HW43.out.r0 4).trans rfl); (have r05 := (cell_blk HW43.out.r0 5).trans rfl); (have z00 := frz_blk HW43.out.r0 0); (have z01 := frz_blk HW43.out.r0 1); (have z02 := frz_blk HW43.out.r0 2); (have z03 := frz_blk HW43.out.r0 3); (have z04 := frz_blk HW43.out.r0 4); (have z05 := frz_blk HW43.out.r0 5); (have r10 := (cell_blk HW43.out.r1 0).trans rfl); (have r11 := (cell_blk HW43.out.r1 1).trans rfl); (have r12 := (cell_blk HW43.out.r1 2).trans rfl); (have r13 := (cell_blk HW43.out.r1 3).trans rfl); (have r14 := (cell_blk HW43.out.r1 4).trans rfl); (have z10 := frz_blk HW43.out.r1 0); (have z11 := frz_blk HW43.out.r1 1); (have z12 := frz_blk HW43.out.r1 2); (have z13 := frz_blk HW43.out.r1 3); (have z14 := frz_blk HW43.out.r1 4)
                        go_wp2_with fail
                        (obtain ⟨hA, hB, hC⟩ := ResW.set HW43.out (.string ⟨p.toArray⟩) (.slice A1 fs.length c1) (.slice A2' ms.length c2') (.slice iA s2.items.length ic) (.slice A4 n4 c4) (.slice A5 fi.length c5) (.int .i64 0) (.int .i64 0) (.int .i64 0) (.string ⟨#[]⟩) (.int .i64 0)); (have q00 := (cell_blk hA 0).trans rfl); (have q01 := (cell_blk hA 1).trans rfl); (have q02 := (cell_blk hA 2).trans rfl); (have q03 := (cell_blk hA 3).trans rfl); (have q04 := (cell_blk hA 4).trans rfl); (have q05 := (cell_blk hA 5).trans rfl); (have q10 := (cell_blk hB 0).trans rfl); (have q11 := (cell_blk hB 1).trans rfl); (have q12 := (cell_blk hB 2).trans rfl); (have q13 := (cell_blk hB 3).trans rfl); (have q14 := (cell_blk hB 4).trans rfl)
                        refine bodyPost_ret (v := .tuple #[.agg #[.string ⟨p.toArray⟩, .slice A1 fs.length c1, .slice A2' ms.length c2', .slice iA s2.items.length ic, .slice A4 n4 c4, .slice A5 fi.length c5], .agg #[.int .i64 0, .int .i64 0, .int .i64 0, .string ⟨#[]⟩, .int .i64 0]]) (by simp [results, Tryz.results13, go_sem, q00, q01, q02, q03, q04, q05, q10, q11, q12, q13, q14]) rfl ?_
                        have hcl : ∀ k, k ≠ w.heap.size ∧ k ≠ w.heap.size + 1 → _ = w43.heap[k]? := fun k hk => (set5_other _ 0 1 2 3 4 (.int .i64 0) (.int .i64 0) (.int .i64 0) (.string ⟨#[]⟩) (.int .i64 0) k hk.2).trans (set6_other w43 (.string ⟨p.toArray⟩) (.slice A1 fs.length c1) (.slice A2' ms.length c2') (.slice iA s2.items.length ic) (.slice A4 n4 c4) (.slice A5 fi.length c5) k hk.1)
                        have hlw6 := HW6.out.lt
                        obtain ⟨g1, g2, g3, g4, g5⟩ := HFIN.out
                        have hz : Zer w43 w.heap.size := ⟨HW43.out.r0, HW43.out.r1⟩
                        have hne := HNE.out
                        have e1 : sortG ltS fs = sortG ltS (s2.flags.map (·.1)) := sortS_perm HP1.out
                        have e5 : sortG ltS fi = sortG ltS (s2.files.map (·.1)) := sortS_perm HP5.out
                        have e2 : sortG ltMac ms = sortG ltMac (s2.macros.map (·.2)) := sortM_perm HP2.out f2
                        have g3' : Sl w43 (fun k => k ≠ w.heap.size ∧ k ≠ w.heap.size + 1) A2' ms.length c2' (sortG ltMac ms) := clean_mac hz g3 (fun k e => by have := (K1.out.lt k e).1; omega) (fun x hx => by
                          rw [e2] at hx
                          exact hne.2 x ((sortG_law strMac _ (mac_tot f2)).2 x |>.1 hx))
                        have g4' : Sl w43 (fun k => k ≠ w.heap.size ∧ k ≠ w.heap.size + 1) iA s2.items.length ic s2.items := clean_itm hz g4 (fun k e => by have := HM6.out k (H6H.out.own k (.inr (.inr (.inr (.inr (.inr (.inl e))))))); omega) hne.1
                        rw [e1] at g1
                        rw [e5] at g2
                        rw [e2] at g3'
                        refine ⟨_, by rw [HR.out]; rfl, ?_, hC⟩
                        rw [HR.out]
                        exact ⟨A1, _, c1, A2', _, c2', iA, _, ic, A4, n4, c4, A5, _, c5, rfl, (g1.keep fun k _ hk => hcl k (by omega)).any, (g3'.keep fun k _ hk => hcl k hk).any, (g4'.keep fun k _ hk => hcl k hk).any, (g5.keep fun k _ hk => hcl k (by omega)).any, (g2.keep fun k _ hk => hcl k (by omega)).any⟩
                      · intro l1 pk pv l2 w3 hsp hrg3 hg3 hs3 hen
                        obtain ⟨a1, ar, rfl, rfl, e2⟩ := List.map_eq_append_iff.1 hsp
                        obtain ⟨⟨fk, fb⟩, a2, rfl, e3, rfl⟩ := List.map_eq_cons_iff.1 e2
                        simp only [Prod.mk.injEq] at e3
                        obtain ⟨rfl, rfl⟩ := e3
                        have hkv : TS.kv fk = .string ⟨fk.toArray⟩ := rfl
                        rw [hkv] at hen ⊢
                        have hru : wo2.heap.size ≠ u := by omega
                        have hun3 := grownBlk hg3 H2.out.un (fun e => hru (by injection e))
                        have how3 : Own w3 (fun _ => False) wc.heap.size 9 A5 c5 out := H3.out.keep fun k hk hT => hg3.block k hk (fun e => by
                          injection e with e
                          rcases hT with hT | hT
                          · exact hT
                          · exact H4.out (by rw [hT, e]))
                        have cu := (cell_blk hun3 5).trans rfl
                        have hlr := H1.out.lt
                        have HOW3 := Lib.hid how3; have HRG3 := Lib.hid hrg3; have HUN3 := Lib.hid hun3; have HG3 := Lib.hid hg3
                        clear hsp e2 hkv how3 hrg3 hun3 hg3
                        go_wp2_with (at_builtin; go_loud (refine wpList_app1 rfl _ _ eltStr rfl (by decide) rfl rfl rfl (HOW3.out.alloc _) rfl [.string ⟨fk.toArray⟩] fk (blkAt _ _ (by simp [hs3])) rfl rfl (by omega) (by omega) (by simp; omega) ?_); intro A9 c9 w7 hown7 hg7 hat7; have hb7 := grownBlk hg7 (blkOld HUN3.out _) (fun e => by have := (HOW3.out.lt u e).1; omega); have z7 := (cell_blk hb7 5).trans rfl; have f7 := frz_blk hb7 5; clear hb7)
                        have hbW : Below w3.heap.size w3 (w3.alloc (.cells #[.string ⟨fk.toArray⟩] 9)) := boxed
                        have hkp := fun v => un_keep (u := u) (j := 5) (v := v) hbW hg7
                        have hst := H2.out.step hul (by omega) HG3.out hbW (fun k e => (HOW3.out.lt k e).1) hg7 5 (.slice A9 (out.length + 1) c9)
                        have hrr : A9.map Addr.block ≠ some wo2.heap.size := fun e => by
                          rcases hat7 with h | h
                          · exact H4.out (by rw [← h]; exact e)
                          · rw [h] at e; injection e with e; simp at e; omega
                        have hA9u : A9.map Addr.block ≠ some u := fun e => by have := (hown7.lt u e).1; omega
                        have hrel : RangeV TS (w7.setCell ⟨u, 5, none⟩ (.slice A9 (out.length + 1) c9)) ml wo2.heap.size (vFlags s2.files) (vFlags (a1 ++ a2)) := by
                          have h0 := HRG3.out.keep (hkp (.slice A9 (out.length + 1) c9) ml HRG3.out.lt.1 (by omega) (fun e => by have := (HOW3.out.lt _ e).1; omega)) (hkp (.slice A9 (out.length + 1) c9) wo2.heap.size HRG3.out.lt.2.1 hru H4.out)
                          unfold vFlags at h0 ⊢
                          rw [List.map_append]
                          exact h0
                        have how9 : Own (w7.setCell ⟨u, 5, none⟩ (.slice A9 (out.length + 1) c9)) (fun _ => False) wc.heap.size 9 A9 c9 (out ++ [fk]) := hown7.keep fun k _ hk => set_other _ _ _ _ _ (fun e => by
                          rcases hk with hk | hk
                          · exact hk
                          · exact hA9u (by rw [hk, e]))
                        have kk0 : Own (w7.setCell ⟨u, 5, none⟩ (.slice A9 (out.length + 1) c9)) (fun _ => False) wc.heap.size 9 A1 c1 fs := K0.out.keep fun k hk hT => (hkp (.slice A9 (out.length + 1) c9) k (by have := HG3.out.size; omega) (fun e => by rcases hT with hT | hT; exact hT.elim; have := (K0.out.lt k hT).1; omega) (fun e => by rcases hT with hT | hT; exact hT.elim; exact D0.out k e hT)).trans (HG3.out.block k hk (fun e => by injection e with e; rcases hT with hT | hT; exact hT.elim; exact R50 (by rw [hT, e])))
                        have dd0 : ∀ k, A9.map Addr.block = some k → A1.map Addr.block ≠ some k := fun k e e1 => by
                          rcases hat7 with h | h
                          · exact D0.out k (by rw [← h]; exact e) e1
                          · rw [h] at e; injection e with e; have := (K0.out.lt k e1).2; have := HG3.out.size; simp at e; omega
                        have kk1 : Own (w7.setCell ⟨u, 5, none⟩ (.slice A9 (out.length + 1) c9)) (fun k => k < w6.heap.size) wc.heap.size 63 A2' c2' ms := K1.out.keep fun k hk hT => (hkp (.slice A9 (out.length + 1) c9) k (by have := HG3.out.size; omega) (fun e => by rcases hT with hT | hT; exact (by have : k < w6.heap.size := hT; omega); have := (K1.out.lt k hT).1; omega) (fun e => by rcases hT with hT | hT; exact (by have : k < w6.heap.size := hT; have := (HOW3.out.lt k e).1; omega); exact D1.out k e hT)).trans (HG3.out.block k hk (fun e => by injection e with e; rcases hT with hT | hT; exact (by have : k < w6.heap.size := hT; omega); exact R51 (by rw [hT, e])))
                        have dd1 : ∀ k, A9.map Addr.block = some k → A2'.map Addr.block ≠ some k := fun k e e1 => by
                          rcases hat7 with h | h
                          · exact D1.out k (by rw [← h]; exact e) e1
                          · rw [h] at e; injection e with e; have := (K1.out.lt k e1).2; have := HG3.out.size; simp at e; omega
                        have HR9 := Lib.hid (show RangeV TS (w7.setCell ⟨u, 5, none⟩ (.slice A9 (out.length + 1) c9)) ml wo2.heap.size (vFlags s2.files) (vFlags (a1 ++ a2)) ∧ UnW wc (w7.setCell ⟨u, 5, none⟩ (.slice A9 (out.length + 1) c9)) u #[.string ⟨p.toArray⟩, .slice A1 fs.length c1, .slice A2' ms.length c2', .slice iA s2.items.length ic, .slice A4 n4 c4, .slice A9 (out ++ [fk]).length c9] ∧ Own (w7.setCell ⟨u, 5, none⟩ (.slice A9 (out.length + 1) c9)) (fun _ => False) wc.heap.size 9 A9 c9 (out ++ [fk]) ∧ A9.map Addr.block ≠ some wo2.heap.size ∧ ((out ++ [fk]) ++ (a1 ++ a2).map (·.1)).Perm (s2.files.map (·.1)) ∧ Own (w7.setCell ⟨u, 5, none⟩ (.slice A9 (out.length + 1) c9)) (fun _ => False) wc.heap.size 9 A1 c1 fs ∧ (∀ k, A9.map Addr.block = some k → A1.map Addr.block ≠ some k) ∧ Own (w7.setCell ⟨u, 5, none⟩ (.slice A9 (out.length + 1) c9)) (fun k => k < w6.heap.size) wc.heap.size 63 A2' c2' ms ∧ (∀ k, A9.map Addr.block = some k → A2'.map Addr.block ≠ some k) from
                          ⟨hrel, by simpa using hst, how9, hrr, by
                            refine List.Perm.trans ?_ H5.out
                            rw [List.map_append, List.map_append, List.map_cons, List.append_assoc]
                            refine List.Perm.append_left _ ?_
                            show (fk :: (a1.map (·.1) ++ a2.map (·.1))).Perm (a1.map (·.1) ++ fk :: a2.map (·.1))
                            exact List.perm_middle.symm, kk0, dd0, kk1, dd1⟩)
                        have HMS := Lib.hid (show (w7.setCell ⟨u, 5, none⟩ (.slice A9 (out.length + 1) c9)).rangeLeft ml wo2.heap.size < wr.rangeLeft ml wo2.heap.size by
                          rw [hrel.left_eq, H1.out.left_eq]
                          unfold vFlags
                          simp only [List.map_append, List.length_append, List.length_map, List.length_cons, List.map_cons]
                          omega)
                        clear hown7 hg7 hat7 hst hrr hrel how9 hbW hkp hen cu kk0 dd0 kk1 dd1
                        go_wp2_with fail
                        go_roundw
                        case rel => exact ⟨a1 ++ a2, out ++ [fk], A9, c9, HR9⟩
                        case measure => exact HMS.out

                  · intro l1 pk pv l2 w3 hsp hrg3 hg3 hs3 hen
                    obtain ⟨a1, ar, rfl, rfl, e2⟩ := List.map_eq_append_iff.1 hsp
                    obtain ⟨⟨⟨fk, pv'⟩, mx⟩, a2, rfl, e3, rfl⟩ := List.map_eq_cons_iff.1 e2
                    simp only [Prod.mk.injEq] at e3
                    obtain ⟨rfl, rfl⟩ := e3
                    obtain ⟨Ax, nx, cx, hpv, hsx⟩ := H6.out ((fk, pv'), mx) (List.mem_append_right _ List.mem_cons_self)
                    simp only at hpv hsx
                    subst hpv
                    have hkv : TS.kv fk = .string ⟨fk.toArray⟩ := rfl
                    rw [hkv] at hen ⊢
                    have hru : wo1.heap.size ≠ u := by omega
                    have hun3 := grownBlk hg3 H2.out.un (fun e => hru (by injection e))
                    have how3 : Own w3 (fun k => k < w6.heap.size) wc.heap.size 63 A2' c2' out := H3.out.keep fun k hk hT => hg3.block k hk (fun e => by
                      injection e with e
                      rcases hT with hT | hT
                      · have : k < w6.heap.size := hT
                        omega
                      · exact H4.out (by rw [hT, e]))
                    have hsx3 : Sl w3 (fun k => k < w6.heap.size) Ax nx cx mx.params := hsx.keep fun k hk hT => by
                      have hT : k < w6.heap.size := hT
                      rw [hg3.block k (by omega) (fun e => by injection e with e; omega), H2.out.fr.block k (by omega) (by omega), HB12.out.block k hT]
                    have cu := (cell_blk hun3 2).trans rfl
                    have hu3 : u < w3.heap.size := by omega
                    have hu4 : u < wr.heap.size := by omega
                    have hu5 : u ≠ wr.heap.size := by omega
                    have hlr := H1.out.lt
                    have HOW3 := Lib.hid how3; have HRG3 := Lib.hid hrg3; have HUN3 := Lib.hid hun3; have HG3 := Lib.hid hg3; have HSX3 := Lib.hid hsx3
                    clear hsp e2 hkv how3 hrg3 hun3 hg3 hsx hsx3
                    go_wp2_with (at_builtin; go_loud (refine wpList_app1 rfl _ _ eltMac rfl (by decide) rfl rfl rfl ((HOW3.out.alloc _).alloc _) rfl [.string ⟨mx.name.toArray⟩, .slice Ax nx cx, .string ⟨mx.body.path.toArray⟩, .int .i64 mx.body.fr, .int .i64 mx.body.tu] mx (blkAt _ _ (by simp [hs3])) rfl ⟨rfl, rfl, rfl, rfl, Ax, nx, cx, rfl, ((HSX3.out.wide (fun k _ hk => ⟨hk, fun e => by have : k < w6.heap.size := hk; have := (HOW3.out.lt k e).1; omega⟩) (by decide)).alloc _).alloc _⟩ (by omega) (by omega) (by simp; omega) ?_); intro A9 c9 w7 hown7 hg7 hat7; have hb7 := grownBlk hg7 (blkOld (blkOld HUN3.out _) _) (fun e => by have := (HOW3.out.lt u e).1; omega); have z7 := (cell_blk hb7 2).trans rfl; have f7 := frz_blk hb7 2; clear hb7)
                    have hbW : Below w3.heap.size w3 ((w3.alloc (.cells #[.string ⟨mx.name.toArray⟩, .slice Ax nx cx, .string ⟨mx.body.path.toArray⟩, .int .i64 mx.body.fr, .int .i64 mx.body.tu] 63)).alloc (.cells #[.string ⟨mx.name.toArray⟩, .slice Ax nx cx, .string ⟨mx.body.path.toArray⟩, .int .i64 mx.body.fr, .int .i64 mx.body.tu] 63)) := by ((repeat (first | (with_reducible exact Below.refl _ _) | (with_reducible refine belowA ?_ _) | (with_reducible refine belowD ?_) | (with_reducible refine belowS ?_ (Nat.le_refl _) _ _) | (with_reducible refine next ?_ (by assumption) (Nat.le_refl _)))); done)
                    have hkp := fun v => un_keep (u := u) (j := 2) (v := v) hbW hg7
                    have hst := H2.out.step hul (by omega) HG3.out hbW (fun k e => (HOW3.out.lt k e).1) hg7 2 (.slice A9 (out.length + 1) c9)
                    have hrr : A9.map Addr.block ≠ some wo1.heap.size := fun e => by
                      rcases hat7 with h | h
                      · exact H4.out (by rw [← h]; exact e)
                      · rw [h] at e; injection e with e; simp at e; omega
                    have hA9u : A9.map Addr.block ≠ some u := fun e => by have := (hown7.lt u e).1; omega
                    have hrel : RangeV TS (w7.setCell ⟨u, 2, none⟩ (.slice A9 (out.length + 1) c9)) mm wo1.heap.size mv ((a1 ++ a2).map (·.1)) := by
                      have h0 := HRG3.out.keep (hkp (.slice A9 (out.length + 1) c9) mm HRG3.out.lt.1 (by omega) (fun e => by have := (HOW3.out.lt _ e).1; omega)) (hkp (.slice A9 (out.length + 1) c9) wo1.heap.size HRG3.out.lt.2.1 hru H4.out)
                      rw [List.map_append]
                      exact h0
                    have how9 : Own (w7.setCell ⟨u, 2, none⟩ (.slice A9 (out.length + 1) c9)) (fun k => k < w6.heap.size) wc.heap.size 63 A9 c9 (out ++ [mx]) := hown7.keep fun k _ hk => set_other _ _ _ _ _ (fun e => by
                      rcases hk with hk | hk
                      · have : k < w6.heap.size := hk
                        omega
                      · exact hA9u (by rw [hk, e]))
                    have kk0 : Own (w7.setCell ⟨u, 2, none⟩ (.slice A9 (out.length + 1) c9)) (fun _ => False) wc.heap.size 9 A1 c1 fs := K0.out.keep fun k hk hT => (hkp (.slice A9 (out.length + 1) c9) k (by have := HG3.out.size; omega) (fun e => by rcases hT with hT | hT; exact hT.elim; have := (K0.out.lt k hT).1; omega) (fun e => by rcases hT with hT | hT; exact hT.elim; exact D0.out k e hT)).trans (HG3.out.block k hk (fun e => by injection e with e; rcases hT with hT | hT; exact hT.elim; exact R20 (by rw [hT, e])))
                    have dd0 : ∀ k, A9.map Addr.block = some k → A1.map Addr.block ≠ some k := fun k e e1 => by
                      rcases hat7 with h | h
                      · exact D0.out k (by rw [← h]; exact e) e1
                      · rw [h] at e; injection e with e; have := (K0.out.lt k e1).2; have := HG3.out.size; simp at e; omega
                    have HR9 := Lib.hid (show RangeV TS (w7.setCell ⟨u, 2, none⟩ (.slice A9 (out.length + 1) c9)) mm wo1.heap.size mv ((a1 ++ a2).map (·.1)) ∧ UnW wc (w7.setCell ⟨u, 2, none⟩ (.slice A9 (out.length + 1) c9)) u #[.string ⟨p.toArray⟩, .slice A1 fs.length c1, .slice A9 (out ++ [mx]).length c9, .slice iA s2.items.length ic, .slice A4 n4 c4, .slice none 0 0] ∧ Own (w7.setCell ⟨u, 2, none⟩ (.slice A9 (out.length + 1) c9)) (fun k => k < w6.heap.size) wc.heap.size 63 A9 c9 (out ++ [mx]) ∧ A9.map Addr.block ≠ some wo1.heap.size ∧ ((out ++ [mx]) ++ (a1 ++ a2).map (·.2)).Perm (s2.macros.map (·.2)) ∧ (∀ q ∈ a1 ++ a2, VMacQ w6 q.1.2 q.2) ∧ Own (w7.setCell ⟨u, 2, none⟩ (.slice A9 (out.length + 1) c9)) (fun _ => False) wc.heap.size 9 A1 c1 fs ∧ (∀ k, A9.map Addr.block = some k → A1.map Addr.block ≠ some k) from
                      ⟨hrel, by simpa using hst, how9, hrr, by
                        refine List.Perm.trans ?_ H5.out
                        rw [List.map_append, List.map_append, List.map_cons, List.append_assoc]
                        refine List.Perm.append_left _ ?_
                        show (mx :: (a1.map (·.2) ++ a2.map (·.2))).Perm (a1.map (·.2) ++ mx :: a2.map (·.2))
                        exact List.perm_middle.symm, fun q hq => H6.out q (by
                          rcases List.mem_append.1 hq with h | h
                          · exact List.mem_append_left _ h
                          · exact List.mem_append_right _ (List.mem_cons_of_mem _ h)), kk0, dd0⟩)
                    have HMS := Lib.hid (show (w7.setCell ⟨u, 2, none⟩ (.slice A9 (out.length + 1) c9)).rangeLeft mm wo1.heap.size < wr.rangeLeft mm wo1.heap.size by
                      rw [hrel.left_eq, H1.out.left_eq]
                      simp only [List.map_append, List.length_append, List.length_map, List.length_cons, List.map_cons]
                      omega)
                    clear hown7 hg7 hat7 hst hrr hrel how9 hbW hkp hen cu kk0 dd0
                    go_wp2_with fail
                    go_roundw
                    case rel => exact ⟨a1 ++ a2, out ++ [mx], A9, c9, HR9⟩
                    case measure => exact HMS.out

              · intro l1 pk pv l2 w3 hsp hrg3 hg3 hs3 hen
                obtain ⟨a1, ar, rfl, rfl, e2⟩ := List.map_eq_append_iff.1 hsp
                obtain ⟨⟨fk, fb⟩, a2, rfl, e3, rfl⟩ := List.map_eq_cons_iff.1 e2
                simp only [Prod.mk.injEq] at e3
                obtain ⟨rfl, rfl⟩ := e3
                have hkv : TS.kv fk = .string ⟨fk.toArray⟩ := rfl
                rw [hkv] at hen ⊢
                have hru : wc.heap.size ≠ u := by omega
                have hun3 := grownBlk hg3 H2.out.un (fun e => hru (by injection e))
                have how3 : Own w3 (fun _ => False) wc.heap.size 9 A1 c1 out := H3.out.keep fun k hk hT => hg3.block k hk (fun e => by
                  injection e with e
                  rcases hT with hT | hT
                  · exact hT
                  · exact H4.out (by rw [hT, e]))
                have cu := (cell_blk hun3 1).trans rfl
                have hlr := H1.out.lt
                have HOW3 := Lib.hid how3; have HRG3 := Lib.hid hrg3; have HUN3 := Lib.hid hun3; have HG3 := Lib.hid hg3
                clear hsp e2 hkv how3 hrg3 hun3 hg3
                go_wp2_with (at_builtin; go_loud (refine wpList_app1 rfl _ _ eltStr rfl (by decide) rfl rfl rfl (HOW3.out.alloc _) rfl [.string ⟨fk.toArray⟩] fk (blkAt _ _ (by simp [hs3])) rfl rfl (by omega) (by omega) (by simp; omega) ?_); intro A9 c9 w7 hown7 hg7 hat7; have hb7 := grownBlk hg7 (blkOld HUN3.out _) (fun e => by have := (HOW3.out.lt u e).1; omega); have z7 := (cell_blk hb7 1).trans rfl; have f7 := frz_blk hb7 1; clear hb7)
                have hbW : Below w3.heap.size w3 (w3.alloc (.cells #[.string ⟨fk.toArray⟩] 9)) := boxed
                have hkp := fun v => un_keep (u := u) (j := 1) (v := v) hbW hg7
                have hst := H2.out.step hul (by omega) HG3.out hbW (fun k e => (HOW3.out.lt k e).1) hg7 1 (.slice A9 (out.length + 1) c9)
                have hrr : A9.map Addr.block ≠ some wc.heap.size := fun e => by
                  rcases hat7 with h | h
                  · exact H4.out (by rw [← h]; exact e)
                  · rw [h] at e; injection e with e; simp at e; omega
                have hA9u : A9.map Addr.block ≠ some u := fun e => by have := (hown7.lt u e).1; omega
                have hrel : RangeV TS (w7.setCell ⟨u, 1, none⟩ (.slice A9 (out.length + 1) c9)) mf wc.heap.size (vFlags s2.flags) (vFlags (a1 ++ a2)) := by
                  have h0 := HRG3.out.keep (hkp (.slice A9 (out.length + 1) c9) mf HRG3.out.lt.1 (by omega) (fun e => by have := (HOW3.out.lt _ e).1; omega)) (hkp (.slice A9 (out.length + 1) c9) wc.heap.size HRG3.out.lt.2.1 hru H4.out)
                  unfold vFlags at h0 ⊢
                  rw [List.map_append]
                  exact h0
                have how9 : Own (w7.setCell ⟨u, 1, none⟩ (.slice A9 (out.length + 1) c9)) (fun _ => False) wc.heap.size 9 A9 c9 (out ++ [fk]) := hown7.keep fun k _ hk => set_other _ _ _ _ _ (fun e => by
                  rcases hk with hk | hk
                  · exact hk
                  · exact hA9u (by rw [hk, e]))
                have HR9 := Lib.hid (show RangeV TS (w7.setCell ⟨u, 1, none⟩ (.slice A9 (out.length + 1) c9)) mf wc.heap.size (vFlags s2.flags) (vFlags (a1 ++ a2)) ∧ UnW wc (w7.setCell ⟨u, 1, none⟩ (.slice A9 (out.length + 1) c9)) u #[.string ⟨p.toArray⟩, .slice A9 (out ++ [fk]).length c9, .slice none 0 0, .slice iA s2.items.length ic, .slice A4 n4 c4, .slice none 0 0] ∧ Own (w7.setCell ⟨u, 1, none⟩ (.slice A9 (out.length + 1) c9)) (fun _ => False) wc.heap.size 9 A9 c9 (out ++ [fk]) ∧ A9.map Addr.block ≠ some wc.heap.size ∧ ((out ++ [fk]) ++ (a1 ++ a2).map (·.1)).Perm (s2.flags.map (·.1)) from
                  ⟨hrel, by simpa using hst, how9, hrr, by
                    refine List.Perm.trans ?_ H5.out
                    rw [List.map_append, List.map_append, List.map_cons, List.append_assoc]
                    refine List.Perm.append_left _ ?_
                    show (fk :: (a1.map (·.1) ++ a2.map (·.1))).Perm (a1.map (·.1) ++ fk :: a2.map (·.1))
                    exact List.perm_middle.symm⟩)
                have HMS := Lib.hid (show (w7.setCell ⟨u, 1, none⟩ (.slice A9 (out.length + 1) c9)).rangeLeft mf wc.heap.size < wr.rangeLeft mf wc.heap.size by
                  rw [hrel.left_eq, H1.out.left_eq]
                  unfold vFlags
                  simp only [List.map_append, List.length_append, List.length_map, List.length_cons, List.map_cons]
                  omega)
                clear hown7 hg7 hat7 hst hrr hrel how9 hbW hkp hen cu
                go_wp2_with fail
                go_roundw
                case rel => exact ⟨a1 ++ a2, out ++ [fk], A9, c9, HR9⟩
                case measure => exact HMS.out
end Go.Proofs.YtpeamehplhpcjaaGreatDoor
