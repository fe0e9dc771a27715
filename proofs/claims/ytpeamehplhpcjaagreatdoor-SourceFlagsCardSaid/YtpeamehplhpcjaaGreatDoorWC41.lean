/- A part of the proofs of the laws of one package; see the law's own text, which comes last in 'order'. No conditions of its own. -/
import Derived.Test.YtpeamehplhpcjaaGreatDoorWC25
import Derived.Test.YtpeamehplhpcjaaGreatDoorWC35
import Derived.Test.YtpeamehplhpcjaaGreatDoorWC37
import Derived.Test.YtpeamehplhpcjaaGreatDoorWC38
import Derived.Test.YtpeamehplhpcjaaGreatDoorWC39
import Derived.Test.YtpeamehplhpcjaaGreatDoorWC40
set_option linter.unusedVariables false
set_option linter.unusedSimpArgs false
namespace Go.Proofs.YtpeamehplhpcjaaGreatDoor
open Go.RowKit
structure LfX where
  b0 : Nat
  gu : Nat
  gf : Nat
  A7 : Option Addr
  c7 : Nat
  D1 : Option Addr
  j1 : Nat
  f1 : Nat
  D2 : Option Addr
  j2 : Nat
  f2 : Nat
  D3 : Option Addr
  j3 : Nat
  f3 : Nat
  D4 : Option Addr
  j4 : Nat
  f4 : Nat
  D5 : Option Addr
  j5 : Nat
  f5 : Nat
def setAll (a : Act) (V : List (Nat × Value)) : Act := ⟨V.foldl (fun t p => t.setIfInBounds p.1 p.2) a.tmps, a.defers⟩
theorem leaf_cut {P : Program} {md : Region.Mode} {ops : Array Oper} {Q : Exit → Act → World → Prop} {S : World → Prop} {f : Nat} {l : Array Bool} {a : Act} {w : World} (F : LfX → World → Prop) (V : LfX → List (Nat × Value)) (L : Array Bool)
    (leaf : ∀ x W l' a', F x W → l' = L → a' = setAll a (V x) → wpAnyH P md ops Q S 2 l' a' W)
    (main : (∀ x W l' a', F x W → l' = L → a' = setAll a (V x) → wpAnyH P md ops Q S 2 l' a' W) → wpAnyH P md ops Q S f l a w) : wpAnyH P md ops Q S f l a w := main leaf
theorem occ_infix {s x : Bs} (h : x <:+: s) : ∃ j, j ≤ s.length ∧ Lib.occAt s x j = true := by
  obtain ⟨a, b, rfl⟩ := h
  refine ⟨a.length, by simp, ?_⟩
  unfold Lib.occAt
  simp
theorem noOcc {s x : Bs} (h : Lib.contains s x = false) : ¬ x <:+: s := by
  intro hi
  obtain ⟨j, hj, ho⟩ := occ_infix hi
  unfold Lib.contains at h
  rcases Lib.index_spec s x with ⟨h1, h2⟩ | ⟨i, h1, h2, h3, h4⟩
  · rw [h2 j hj] at ho; cases ho
  · rw [h1] at h
    simp at h
set_option maxHeartbeats 400000 in
theorem flags1_any (w : World) (f : Fil) (x : Bs) (g : Nat) (hg : w.cell? ⟨g, 0, none⟩ = some (.string ⟨x.toArray⟩)) (hL : LS w) (hf : f.data.length ≤ 65536) :
    Calls Tryz.prog 31 #[.agg #[.string ⟨f.path.toArray⟩, .string ⟨f.data.toArray⟩], .pointer (some ⟨g, 0, none⟩)] w fun e w' => e = .returned (.bool (Lib.contains f.data x)) ∧ Below w.heap.size w w' := by
  have hb : Below w.heap.size w (w.alloc (.cells #[.string ⟨f.path.toArray⟩, .string ⟨f.data.toArray⟩] 73)) := by ((repeat (first | (with_reducible exact Below.refl _ _) | (with_reducible refine belowA ?_ _) | (with_reducible refine belowD ?_) | (with_reducible refine belowS ?_ (Nat.le_refl _) _ _) | (with_reducible refine next ?_ (by assumption) (Nat.le_refl _)))); done)
  have h1 := cell_later hb hg
  obtain ⟨m, hm⟩ := (hL.below hb).mxl
  have hq := blkAt w (.cells #[.string ⟨f.path.toArray⟩, .string ⟨f.data.toArray⟩] 73) rfl
  have hc := Tryz.strings_Contains ⟨f.data.toArray⟩ ⟨x.toArray⟩ m (w.alloc (.cells #[.string ⟨f.path.toArray⟩, .string ⟨f.data.toArray⟩] 73)) (by simp [ByteArray.size]; omega) hm
  have HC := Lib.hid hc
  clear hc hm hg
  go_enter Tryz.func31, Tryz.ntmps31
  go_upto_region 1 with fail
  generalize (w.alloc (.cells #[.string ⟨f.path.toArray⟩, .string ⟨f.data.toArray⟩] 73)) = W at *
  have HB := Lib.hid hb
  have q1 := (cell_blk hq 1).trans rfl
  clear hb hq
  go_wp2_with fail
  refine HC.out.mono ?_
  rintro e w1 ⟨rfl, rfl⟩
  go_wp2_with fail
  go_ret
  exact ⟨rfl, HB.out⟩
set_option maxHeartbeats 400000 in
theorem flags2_any (w : World) (s x : Bs) (g : Nat) (hg : w.cell? ⟨g, 0, none⟩ = some (.string ⟨x.toArray⟩)) :
    Calls Tryz.prog 34 #[.string ⟨s.toArray⟩, .pointer (some ⟨g, 0, none⟩)] w fun e w' => e = .returned (.bool (s == x)) ∧ Below w.heap.size w w' := by
  go_enter Tryz.func34, Tryz.ntmps34
  go_wp2_with fail
  go_ret
  exact ⟨rfl, Below.refl _ _⟩
structure FgW (w W : World) (cx : Array Value) (fg : Bs) (g : Nat) (cu : Array Value) : Prop where
  bl : Below w.heap.size w W
  bx : W.heap[w.heap.size]? = some (.cells cx 55 (0, 0))
  bf : W.heap[w.heap.size + 1]? = some (.cells #[.string ⟨fg.toArray⟩] 9 (0, 0))
  bu : W.heap[g]? = some (.cells cu 36 (0, 0))
theorem FgW.below {w W W' : World} {cx cu : Array Value} {fg : Bs} {g : Nat} (h : FgW w W cx fg g cu) (hb : Below W.heap.size W W') : FgW w W' cx fg g cu := ⟨h.bl.trans (hb.mono h.bl.size), keptBlk hb h.bx, keptBlk hb h.bf, keptBlk hb h.bu⟩
theorem FgW.grown {w W W' : World} {cx cu : Array Value} {fg : Bs} {g : Nat} {r : Option Nat} (h : FgW w W cx fg g cu) (hg : W.grownBy W' r) (hr : ∀ k, r = some k → w.heap.size + 2 ≤ k ∧ k ≠ g) : FgW w W' cx fg g cu := by
  refine ⟨?_, ?_, ?_, ?_⟩
  · exact h.bl.grown hg h.bl.size (fun k hk => by have := (hr k hk).1; omega)
  · exact grownBlk hg h.bx (fun e => by have := (hr _ e).1; omega)
  · exact grownBlk hg h.bf (fun e => by have := (hr _ e).1; omega)
  · exact grownBlk hg h.bu (fun e => (hr _ e).2 rfl)
theorem VUnt.grown {W W' : World} {v : Value} {u : Unt} {r : Option Nat} (h : VUnt W v u) (hg : W.grownBy W' r) (hr : ∀ k, r = some k → W.heap.size ≤ k) : VUnt W' v u :=
  h.below ⟨hg.os, hg.tape, hg.output, hg.size, fun k hk => hg.block k hk (fun e => by have := hr k e.symm; omega)⟩
theorem wpAnyH_three {P : Program} {ops : Array Oper} {Q : Exit → Act → World → Prop} {md : Region.Mode} {S : World → Prop} (i j k : Nat) {o o' o'' : Oper} {fuel : Nat} {listed : Array Bool} {a : Act} {w : World} (hr : Region.ready md ops listed = [i, j, k]) (ho : ops[i]? = some o) (ho' : ops[j]? = some o') (ho'' : ops[k]? = some o'')
    (h : ∀ K' : Act → World → Prop, Shut (∀ a' w', S w' → wpAnyH P md ops Q S fuel (listed.setIfInBounds i true) a' w' → K' a' w') → if Region.wanted o (yielded ops a.tmps) = true then Oper.wp P o a w K' Q else K' (a.put o.dst undef) w)
    (h' : ∀ K' : Act → World → Prop, Shut (∀ a' w', S w' → wpAnyH P md ops Q S fuel (listed.setIfInBounds j true) a' w' → K' a' w') → if Region.wanted o' (yielded ops a.tmps) = true then Oper.wp P o' a w K' Q else K' (a.put o'.dst undef) w)
    (h'' : ∀ K' : Act → World → Prop, Shut (∀ a' w', S w' → wpAnyH P md ops Q S fuel (listed.setIfInBounds k true) a' w' → K' a' w') → if Region.wanted o'' (yielded ops a.tmps) = true then Oper.wp P o'' a w K' Q else K' (a.put o''.dst undef) w) :
    wpAnyH P md ops Q S (fuel + 1) listed a w := by
  refine ⟨fun h0 => (by rw [hr] at h0; cases h0), fun x hx => ?_⟩
  rw [hr] at hx
  rcases List.mem_cons.1 hx with rfl | hx
  · exact wpOp_step ho (fun K' hK => h K' (fun a w hS hW => hK a w ⟨hS, hW⟩))
  · rcases List.mem_cons.1 hx with rfl | hx
    · exact wpOp_step ho' (fun K' hK => h' K' (fun a w hS hW => hK a w ⟨hS, hW⟩))
    · rcases List.mem_cons.1 hx with rfl | hx
      · exact wpOp_step ho'' (fun K' hK => h'' K' (fun a w hS hW => hK a w ⟨hS, hW⟩))
      · cases hx
def Zf (W : World) (g0 : Nat) : Prop := W.heap[g0]? = some (.cells #[.int .i64 0, .int .i64 0, .int .i64 0, .string ⟨#[]⟩, .int .i64 0] 40 (0, 0))
theorem zf_str {W : World} {g0 : Nat} (h : Zf W g0) {b o : Nat} {x : Bs} (hc : W.cell? ⟨b, o, none⟩ = some (.string ⟨x.toArray⟩)) (hx : x ≠ []) : b ≠ g0 := by
  intro e
  subst e
  rw [cell_blk h] at hc
  match o with
  | 0 => simp at hc
  | 1 => simp at hc
  | 2 => simp at hc
  | 3 => simp at hc; exact hx hc
  | 4 => simp at hc
  | k + 5 => simp at hc
theorem zf_sl {W : World} {g0 : Nat} (h : Zf W g0) {b o : Nat} {A : Option Addr} {n c : Nat} (hc : W.cell? ⟨b, o, none⟩ = some (.slice A n c)) : b ≠ g0 := by
  intro e
  subst e
  rw [cell_blk h] at hc
  match o with
  | 0 => simp at hc
  | 1 => simp at hc
  | 2 => simp at hc
  | 3 => simp at hc
  | 4 => simp at hc
  | k + 5 => simp at hc
theorem zf_two {W : World} {g0 : Nat} (h : Zf W g0) {b o : Nat} {x : Bs} {z : Int} (hc : W.cell? ⟨b, o, none⟩ = some (.string ⟨x.toArray⟩)) (hd : W.cell? ⟨b, o + 2, none⟩ = some (.int .i64 z)) : b ≠ g0 := by
  intro e
  subst e
  rw [cell_blk h] at hc hd
  match o with
  | 0 => simp at hc
  | 1 => simp at hc
  | 2 => simp at hc
  | 3 => simp at hd
  | 4 => simp at hc
  | k + 5 => simp at hc
def U5 (W : World) (S : Nat → Prop) (D1 : Option Addr) (j1 f1 : Nat) (D2 : Option Addr) (j2 f2 : Nat) (D3 : Option Addr) (j3 f3 : Nat) (D4 : Option Addr) (j4 f4 : Nat) (D5 : Option Addr) (j5 f5 : Nat) (y : Unt) : Prop :=
  Sl W S D1 j1 f1 y.flags ∧ Sl W S D2 j2 f2 y.macros ∧ Sl W S D3 j3 f3 y.items ∧ Sl W S D4 j4 f4 y.heads ∧ Sl W S D5 j5 f5 y.files
theorem sl_str2 {W : World} {gu gf : Nat} (hz : Zu W gu) (hf : Zf W gf) {S : Nat → Prop} {A : Option Addr} {n c : Nat} {xs : List Bs} (h : Sl W S A n c xs) (hne : NE xs) : Sl W (fun k => k ≠ gu ∧ k ≠ gf) A n c xs := by
  refine ⟨h.1, h.2.1, h.2.2.1, fun i hi => ?_⟩
  obtain ⟨ad, hA, hS, g, hc, hr⟩ := h.2.2.2 i hi
  obtain ⟨b, o, hA', -, -, hcell⟩ := h.str hi
  rw [hA] at hA'
  injection hA' with hA'
  subst hA'
  exact ⟨_, hA, ⟨zu_str hz hcell (hne _ (List.getElem_mem hi)), zf_str hf hcell (hne _ (List.getElem_mem hi))⟩, g, hc, hr⟩
theorem VUnt.clean2 {W : World} {gu gf : Nat} (hz : Zu W gu) (hf : Zf W gf) {p : Bs} {D1 D2 D3 D4 D5 : Option Addr} {j1 f1 j2 f2 j3 f3 j4 f4 j5 f5 : Nat} {y : Unt} (h : VUnt W (.agg #[.string ⟨p.toArray⟩, .slice D1 j1 f1, .slice D2 j2 f2, .slice D3 j3 f3, .slice D4 j4 f4, .slice D5 j5 f5]) y) (hu : UNE y) :
    U5 W (fun k => k ≠ gu ∧ k ≠ gf) D1 j1 f1 D2 j2 f2 D3 j3 f3 D4 j4 f4 D5 j5 f5 y := by
  obtain ⟨h1, h2, h3, h4, h5⟩ := h.heads
  obtain ⟨u1, u2, u3, u4⟩ := hu
  refine ⟨sl_str2 hz hf h1 u1, ?_, ?_, ?_, sl_str2 hz hf h5 u2⟩
  · refine ⟨h2.1, h2.2.1, h2.2.2.1, fun i hi => ?_⟩
    obtain ⟨ad, hA, hS, g, hc, h0, h2', h3', h4', A1, n1, c1, e, hs⟩ := h2.2.2.2 i hi
    obtain ⟨b, o, hA', -, -, _, _, _, -, hc1, -, hc3, -⟩ := h2.mac hi
    rw [hA] at hA'
    injection hA' with hA'
    subst hA'
    exact ⟨_, hA, ⟨zu_int hz hc3, zf_sl hf hc1⟩, g, hc, h0, h2', h3', h4', A1, n1, c1, e, sl_str2 hz hf hs (u4 _ (List.getElem_mem hi))⟩
  · refine ⟨h3.1, h3.2.1, h3.2.2.1, fun i hi => ?_⟩
    obtain ⟨ad, hA, hS, g, hc, h0, h1', h2', h4', h5', h6', A1, n1, c1, e, hs⟩ := h3.2.2.2 i hi
    obtain ⟨b, o, hA', -, -, _, _, _, -, hc1, -, hc3, -⟩ := h3.itm hi
    rw [hA] at hA'
    injection hA' with hA'
    subst hA'
    exact ⟨_, hA, ⟨zu_int hz hc1, zf_sl hf hc3⟩, g, hc, h0, h1', h2', h4', h5', h6', A1, n1, c1, e, sl_str2 hz hf hs (u3 _ (List.getElem_mem hi))⟩
  · refine ⟨h4.1, h4.2.1, h4.2.2.1, fun i hi => ?_⟩
    obtain ⟨ad, hA, hS, g, hc, hr⟩ := h4.2.2.2 i hi
    obtain ⟨b, o, hA', -, -, hc0, hc1, hc2⟩ := h4.spn hi
    rw [hA] at hA'
    injection hA' with hA'
    subst hA'
    exact ⟨_, hA, ⟨zu_int hz hc1, zf_two hf hc0 hc2⟩, g, hc, hr⟩
theorem U5.keep {W W' : World} {gu gf : Nat} {D1 D2 D3 D4 D5 : Option Addr} {j1 f1 j2 f2 j3 f3 j4 f4 j5 f5 : Nat} {y : Unt} (h : U5 W (fun k => k ≠ gu ∧ k ≠ gf) D1 j1 f1 D2 j2 f2 D3 j3 f3 D4 j4 f4 D5 j5 f5 y) (hk : ∀ k, k ≠ gu → k ≠ gf → W'.heap[k]? = W.heap[k]?) :
    U5 W' (fun k => k ≠ gu) D1 j1 f1 D2 j2 f2 D3 j3 f3 D4 j4 f4 D5 j5 f5 y := by
  obtain ⟨h1, h2, h3, h4, h5⟩ := h
  exact ⟨(h1.keep fun k _ hn => hk k hn.1 hn.2).wide (fun k _ hn => hn.1) (by decide), (h2.keep fun k _ hn => hk k hn.1 hn.2).wide (fun k _ hn => hn.1) (by decide), (h3.keep fun k _ hn => hk k hn.1 hn.2).wide (fun k _ hn => hn.1) (by decide), (h4.keep fun k _ hn => hk k hn.1 hn.2).wide (fun k _ hn => hn.1) (by decide), (h5.keep fun k _ hn => hk k hn.1 hn.2).wide (fun k _ hn => hn.1) (by decide)⟩
theorem bel6 {B : Nat} {a W : World} (h : Below B a W) {g : Nat} (hg : B ≤ g) (a0 a1 a2 a3 a4 a5 : Value) :
    Below B a ((((((W.setCell ⟨g, 0, none⟩ a0).setCell ⟨g, 1, none⟩ a1).setCell ⟨g, 2, none⟩ a2).setCell ⟨g, 3, none⟩ a3).setCell ⟨g, 4, none⟩ a4).setCell ⟨g, 5, none⟩ a5) :=
  (((((h.setCell (p := ⟨g, 0, none⟩) hg a0).setCell (p := ⟨g, 1, none⟩) hg a1).setCell (p := ⟨g, 2, none⟩) hg a2).setCell (p := ⟨g, 3, none⟩) hg a3).setCell (p := ⟨g, 4, none⟩) hg a4).setCell (p := ⟨g, 5, none⟩) hg a5
theorem bel5 {B : Nat} {a W : World} (h : Below B a W) {g : Nat} (hg : B ≤ g) (a0 a1 a2 a3 a4 : Value) :
    Below B a (((((W.setCell ⟨g, 0, none⟩ a0).setCell ⟨g, 1, none⟩ a1).setCell ⟨g, 2, none⟩ a2).setCell ⟨g, 3, none⟩ a3).setCell ⟨g, 4, none⟩ a4) :=
  ((((h.setCell (p := ⟨g, 0, none⟩) hg a0).setCell (p := ⟨g, 1, none⟩) hg a1).setCell (p := ⟨g, 2, none⟩) hg a2).setCell (p := ⟨g, 3, none⟩) hg a3).setCell (p := ⟨g, 4, none⟩) hg a4
set_option maxRecDepth 100000 in
set_option maxHeartbeats 16000000 in
theorem sourceFlags_walk (w : World) (v : Value) (x : Scn) (hv : VScn w v x) (hk : OkScn x) (fg : Bs) (hfg : fg.length ≤ 9223372036854775807) (hL : LS w) :
    Calls Tryz.prog 8 #[v, .string ⟨fg.toArray⟩] w fun e w' => e = .returned (.bool true) ∧ Below w.heap.size w w' := by
  obtain ⟨A, n, c, A2, n2, c2, rfl, hl, hl2⟩ := hv
  have hn2 := hl2.len
  subst hn2
  have hls := @lscan_ok x
  have hsc := fun w' h1 h2 => lscan_any w' _ x ⟨A, n, c, A2, x.flags.length, c2, rfl, h1, h2⟩
  obtain ⟨t, p, fl, ⟨lp, lz⟩, tx⟩ := x
  simp only at hl hl2 hls hsc
  generalize lscanS ⟨t, p, fl, ⟨lp, lz⟩, tx⟩ = R at *
  obtain ⟨u, ok⟩ := R
  simp only at hls hsc
  have HA := Lib.hid (awake_any ((w.alloc (.cells #[.slice A n c, .string ⟨p.toArray⟩, .slice A2 fl.length c2, .string ⟨lp.toArray⟩, .int .i64 lz, .string ⟨tx.toArray⟩] 55)).alloc (.cells #[.string ⟨fg.toArray⟩] 9)) ((hL.alloc _).alloc _))
  have HT := Lib.hid hl; have HT2 := Lib.hid hl2; have HLS := Lib.hid hls; have HSC := Lib.hid hsc; have HL := Lib.hid hL
  clear hl hl2 hls hsc hL hk
  simp only at *
  go_enter Tryz.func8, Tryz.ntmps8
  go_wp2_with fail
  refine HA.out.mono ?_
  rintro e w1 ⟨rfl, hb1⟩
  have hB1 : Below w.heap.size w w1 := (belowA (belowA (Below.refl w.heap.size w) _) _).trans (hb1.mono (by simp; omega))
  have hx1 : w1.heap[w.heap.size]? = some (.cells #[.slice A n c, .string ⟨p.toArray⟩, .slice A2 fl.length c2, .string ⟨lp.toArray⟩, .int .i64 lz, .string ⟨tx.toArray⟩] 55 (0, 0)) := keptBlk hb1 (blkOld (blkAt w _ rfl) _)
  have hf1 : w1.heap[w.heap.size + 1]? = some (.cells #[.string ⟨fg.toArray⟩] 9 (0, 0)) := keptBlk hb1 (blkAt _ _ (by simp))
  have p0 := (cell_blk hx1 0).trans rfl; have p1 := (cell_blk hx1 1).trans rfl; have p2 := (cell_blk hx1 2).trans rfl; have p3 := (cell_blk hx1 3).trans rfl; have p4 := (cell_blk hx1 4).trans rfl; have p5 := (cell_blk hx1 5).trans rfl; have q0 := (cell_blk hf1 0).trans rfl
  have HB1 := Lib.hid hB1; have HX1 := Lib.hid hx1; have HF1 := Lib.hid hf1
  clear hb1 hB1 hx1 hf1 HA
  go_wp2_with fail
  refine (HSC.out w1 (HT.out.below HB1.out) (HT2.out.below HB1.out) (HL.out.below HB1.out)).mono ?_
  rintro e w2 ⟨V, rfl, hV, hb2⟩
  obtain ⟨B1, m1, d1, B2, m2, d2, B3, m3, d3, B4, m4, d4, B5, m5, d5, rfl, hV⟩ := hV
  have hB2 := HB1.out.trans (hb2.mono HB1.out.size)
  have hx2 := keptBlk hb2 HX1.out; have hf2 := keptBlk hb2 HF1.out
  clear p0 p1 p2 p3 p4 p5 q0
  clear hb2 HB1 HX1 HF1
  go_upto_region 4 with fail
  have hbW : Below w2.heap.size w2 (w2.alloc (.cells #[.string ⟨u.path.toArray⟩, .slice B1 m1 d1, .slice B2 m2 d2, .slice B3 m3 d3, .slice B4 m4 d4, .slice B5 m5 d5] 36)) := by ((repeat (first | (with_reducible exact Below.refl _ _) | (with_reducible refine belowA ?_ _) | (with_reducible refine belowD ?_) | (with_reducible refine belowS ?_ (Nat.le_refl _) _ _) | (with_reducible refine next ?_ (by assumption) (Nat.le_refl _)))); done)
  have hW3 : FgW w (w2.alloc (.cells #[.string ⟨u.path.toArray⟩, .slice B1 m1 d1, .slice B2 m2 d2, .slice B3 m3 d3, .slice B4 m4 d4, .slice B5 m5 d5] 36)) #[.slice A n c, .string ⟨p.toArray⟩, .slice A2 fl.length c2, .string ⟨lp.toArray⟩, .int .i64 lz, .string ⟨tx.toArray⟩] fg w2.heap.size #[.string ⟨u.path.toArray⟩, .slice B1 m1 d1, .slice B2 m2 d2, .slice B3 m3 d3, .slice B4 m4 d4, .slice B5 m5 d5] := ⟨hB2.trans (hbW.mono hB2.size), keptBlk hbW hx2, keptBlk hbW hf2, blkAt _ _ rfl⟩
  have hV3 : VUnt (w2.alloc (.cells #[.string ⟨u.path.toArray⟩, .slice B1 m1 d1, .slice B2 m2 d2, .slice B3 m3 d3, .slice B4 m4 d4, .slice B5 m5 d5] 36)) (.agg #[.string ⟨u.path.toArray⟩, .slice B1 m1 d1, .slice B2 m2 d2, .slice B3 m3 d3, .slice B4 m4 d4, .slice B5 m5 d5]) u := VUnt.below ⟨B1, m1, d1, B2, m2, d2, B3, m3, d3, B4, m4, d4, B5, m5, d5, rfl, hV⟩ hbW
  have hgl : w2.heap.size < (w2.alloc (.cells #[.string ⟨u.path.toArray⟩, .slice B1 m1 d1, .slice B2 m2 d2, .slice B3 m3 d3, .slice B4 m4 d4, .slice B5 m5 d5] 36)).heap.size := lt_alloc _ _
  generalize (w2.alloc (.cells #[.string ⟨u.path.toArray⟩, .slice B1 m1 d1, .slice B2 m2 d2, .slice B3 m3 d3, .slice B4 m4 d4, .slice B5 m5 d5] 36)) = w3 at *
  generalize w2.heap.size = g at *
  have HW3 := Lib.hid hW3; have HV3 := Lib.hid hV3
  clear hV hB2 hx2 hf2 hbW hW3 hV3
  cases ok with
  | false =>
    go_wp2_with fail
    go_ret
    exact ⟨rfl, HW3.out.bl⟩
  | true =>
    obtain ⟨hfew, hp3, ht3, hu, hf0⟩ := HLS.out rfl
    obtain ⟨hfp, hft, hff, hfl⟩ := few6_ok hfew
    have htr := scan_tree hf0
    have hto := tree_ok htr
    have hrev := scan_rev t p fl
    have hflag := fun h1 h2 h3 h4 => @flag_law t p fl fg u (scanS t p fl).2 (by rw [hu]) hf0 h1 h2 h3 h4
    obtain ⟨xfl, hxfl⟩ : ∃ xfl, xfl = (scanS t p fl).2 := ⟨_, rfl⟩
    have hX : scanS t p fl.reverse = (u, xfl) := by rw [hrev, hu, hxfl]
    rw [← hxfl] at hf0
    obtain ⟨xe, xk, xs, ⟨xlp, xln⟩⟩ := xfl
    simp only at hf0
    subst hf0
    have hsb := fun w' B' c' fl' h1 h2 h3 h4 => scan_any A n c B' fl'.length c' w' (fun _ => True) (fun _ => True) t p fl' h1 h2 h3 (fun f hf => by have := hfp f hf; omega) (fun ht f hf => by have := (tree_ok ht f hf).2; omega) (by omega) h4
    have HSB := Lib.hid hsb; have HX := Lib.hid hX; have HFLAG := Lib.hid hflag; have HTO := Lib.hid hto; have HFF := Lib.hid hff
    have hune := unit_ne t p fl
    have HUNE := Lib.hid hune; have HU := Lib.hid hu
    clear hfew hp3 ht3 hfp hft hff htr hto hrev hflag hxfl hsb hX HLS HSC hune hu
    have hcl := fun h => cloneO_any A2 fl.length c2 w3 (fun _ => True) fl h (by omega)
    have HCL := Lib.hid hcl
    clear hcl
    have p2 := (cell_blk HW3.out.bx 2).trans rfl
    go_wp2_with fail
    refine (HCL.out (HT2.out.below HW3.out.bl)).mono ?_
    rintro e w4 ⟨Ab, cb, rfl, ho4, hb4⟩
    have HO4 := Lib.hid ho4; have HB4 := Lib.hid hb4
    have hs34 := hb4.size
    clear p2 ho4 hb4 HCL
    go_wp2_with fail
    refine (reverse_any Ab cb w4 _ fl HO4.out).mono ?_
    rintro e w5 ⟨rfl, ho5, hg5⟩
    have hb35 : Below w3.heap.size w3 w5 := HB4.out.grown hg5 hs34 (fun k hk => (HO4.out.lt k hk).1)
    have HW5 := Lib.hid (HW3.out.below hb35); have HV5 := Lib.hid (HV3.out.below hb35); have HO5 := Lib.hid ho5
    have hs35 := hb35.size
    have HB35 := Lib.hid hb35
    clear ho5 hg5 HO4 HB4 hb35
    have p0 := (cell_blk HW5.out.bx 0).trans rfl; have p1 := (cell_blk HW5.out.bx 1).trans rfl
    have hs1 := HSB.out w5 Ab cb fl.reverse (HT.out.below HW5.out.bl) (by rw [List.length_reverse]; exact ((HO5.out.sl (by decide)).any).cast (by simp)) (HL.out.below HW5.out.bl) (fun s hs => by have := HFF.out s (List.mem_reverse.1 hs); omega)
    rw [HX.out, List.length_reverse] at hs1
    have HS1 := Lib.hid hs1
    clear hs1 HX
    go_wp2_with fail
    refine HS1.out.mono ?_
    rintro e w6 ⟨V6, rfl, hV6, hb6⟩
    simp only at hV6
    obtain ⟨C1, k1, e1, C2, k2, e2, C3, k3, e3, C4, k4, e4, C5, k5, e5, rfl, hV6⟩ := hV6
    have hW6 := HW5.out.below hb6; have hV5 := HV5.out.below hb6
    have HO6 := Lib.hid (HO5.out.below hb6)
    have HB36 := Lib.hid (HB35.out.trans (hb6.mono HB35.out.size))
    have hs56 := hb6.size
    unfold vFlt
    clear p0 p1 hb6 HW5 HV5 HO5 HS1
    go_upto_region 9 with fail
    have hbW : Below w6.heap.size w6 ((w6.alloc (.cells #[.string ⟨u.path.toArray⟩, .slice C1 k1 e1, .slice C2 k2 e2, .slice C3 k3 e3, .slice C4 k4 e4, .slice C5 k5 e5] 36)).alloc (.cells #[.int .i64 0, .int .i64 xk, .int .i64 xs, .string ⟨xlp.toArray⟩, .int .i64 xln] 40)) := by ((repeat (first | (with_reducible exact Below.refl _ _) | (with_reducible refine belowA ?_ _) | (with_reducible refine belowD ?_) | (with_reducible refine belowS ?_ (Nat.le_refl _) _ _) | (with_reducible refine next ?_ (by assumption) (Nat.le_refl _)))); done)
    have hg1 : ((w6.alloc (.cells #[.string ⟨u.path.toArray⟩, .slice C1 k1 e1, .slice C2 k2 e2, .slice C3 k3 e3, .slice C4 k4 e4, .slice C5 k5 e5] 36)).alloc (.cells #[.int .i64 0, .int .i64 xk, .int .i64 xs, .string ⟨xlp.toArray⟩, .int .i64 xln] 40)).heap[w6.heap.size]? = some (.cells #[.string ⟨u.path.toArray⟩, .slice C1 k1 e1, .slice C2 k2 e2, .slice C3 k3 e3, .slice C4 k4 e4, .slice C5 k5 e5] 36 (0, 0)) := blkOld (blkAt _ _ rfl) _
    have hg2 : ((w6.alloc (.cells #[.string ⟨u.path.toArray⟩, .slice C1 k1 e1, .slice C2 k2 e2, .slice C3 k3 e3, .slice C4 k4 e4, .slice C5 k5 e5] 36)).alloc (.cells #[.int .i64 0, .int .i64 xk, .int .i64 xs, .string ⟨xlp.toArray⟩, .int .i64 xln] 40)).heap[w6.heap.size + 1]? = some (.cells #[.int .i64 0, .int .i64 xk, .int .i64 xs, .string ⟨xlp.toArray⟩, .int .i64 xln] 40 (0, 0)) := blkAt _ _ (by simp)
    have HV7 := Lib.hid (VUnt.below (u := u) ⟨C1, k1, e1, C2, k2, e2, C3, k3, e3, C4, k4, e4, C5, k5, e5, rfl, hV6⟩ hbW)
    have HW7 := Lib.hid (hW6.below hbW); have HV5 := Lib.hid (hV5.below hbW); have HO7 := Lib.hid (HO6.out.below hbW)
    have HB37 := Lib.hid (HB36.out.trans (hbW.mono HB36.out.size))
    generalize ((w6.alloc (.cells #[.string ⟨u.path.toArray⟩, .slice C1 k1 e1, .slice C2 k2 e2, .slice C3 k3 e3, .slice C4 k4 e4, .slice C5 k5 e5] 36)).alloc (.cells #[.int .i64 0, .int .i64 xk, .int .i64 xs, .string ⟨xlp.toArray⟩, .int .i64 xln] 40)) = w7 at *
    have q0 := (cell_blk HW7.out.bu 0).trans rfl; have q1 := (cell_blk HW7.out.bu 1).trans rfl; have q2 := (cell_blk HW7.out.bu 2).trans rfl; have q3 := (cell_blk HW7.out.bu 3).trans rfl; have q4 := (cell_blk HW7.out.bu 4).trans rfl; have q5 := (cell_blk HW7.out.bu 5).trans rfl
    have y0 := (cell_blk hg1 0).trans rfl; have y1 := (cell_blk hg1 1).trans rfl; have y2 := (cell_blk hg1 2).trans rfl; have y3 := (cell_blk hg1 3).trans rfl; have y4 := (cell_blk hg1 4).trans rfl; have y5 := (cell_blk hg1 5).trans rfl
    have y6 := (cell_blk hg2 0).trans rfl
    have hs67 := hbW.size
    clear hbW hg1 hg2 hV6 hW6 hV5 HO6
    go_wp2_with fail
    refine (sameU_any w7 _ _ u HV5.out HV7.out).mono ?_
    rintro e w8 ⟨rfl, hb8⟩
    have HW8 := Lib.hid (HW7.out.below hb8); have HV8 := Lib.hid (HV5.out.below hb8); have HO8 := Lib.hid (HO7.out.below hb8); have HB38 := Lib.hid (HB37.out.trans (hb8.mono HB37.out.size))
    have hs78 := hb8.size
    clear hb8 q0 q1 q2 q3 q4 q5 y0 y1 y2 y3 y4 y5 y6 HW7 HV5 HV7 HO7
    have p2 := (cell_blk HW8.out.bx 2).trans rfl
    have z0 := (cell_blk HW8.out.bf 0).trans rfl
    have hcn := contains_any A2 fl.length c2 w8 _ fl fg (HT2.out.below HW8.out.bl)
    obtain ⟨qc, hqc⟩ : ∃ qc, qc = fl.contains fg := ⟨_, rfl⟩
    rw [← hqc] at hcn
    have HCN := Lib.hid hcn; have HQC := Lib.hid hqc
    clear hcn hqc
    go_wp2_with fail
    refine HCN.out.mono ?_
    rintro e w9 ⟨rfl, rfl⟩
    clear HCN
    cases qc with
    | true =>
      go_wp2_with fail
      go_ret
      exact ⟨rfl, HW8.out.bl⟩
    | false =>
      by_cases hfe : fg = []
      · have hfb : (fg == []) = true := by rw [hfe]; rfl
        subst hfe
        go_wp2_with fail
        go_ret
        exact ⟨rfl, HW8.out.bl⟩
      · have hfb : (fg == []) = false := by rw [beq_eq_false_iff_ne]; exact hfe
        by_cases h100 : (100 : Int) < (fg.length : Int)
        · go_wp2_with fail
          go_ret
          exact ⟨rfl, HW8.out.bl⟩
        · by_cases h20 : (20 : Int) < (fl.length : Int)
          · go_wp2_with fail
            go_ret
            exact ⟨rfl, HW8.out.bl⟩
          · have hcf := conF_any A n c w8 (fun _ => True) t (HT.out.below HW8.out.bl) 31 #[.pointer (some ⟨w.heap.size + 1, 0, none⟩)] (fun _ _ => by kernel_rfl) (fun f => Lib.contains f.data fg) (fun f hf w1 hb1 => flags1_any w1 f fg (w.heap.size + 1) ((cell_blk (HW8.out.below hb1).bf 0).trans rfl) (HL.out.below (HW8.out.bl.trans (hb1.mono HW8.out.bl.size))) (HTO.out f hf).2)
            have hany : (t.any fun f => Lib.contains f.data fg) = false → ∀ f ∈ t, ¬ fg <:+: f.data := fun h f hf => by
              refine noOcc ?_
              rw [← Bool.not_eq_true, List.any_eq_true] at h
              rw [← Bool.not_eq_true]
              exact fun hc => h ⟨f, hf, hc⟩
            generalize (t.any fun f => Lib.contains f.data fg) = qa at *
            have HCF := Lib.hid hcf; have HANY := Lib.hid hany
            have p0 := (cell_blk HW8.out.bx 0).trans rfl
            clear hcf hany
            go_wp2_with fail
            refine HCF.out.mono ?_
            rintro e w9 ⟨rfl, hb9⟩
            have HW9 := Lib.hid (HW8.out.below hb9); have HV9 := Lib.hid (HV8.out.below hb9); have HO9 := Lib.hid (HO8.out.below hb9); have HB39 := Lib.hid (HB38.out.trans (hb9.mono HB38.out.size)); have HB3 := Lib.hid HW3.out.bl
            have hs89 := hb9.size
            clear hb9 p0 p2 z0 HW8 HV8 HO8 HCF hfb
            cases qa with
            | true =>
              go_wp2_with fail
              go_ret
              exact ⟨rfl, HW9.out.bl⟩
            | false =>
              have hfl2 := HFLAG.out (fun hm => by have := HQC.out; rw [List.contains_iff_mem.2 hm] at this; cases this) hfe (by omega) (HANY.out rfl)
              have HFL := Lib.hid hfl2
              clear hfl2 HFLAG HANY HQC
              go_upto_region 13 with fail
              have hs39 : w3.heap.size ≤ w9.heap.size := by omega
              have HS39 := Lib.hid hs39
              have hab : ∀ k, Ab.map Addr.block = some k → k < w9.heap.size := fun k hk => (HO9.out.lt k hk).2
              have HAB := Lib.hid hab
              have hb39 : Below w3.heap.size w3 w9 := HB39.out
              obtain ⟨XY, hXY⟩ : ∃ XY, XY = scanS t p (fl.reverse ++ [fg]) := ⟨_, rfl⟩
              have huny := unit_ne t p (fl.reverse ++ [fg])
              have hfl3 := HFL.out
              have hsc2 := fun W' A' c' (hb : Below w3.heap.size w3 W') (h : Sl W' (fun _ => True) A' (fl.length + 1) c' (fl.reverse ++ [fg])) => HSB.out W' A' c' (fl.reverse ++ [fg]) (HT.out.below (HB3.out.trans (hb.mono HB3.out.size))) (h.cast (by simp)) (HL.out.below (HB3.out.trans (hb.mono HB3.out.size))) (fun s hs => by
                rcases List.mem_append.1 hs with hs | hs
                · have := HFF.out s (List.mem_reverse.1 hs); omega
                · rw [List.mem_singleton.1 hs]; omega)
              rw [← hXY] at huny hfl3 hsc2
              obtain ⟨y, ⟨ye, yk, ys, ⟨ylp, yln⟩⟩⟩ := XY
              simp only at huny hfl3
              have hsc3 : ∀ W' A' c', Below w3.heap.size w3 W' → Sl W' (fun _ => True) A' (fl.length + 1) c' (fl.reverse ++ [fg]) → Calls Tryz.prog 13 #[.slice A n c, .string ⟨p.toArray⟩, .slice A' (fl.length + 1) c'] W' fun e w' => ∃ v, e = .returned (.tuple #[v, .agg #[.int .i64 ye, .int .i64 yk, .int .i64 ys, .string ⟨ylp.toArray⟩, .int .i64 yln]]) ∧ VUnt w' v y ∧ Below W'.heap.size W' w' := fun W' A' c' hb h => by
                have := hsc2 W' A' c' hb h
                rw [show (fl.reverse ++ [fg]).length = fl.length + 1 by simp] at this
                exact this
              have HSC2 := Lib.hid hsc3; have HUNY := Lib.hid (show UNE y from huny); have HFL3 := Lib.hid hfl3; have HXY := Lib.hid hXY
              have hlf : fl.length ≤ 20 := by omega
              clear hsc2 hsc3 huny hfl3 hXY HFL HSB hs34 hs35 hs56 hs67 hs78 hs89 hs39 hab
              go_cut [10, 11] from 69 to 80 (fun xa xb wx => ∃ gu gf D1 j1 f1 D2 j2 f2 D3 j3 f3 D4 j4 f4 D5 j5 f5, xa = .pointer (some ⟨gu, 0, none⟩) ∧ xb = .pointer (some ⟨gf, 0, none⟩) ∧ w3.heap.size ≤ gu ∧ wx.heap[gu]? = some (.cells #[.string ⟨y.path.toArray⟩, .slice D1 j1 f1, .slice D2 j2 f2, .slice D3 j3 f3, .slice D4 j4 f4, .slice D5 j5 f5] 36 (0, 0)) ∧ wx.heap[gf]? = some (.cells #[.int .i64 ye, .int .i64 yk, .int .i64 ys, .string ⟨ylp.toArray⟩, .int .i64 yln] 40 (0, 0)) ∧ Below w3.heap.size w3 wx ∧ U5 wx (fun k => k ≠ gu) D1 j1 f1 D2 j2 f2 D3 j3 f3 D4 j4 f4 D5 j5 f5 y)
              case first =>
                have HX := Lib.hid (fun (z : World) (hz : Below w3.heap.size w3 z) => And.intro ((cell_blk (HW3.out.below hz).bx 0).trans rfl) (And.intro ((cell_blk (HW3.out.below hz).bx 1).trans rfl) ((cell_blk (HW3.out.below hz).bf 0).trans rfl)))
                refine wpH_region (fun z => Below w3.heap.size w3 z) (by kernel_rfl) ?_
                have hS : Below w3.heap.size w3 w9.drew := hb39.drew
                have HO := Lib.hid (HO9.out.drew)
                have HZ : Hid (w9.heap.size ≤ w9.drew.heap.size) := Lib.hid (Nat.le_refl _)
                clear hb39 HO9 HW9 HV9
                generalize w9.drew = X0 at *
                (refine tkW 0 (v := ?_) hS ?_ ?_; rotate_left; (focus (intro x hx; have fx := HX.out x hx; go_simp; (try with_reducible rfl); done)); (try simp only [Act.put, lsa, lsz, lss]))
                (refine tkW 1 (v := ?_) hS ?_ ?_; rotate_left; (focus (intro x hx; have fx := HX.out x hx; go_simp; (try with_reducible rfl); done)); (try simp only [Act.put, lsa, lsz, lss]))
                (refine tkW 2 (v := ?_) hS ?_ ?_; rotate_left; (focus (intro x hx; have fx := HX.out x hx; go_simp; (try with_reducible rfl); done)); (try simp only [Act.put, lsa, lsz, lss]))
                (refine tkW 3 (v := ?_) hS ?_ ?_; rotate_left; (focus (intro x hx; have fx := HX.out x hx; go_simp; (try with_reducible rfl); done)); (try simp only [Act.put, lsa, lsz, lss]))
                (refine tkW 4 (v := ?_) hS ?_ ?_; rotate_left; (focus (intro x hx; have fx := HX.out x hx; go_simp; (try with_reducible rfl); done)); (try simp only [Act.put, lsa, lsz, lss]))
                (refine tkW 5 (v := ?_) hS ?_ ?_; rotate_left; (focus (intro x hx; have fx := HX.out x hx; go_simp; (try with_reducible rfl); done)); (try simp only [Act.put, lsa, lsz, lss]))
                refine leaf_cut (fun x W => Below w3.heap.size w3 W ∧ Hid (W.heap[x.gu]? = some (.cells #[.string ⟨#[]⟩, .slice none 0 0, .slice none 0 0, .slice none 0 0, .slice none 0 0, .slice none 0 0] 36)) ∧ Hid (W.heap[x.gf]? = some (.cells #[.int .i64 0, .int .i64 0, .int .i64 0, .string ⟨#[]⟩, .int .i64 0] 40)) ∧ Hid (w9.heap.size ≤ x.gu) ∧ Hid (w9.heap.size ≤ x.gf) ∧ Hid (VUnt W (.agg #[.string ⟨y.path.toArray⟩, .slice x.D1 x.j1 x.f1, .slice x.D2 x.j2 x.f2, .slice x.D3 x.j3 x.f3, .slice x.D4 x.j4 x.f4, .slice x.D5 x.j5 x.f5]) y)) (fun x => [(76, .slice (some ⟨x.b0, 0, none⟩) 1 1), (77, .slice x.A7 (fl.length + 1) x.c7), (78, .tuple #[.agg #[.string ⟨y.path.toArray⟩, .slice x.D1 x.j1 x.f1, .slice x.D2 x.j2 x.f2, .slice x.D3 x.j3 x.f3, .slice x.D4 x.j4 x.f4, .slice x.D5 x.j5 x.f5], .agg #[.int .i64 ye, .int .i64 yk, .int .i64 ys, .string ⟨ylp.toArray⟩, .int .i64 yln]]), (69, .tuple #[.agg #[.string ⟨y.path.toArray⟩, .slice x.D1 x.j1 x.f1, .slice x.D2 x.j2 x.f2, .slice x.D3 x.j3 x.f3, .slice x.D4 x.j4 x.f4, .slice x.D5 x.j5 x.f5], .agg #[.int .i64 ye, .int .i64 yk, .int .i64 ys, .string ⟨ylp.toArray⟩, .int .i64 yln]]), (79, .agg #[.string ⟨y.path.toArray⟩, .slice x.D1 x.j1 x.f1, .slice x.D2 x.j2 x.f2, .slice x.D3 x.j3 x.f3, .slice x.D4 x.j4 x.f4, .slice x.D5 x.j5 x.f5]), (80, .agg #[.int .i64 ye, .int .i64 yk, .int .i64 ys, .string ⟨ylp.toArray⟩, .int .i64 yln]), (10, .pointer (some ⟨x.gu, 0, none⟩)), (11, .pointer (some ⟨x.gf, 0, none⟩))]) #[true, true, true, true, true, true, true, true, true, true, true, true, true, true, false, false] ?leaf ?main
                case leaf =>
                  rintro ⟨b0, gu, gf, A7, c7, D1, j1, f1, D2, j2, f2, D3, j3, f3, D4, j4, f4, D5, j5, f5⟩ X9 l9 a9 ⟨hS, HU, HF, HUn, HFn, HD⟩ rfl rfl
                  simp only [setAll, List.foldl, List.setIfInBounds_toArray, List.set_cons_zero, List.set_cons_succ]
                  have hgu3 : w3.heap.size ≤ gu := Nat.le_trans HS39.out HUn.out; have hgf3 : w3.heap.size ≤ gf := Nat.le_trans HS39.out HFn.out
                  have hguf : gf ≠ gu := fun q => by have h1 := HF.out; rw [q] at h1; have h2 := h1.symm.trans HU.out; simp at h2
                  have HU5 := Lib.hid (HD.out.clean2 HU.out HF.out HUNY.out)
                  have u0 := (cell_blk HU.out 0).trans rfl; have zu0 := frz_blk HU.out 0; have u1 := (cell_blk HU.out 1).trans rfl; have zu1 := frz_blk HU.out 1; have u2 := (cell_blk HU.out 2).trans rfl; have zu2 := frz_blk HU.out 2; have u3 := (cell_blk HU.out 3).trans rfl; have zu3 := frz_blk HU.out 3; have u4 := (cell_blk HU.out 4).trans rfl; have zu4 := frz_blk HU.out 4; have u5 := (cell_blk HU.out 5).trans rfl; have zu5 := frz_blk HU.out 5
                  have hS14 := bel6 hS hgu3 (.string ⟨y.path.toArray⟩) (.slice D1 j1 f1) (.slice D2 j2 f2) (.slice D3 j3 f3) (.slice D4 j4 f4) (.slice D5 j5 f5)
                  have hu14 := Blk.set6 _ HU.out (.string ⟨y.path.toArray⟩) (.slice D1 j1 f1) (.slice D2 j2 f2) (.slice D3 j3 f3) (.slice D4 j4 f4) (.slice D5 j5 f5)
                  have hf14 := (set6_other X9 (.string ⟨y.path.toArray⟩) (.slice D1 j1 f1) (.slice D2 j2 f2) (.slice D3 j3 f3) (.slice D4 j4 f4) (.slice D5 j5 f5) gf hguf).trans HF.out
                  (refine wpAnyH_one 14 (by kernel_rfl) rfl ?_; intro K' hK'; go_simp; refine hK'.out _ _ hS14 ?_; clear hK' K')
                  clear u0 u1 u2 u3 u4 u5 zu0 zu1 zu2 zu3 zu4 zu5
                  have hS15 := bel5 hS14 hgf3 (.int .i64 ye) (.int .i64 yk) (.int .i64 ys) (.string ⟨ylp.toArray⟩) (.int .i64 yln)
                  have hu15 := (set5_other _ 0 1 2 3 4 (.int .i64 ye) (.int .i64 yk) (.int .i64 ys) (.string ⟨ylp.toArray⟩) (.int .i64 yln) gu (Ne.symm hguf)).trans hu14
                  have hf15 := set5' _ hf14 0 1 2 3 4 (.int .i64 ye) (.int .i64 yk) (.int .i64 ys) (.string ⟨ylp.toArray⟩) (.int .i64 yln)
                  have hU15 := HU5.out.keep (fun k h1 h2 => (set5_other _ 0 1 2 3 4 (.int .i64 ye) (.int .i64 yk) (.int .i64 ys) (.string ⟨ylp.toArray⟩) (.int .i64 yln) k h2).trans (set6_other X9 (.string ⟨y.path.toArray⟩) (.slice D1 j1 f1) (.slice D2 j2 f2) (.slice D3 j3 f3) (.slice D4 j4 f4) (.slice D5 j5 f5) k h1))
                  generalize ((((((X9.setCell ⟨gu, 0, none⟩ (.string ⟨y.path.toArray⟩)).setCell ⟨gu, 1, none⟩ (.slice D1 j1 f1)).setCell ⟨gu, 2, none⟩ (.slice D2 j2 f2)).setCell ⟨gu, 3, none⟩ (.slice D3 j3 f3)).setCell ⟨gu, 4, none⟩ (.slice D4 j4 f4)).setCell ⟨gu, 5, none⟩ (.slice D5 j5 f5)) = Y14 at *
                  clear hS
                  have hS := hS14
                  have u0 := (cell_blk hf14 0).trans rfl; have zu0 := frz_blk hf14 0; have u1 := (cell_blk hf14 1).trans rfl; have zu1 := frz_blk hf14 1; have u2 := (cell_blk hf14 2).trans rfl; have zu2 := frz_blk hf14 2; have u3 := (cell_blk hf14 3).trans rfl; have zu3 := frz_blk hf14 3; have u4 := (cell_blk hf14 4).trans rfl; have zu4 := frz_blk hf14 4
                  (refine wpAnyH_one 15 (by kernel_rfl) rfl ?_; intro K' hK'; go_simp; refine hK'.out _ _ hS15 ?_; clear hK' K')
                  clear u0 u1 u2 u3 u4 zu0 zu1 zu2 zu3 zu4
                  refine wpAnyH_done (by kernel_rfl) ?_ _
                  go_wp2_with fail
                  go_meet
                  exact ⟨gu, gf, D1, j1, f1, D2, j2, f2, D3, j3, f3, D4, j4, f4, D5, j5, f5, rfl, rfl, hgu3, hu15, hf15, hS15, hU15⟩
                case main =>
                  intro LEAF
                  refine wpAnyH_three 6 12 13 (by kernel_rfl) rfl rfl rfl ?n1_6 ?n1_12 ?n1_13
                  case n1_6 =>
                    intro K' hK'
                    go_simp
                    have hbA : Below X0.heap.size X0 (X0.alloc (.cells #[.string ⟨fg.toArray⟩] 9)) := boxed
                    have hnew := blkAt X0 (.cells #[.string ⟨fg.toArray⟩] 9) rfl
                    have hSn := hS.trans (hbA.mono hS.size)
                    have hzn := Lib.hid (Nat.le_trans HZ.out hbA.size)
                    refine hK'.out _ _ hSn ?_
                    clear hK' K'
                    replace HO := Lib.hid (HO.out.below hbA)
                    have HB0n := HZ
                    have HB0 := Lib.hid hnew
                    clear hS HZ hbA hnew
                    have hS := hSn; have HZ := hzn
                    clear hSn hzn
                    generalize X0.alloc (.cells #[.string ⟨fg.toArray⟩] 9) = X2 at *
                    generalize X0.heap.size = b0 at *
                    refine wpAnyH_three 7 12 13 (by kernel_rfl) rfl rfl rfl ?n3_7 ?n3_12 ?n3_13
                    case n3_7 =>
                      intro K' hK'
                      refine step_app1 (T := fun _ => False) (base := w3.heap.size) (xs := fl.reverse) rfl _ _ eltStr rfl (by decide) rfl rfl (by simp) HO.out rfl [.string ⟨fg.toArray⟩] fg HB0.out rfl rfl (by rw [List.length_reverse]; omega) (by rw [List.length_reverse]; omega) hS.size ?_
                      intro A7 c7 X4 hown hg hat
                      have hSn := hS.grown hg hS.size (fun k hk => (HO.out.lt k hk).1)
                      have hzn := Lib.hid (Nat.le_trans HZ.out hg.size)
                      have HC := Lib.hid ((hown.sl (by decide)).any.cast (n' := fl.length + 1) (by simp))
                      refine hK'.out _ _ hSn ?_
                      clear hK' K'
                      clear hS HZ hown hg hat HO HB0 HB0n
                      have hS := hSn; have HZ := hzn
                      clear hSn hzn
                      refine wpAnyH_three 8 12 13 (by kernel_rfl) rfl rfl rfl ?n5_8 ?n5_12 ?n5_13
                      case n5_8 =>
                        intro K' hK'
                        go_simp
                        refine (HSC2.out _ _ _ hS HC.out).mono ?_
                        rintro e X6 ⟨VV, rfl, hVV, hbC⟩
                        obtain ⟨D1, j1, f1, D2, j2, f2, D3, j3, f3, D4, j4, f4, D5, j5, f5, rfl, hVV⟩ := hVV
                        have HD : Hid (VUnt X6 (.agg #[.string ⟨y.path.toArray⟩, .slice D1 j1 f1, .slice D2 j2 f2, .slice D3 j3 f3, .slice D4 j4 f4, .slice D5 j5 f5]) y) := Lib.hid ⟨D1, j1, f1, D2, j2, f2, D3, j3, f3, D4, j4, f4, D5, j5, f5, rfl, hVV⟩
                        have hSn := hS.trans (hbC.mono hS.size)
                        have hzn := Lib.hid (Nat.le_trans HZ.out hbC.size)
                        refine hK'.out _ _ hSn ?_
                        clear hK' K'
                        clear hS HZ hbC hVV HC
                        have hS := hSn; have HZ := hzn
                        clear hSn hzn
                        (refine tkW 9 (v := ?_) hS ?_ ?_; rotate_left; (focus (intro x hx; have fx := HX.out x hx; go_simp; (try with_reducible rfl); done)); (try simp only [Act.put, lsa, lsz, lss]))
                        (refine tkW 10 (v := ?_) hS ?_ ?_; rotate_left; (focus (intro x hx; have fx := HX.out x hx; go_simp; (try with_reducible rfl); done)); (try simp only [Act.put, lsa, lsz, lss]))
                        (refine tkW 11 (v := ?_) hS ?_ ?_; rotate_left; (focus (intro x hx; have fx := HX.out x hx; go_simp; (try with_reducible rfl); done)); (try simp only [Act.put, lsa, lsz, lss]))
                        refine wpAnyH_two 12 13 (by kernel_rfl) rfl rfl ?n7_12 ?n7_13
                        case n7_12 =>
                          intro K' hK'
                          go_simp
                          have hbA : Below X6.heap.size X6 (X6.alloc (.cells #[.string ⟨#[]⟩, .slice none 0 0, .slice none 0 0, .slice none 0 0, .slice none 0 0, .slice none 0 0] 36)) := boxed
                          have hnew := blkAt X6 (.cells #[.string ⟨#[]⟩, .slice none 0 0, .slice none 0 0, .slice none 0 0, .slice none 0 0, .slice none 0 0] 36) rfl
                          have hSn := hS.trans (hbA.mono hS.size)
                          have hzn := Lib.hid (Nat.le_trans HZ.out hbA.size)
                          refine hK'.out _ _ hSn ?_
                          clear hK' K'
                          replace HD := Lib.hid (HD.out.below hbA)
                          have HUn := HZ
                          have HU := Lib.hid hnew
                          clear hS HZ hbA hnew
                          have hS := hSn; have HZ := hzn
                          clear hSn hzn
                          generalize X6.alloc (.cells #[.string ⟨#[]⟩, .slice none 0 0, .slice none 0 0, .slice none 0 0, .slice none 0 0, .slice none 0 0] 36) = X8 at *
                          generalize X6.heap.size = gu at *
                          refine wpAnyH_one 13 (by kernel_rfl) rfl ?_
                          intro K' hK'
                          go_simp
                          have hbA : Below X8.heap.size X8 (X8.alloc (.cells #[.int .i64 0, .int .i64 0, .int .i64 0, .string ⟨#[]⟩, .int .i64 0] 40)) := boxed
                          have hnew := blkAt X8 (.cells #[.int .i64 0, .int .i64 0, .int .i64 0, .string ⟨#[]⟩, .int .i64 0] 40) rfl
                          have hSn := hS.trans (hbA.mono hS.size)
                          have hzn := Lib.hid (Nat.le_trans HZ.out hbA.size)
                          refine hK'.out _ _ hSn ?_
                          clear hK' K'
                          replace HU := Lib.hid (keptBlk hbA HU.out)
                          replace HD := Lib.hid (HD.out.below hbA)
                          have HFn := HZ
                          have HF := Lib.hid hnew
                          clear hS HZ hbA hnew
                          have hS := hSn; have HZ := hzn
                          clear hSn hzn
                          generalize X8.alloc (.cells #[.int .i64 0, .int .i64 0, .int .i64 0, .string ⟨#[]⟩, .int .i64 0] 40) = X9 at *
                          generalize X8.heap.size = gf at *
                          exact LEAF ⟨b0, gu, gf, A7, c7, D1, j1, f1, D2, j2, f2, D3, j3, f3, D4, j4, f4, D5, j5, f5⟩ X9 _ _ ⟨hS, HU, HF, HUn, HFn, HD⟩ (by kernel_rfl) (by simp only [setAll, List.foldl, List.setIfInBounds_toArray, List.set_cons_zero, List.set_cons_succ])
                        case n7_13 =>
                          intro K' hK'
                          go_simp
                          have hbA : Below X6.heap.size X6 (X6.alloc (.cells #[.int .i64 0, .int .i64 0, .int .i64 0, .string ⟨#[]⟩, .int .i64 0] 40)) := boxed
                          have hnew := blkAt X6 (.cells #[.int .i64 0, .int .i64 0, .int .i64 0, .string ⟨#[]⟩, .int .i64 0] 40) rfl
                          have hSn := hS.trans (hbA.mono hS.size)
                          have hzn := Lib.hid (Nat.le_trans HZ.out hbA.size)
                          refine hK'.out _ _ hSn ?_
                          clear hK' K'
                          replace HD := Lib.hid (HD.out.below hbA)
                          have HFn := HZ
                          have HF := Lib.hid hnew
                          clear hS HZ hbA hnew
                          have hS := hSn; have HZ := hzn
                          clear hSn hzn
                          generalize X6.alloc (.cells #[.int .i64 0, .int .i64 0, .int .i64 0, .string ⟨#[]⟩, .int .i64 0] 40) = X10 at *
                          generalize X6.heap.size = gf at *
                          refine wpAnyH_one 12 (by kernel_rfl) rfl ?_
                          intro K' hK'
                          go_simp
                          have hbA : Below X10.heap.size X10 (X10.alloc (.cells #[.string ⟨#[]⟩, .slice none 0 0, .slice none 0 0, .slice none 0 0, .slice none 0 0, .slice none 0 0] 36)) := boxed
                          have hnew := blkAt X10 (.cells #[.string ⟨#[]⟩, .slice none 0 0, .slice none 0 0, .slice none 0 0, .slice none 0 0, .slice none 0 0] 36) rfl
                          have hSn := hS.trans (hbA.mono hS.size)
                          have hzn := Lib.hid (Nat.le_trans HZ.out hbA.size)
                          refine hK'.out _ _ hSn ?_
                          clear hK' K'
                          replace HF := Lib.hid (keptBlk hbA HF.out)
                          replace HD := Lib.hid (HD.out.below hbA)
                          have HUn := HZ
                          have HU := Lib.hid hnew
                          clear hS HZ hbA hnew
                          have hS := hSn; have HZ := hzn
                          clear hSn hzn
                          generalize X10.alloc (.cells #[.string ⟨#[]⟩, .slice none 0 0, .slice none 0 0, .slice none 0 0, .slice none 0 0, .slice none 0 0] 36) = X11 at *
                          generalize X10.heap.size = gu at *
                          exact LEAF ⟨b0, gu, gf, A7, c7, D1, j1, f1, D2, j2, f2, D3, j3, f3, D4, j4, f4, D5, j5, f5⟩ X11 _ _ ⟨hS, HU, HF, HUn, HFn, HD⟩ (by kernel_rfl) (by simp only [setAll, List.foldl, List.setIfInBounds_toArray, List.set_cons_zero, List.set_cons_succ])
                      case n5_12 =>
                        intro K' hK'
                        go_simp
                        have hbA : Below X4.heap.size X4 (X4.alloc (.cells #[.string ⟨#[]⟩, .slice none 0 0, .slice none 0 0, .slice none 0 0, .slice none 0 0, .slice none 0 0] 36)) := boxed
                        have hnew := blkAt X4 (.cells #[.string ⟨#[]⟩, .slice none 0 0, .slice none 0 0, .slice none 0 0, .slice none 0 0, .slice none 0 0] 36) rfl
                        have hSn := hS.trans (hbA.mono hS.size)
                        have hzn := Lib.hid (Nat.le_trans HZ.out hbA.size)
                        refine hK'.out _ _ hSn ?_
                        clear hK' K'
                        replace HC := Lib.hid (HC.out.below hbA)
                        have HUn := HZ
                        have HU := Lib.hid hnew
                        clear hS HZ hbA hnew
                        have hS := hSn; have HZ := hzn
                        clear hSn hzn
                        generalize X4.alloc (.cells #[.string ⟨#[]⟩, .slice none 0 0, .slice none 0 0, .slice none 0 0, .slice none 0 0, .slice none 0 0] 36) = X12 at *
                        generalize X4.heap.size = gu at *
                        refine wpAnyH_two 8 13 (by kernel_rfl) rfl rfl ?n13_8 ?n13_13
                        case n13_8 =>
                          intro K' hK'
                          go_simp
                          refine (HSC2.out _ _ _ hS HC.out).mono ?_
                          rintro e X14 ⟨VV, rfl, hVV, hbC⟩
                          obtain ⟨D1, j1, f1, D2, j2, f2, D3, j3, f3, D4, j4, f4, D5, j5, f5, rfl, hVV⟩ := hVV
                          have HD : Hid (VUnt X14 (.agg #[.string ⟨y.path.toArray⟩, .slice D1 j1 f1, .slice D2 j2 f2, .slice D3 j3 f3, .slice D4 j4 f4, .slice D5 j5 f5]) y) := Lib.hid ⟨D1, j1, f1, D2, j2, f2, D3, j3, f3, D4, j4, f4, D5, j5, f5, rfl, hVV⟩
                          have hSn := hS.trans (hbC.mono hS.size)
                          have hzn := Lib.hid (Nat.le_trans HZ.out hbC.size)
                          refine hK'.out _ _ hSn ?_
                          clear hK' K'
                          replace HU := Lib.hid (keptBlk hbC HU.out)
                          clear hS HZ hbC hVV HC
                          have hS := hSn; have HZ := hzn
                          clear hSn hzn
                          (refine tkW 9 (v := ?_) hS ?_ ?_; rotate_left; (focus (intro x hx; have fx := HX.out x hx; go_simp; (try with_reducible rfl); done)); (try simp only [Act.put, lsa, lsz, lss]))
                          (refine tkW 10 (v := ?_) hS ?_ ?_; rotate_left; (focus (intro x hx; have fx := HX.out x hx; go_simp; (try with_reducible rfl); done)); (try simp only [Act.put, lsa, lsz, lss]))
                          (refine tkW 11 (v := ?_) hS ?_ ?_; rotate_left; (focus (intro x hx; have fx := HX.out x hx; go_simp; (try with_reducible rfl); done)); (try simp only [Act.put, lsa, lsz, lss]))
                          refine wpAnyH_one 13 (by kernel_rfl) rfl ?_
                          intro K' hK'
                          go_simp
                          have hbA : Below X14.heap.size X14 (X14.alloc (.cells #[.int .i64 0, .int .i64 0, .int .i64 0, .string ⟨#[]⟩, .int .i64 0] 40)) := boxed
                          have hnew := blkAt X14 (.cells #[.int .i64 0, .int .i64 0, .int .i64 0, .string ⟨#[]⟩, .int .i64 0] 40) rfl
                          have hSn := hS.trans (hbA.mono hS.size)
                          have hzn := Lib.hid (Nat.le_trans HZ.out hbA.size)
                          refine hK'.out _ _ hSn ?_
                          clear hK' K'
                          replace HU := Lib.hid (keptBlk hbA HU.out)
                          replace HD := Lib.hid (HD.out.below hbA)
                          have HFn := HZ
                          have HF := Lib.hid hnew
                          clear hS HZ hbA hnew
                          have hS := hSn; have HZ := hzn
                          clear hSn hzn
                          generalize X14.alloc (.cells #[.int .i64 0, .int .i64 0, .int .i64 0, .string ⟨#[]⟩, .int .i64 0] 40) = X15 at *
                          generalize X14.heap.size = gf at *
                          exact LEAF ⟨b0, gu, gf, A7, c7, D1, j1, f1, D2, j2, f2, D3, j3, f3, D4, j4, f4, D5, j5, f5⟩ X15 _ _ ⟨hS, HU, HF, HUn, HFn, HD⟩ (by kernel_rfl) (by simp only [setAll, List.foldl, List.setIfInBounds_toArray, List.set_cons_zero, List.set_cons_succ])
                        case n13_13 =>
                          intro K' hK'
                          go_simp
                          have hbA : Below X12.heap.size X12 (X12.alloc (.cells #[.int .i64 0, .int .i64 0, .int .i64 0, .string ⟨#[]⟩, .int .i64 0] 40)) := boxed
                          have hnew := blkAt X12 (.cells #[.int .i64 0, .int .i64 0, .int .i64 0, .string ⟨#[]⟩, .int .i64 0] 40) rfl
                          have hSn := hS.trans (hbA.mono hS.size)
                          have hzn := Lib.hid (Nat.le_trans HZ.out hbA.size)
                          refine hK'.out _ _ hSn ?_
                          clear hK' K'
                          replace HU := Lib.hid (keptBlk hbA HU.out)
                          replace HC := Lib.hid (HC.out.below hbA)
                          have HFn := HZ
                          have HF := Lib.hid hnew
                          clear hS HZ hbA hnew
                          have hS := hSn; have HZ := hzn
                          clear hSn hzn
                          generalize X12.alloc (.cells #[.int .i64 0, .int .i64 0, .int .i64 0, .string ⟨#[]⟩, .int .i64 0] 40) = X16 at *
                          generalize X12.heap.size = gf at *
                          refine wpAnyH_one 8 (by kernel_rfl) rfl ?_
                          intro K' hK'
                          go_simp
                          refine (HSC2.out _ _ _ hS HC.out).mono ?_
                          rintro e X17 ⟨VV, rfl, hVV, hbC⟩
                          obtain ⟨D1, j1, f1, D2, j2, f2, D3, j3, f3, D4, j4, f4, D5, j5, f5, rfl, hVV⟩ := hVV
                          have HD : Hid (VUnt X17 (.agg #[.string ⟨y.path.toArray⟩, .slice D1 j1 f1, .slice D2 j2 f2, .slice D3 j3 f3, .slice D4 j4 f4, .slice D5 j5 f5]) y) := Lib.hid ⟨D1, j1, f1, D2, j2, f2, D3, j3, f3, D4, j4, f4, D5, j5, f5, rfl, hVV⟩
                          have hSn := hS.trans (hbC.mono hS.size)
                          have hzn := Lib.hid (Nat.le_trans HZ.out hbC.size)
                          refine hK'.out _ _ hSn ?_
                          clear hK' K'
                          replace HU := Lib.hid (keptBlk hbC HU.out)
                          replace HF := Lib.hid (keptBlk hbC HF.out)
                          clear hS HZ hbC hVV HC
                          have hS := hSn; have HZ := hzn
                          clear hSn hzn
                          (refine tkW 9 (v := ?_) hS ?_ ?_; rotate_left; (focus (intro x hx; have fx := HX.out x hx; go_simp; (try with_reducible rfl); done)); (try simp only [Act.put, lsa, lsz, lss]))
                          (refine tkW 10 (v := ?_) hS ?_ ?_; rotate_left; (focus (intro x hx; have fx := HX.out x hx; go_simp; (try with_reducible rfl); done)); (try simp only [Act.put, lsa, lsz, lss]))
                          (refine tkW 11 (v := ?_) hS ?_ ?_; rotate_left; (focus (intro x hx; have fx := HX.out x hx; go_simp; (try with_reducible rfl); done)); (try simp only [Act.put, lsa, lsz, lss]))
                          exact LEAF ⟨b0, gu, gf, A7, c7, D1, j1, f1, D2, j2, f2, D3, j3, f3, D4, j4, f4, D5, j5, f5⟩ X17 _ _ ⟨hS, HU, HF, HUn, HFn, HD⟩ (by kernel_rfl) (by simp only [setAll, List.foldl, List.setIfInBounds_toArray, List.set_cons_zero, List.set_cons_succ])
                      case n5_13 =>
                        intro K' hK'
                        go_simp
                        have hbA : Below X4.heap.size X4 (X4.alloc (.cells #[.int .i64 0, .int .i64 0, .int .i64 0, .string ⟨#[]⟩, .int .i64 0] 40)) := boxed
                        have hnew := blkAt X4 (.cells #[.int .i64 0, .int .i64 0, .int .i64 0, .string ⟨#[]⟩, .int .i64 0] 40) rfl
                        have hSn := hS.trans (hbA.mono hS.size)
                        have hzn := Lib.hid (Nat.le_trans HZ.out hbA.size)
                        refine hK'.out _ _ hSn ?_
                        clear hK' K'
                        replace HC := Lib.hid (HC.out.below hbA)
                        have HFn := HZ
                        have HF := Lib.hid hnew
                        clear hS HZ hbA hnew
                        have hS := hSn; have HZ := hzn
                        clear hSn hzn
                        generalize X4.alloc (.cells #[.int .i64 0, .int .i64 0, .int .i64 0, .string ⟨#[]⟩, .int .i64 0] 40) = X18 at *
                        generalize X4.heap.size = gf at *
                        refine wpAnyH_two 8 12 (by kernel_rfl) rfl rfl ?n19_8 ?n19_12
                        case n19_8 =>
                          intro K' hK'
                          go_simp
                          refine (HSC2.out _ _ _ hS HC.out).mono ?_
                          rintro e X20 ⟨VV, rfl, hVV, hbC⟩
                          obtain ⟨D1, j1, f1, D2, j2, f2, D3, j3, f3, D4, j4, f4, D5, j5, f5, rfl, hVV⟩ := hVV
                          have HD : Hid (VUnt X20 (.agg #[.string ⟨y.path.toArray⟩, .slice D1 j1 f1, .slice D2 j2 f2, .slice D3 j3 f3, .slice D4 j4 f4, .slice D5 j5 f5]) y) := Lib.hid ⟨D1, j1, f1, D2, j2, f2, D3, j3, f3, D4, j4, f4, D5, j5, f5, rfl, hVV⟩
                          have hSn := hS.trans (hbC.mono hS.size)
                          have hzn := Lib.hid (Nat.le_trans HZ.out hbC.size)
                          refine hK'.out _ _ hSn ?_
                          clear hK' K'
                          replace HF := Lib.hid (keptBlk hbC HF.out)
                          clear hS HZ hbC hVV HC
                          have hS := hSn; have HZ := hzn
                          clear hSn hzn
                          (refine tkW 9 (v := ?_) hS ?_ ?_; rotate_left; (focus (intro x hx; have fx := HX.out x hx; go_simp; (try with_reducible rfl); done)); (try simp only [Act.put, lsa, lsz, lss]))
                          (refine tkW 10 (v := ?_) hS ?_ ?_; rotate_left; (focus (intro x hx; have fx := HX.out x hx; go_simp; (try with_reducible rfl); done)); (try simp only [Act.put, lsa, lsz, lss]))
                          (refine tkW 11 (v := ?_) hS ?_ ?_; rotate_left; (focus (intro x hx; have fx := HX.out x hx; go_simp; (try with_reducible rfl); done)); (try simp only [Act.put, lsa, lsz, lss]))
                          refine wpAnyH_one 12 (by kernel_rfl) rfl ?_
                          intro K' hK'
                          go_simp
                          have hbA : Below X20.heap.size X20 (X20.alloc (.cells #[.string ⟨#[]⟩, .slice none 0 0, .slice none 0 0, .slice none 0 0, .slice none 0 0, .slice none 0 0] 36)) := boxed
                          have hnew := blkAt X20 (.cells #[.string ⟨#[]⟩, .slice none 0 0, .slice none 0 0, .slice none 0 0, .slice none 0 0, .slice none 0 0] 36) rfl
                          have hSn := hS.trans (hbA.mono hS.size)
                          have hzn := Lib.hid (Nat.le_trans HZ.out hbA.size)
                          refine hK'.out _ _ hSn ?_
                          clear hK' K'
                          replace HF := Lib.hid (keptBlk hbA HF.out)
                          replace HD := Lib.hid (HD.out.below hbA)
                          have HUn := HZ
                          have HU := Lib.hid hnew
                          clear hS HZ hbA hnew
                          have hS := hSn; have HZ := hzn
                          clear hSn hzn
                          generalize X20.alloc (.cells #[.string ⟨#[]⟩, .slice none 0 0, .slice none 0 0, .slice none 0 0, .slice none 0 0, .slice none 0 0] 36) = X21 at *
                          generalize X20.heap.size = gu at *
                          exact LEAF ⟨b0, gu, gf, A7, c7, D1, j1, f1, D2, j2, f2, D3, j3, f3, D4, j4, f4, D5, j5, f5⟩ X21 _ _ ⟨hS, HU, HF, HUn, HFn, HD⟩ (by kernel_rfl) (by simp only [setAll, List.foldl, List.setIfInBounds_toArray, List.set_cons_zero, List.set_cons_succ])
                        case n19_12 =>
                          intro K' hK'
                          go_simp
                          have hbA : Below X18.heap.size X18 (X18.alloc (.cells #[.string ⟨#[]⟩, .slice none 0 0, .slice none 0 0, .slice none 0 0, .slice none 0 0, .slice none 0 0] 36)) := boxed
                          have hnew := blkAt X18 (.cells #[.string ⟨#[]⟩, .slice none 0 0, .slice none 0 0, .slice none 0 0, .slice none 0 0, .slice none 0 0] 36) rfl
                          have hSn := hS.trans (hbA.mono hS.size)
                          have hzn := Lib.hid (Nat.le_trans HZ.out hbA.size)
                          refine hK'.out _ _ hSn ?_
                          clear hK' K'
                          replace HF := Lib.hid (keptBlk hbA HF.out)
                          replace HC := Lib.hid (HC.out.below hbA)
                          have HUn := HZ
                          have HU := Lib.hid hnew
                          clear hS HZ hbA hnew
                          have hS := hSn; have HZ := hzn
                          clear hSn hzn
                          generalize X18.alloc (.cells #[.string ⟨#[]⟩, .slice none 0 0, .slice none 0 0, .slice none 0 0, .slice none 0 0, .slice none 0 0] 36) = X22 at *
                          generalize X18.heap.size = gu at *
                          refine wpAnyH_one 8 (by kernel_rfl) rfl ?_
                          intro K' hK'
                          go_simp
                          refine (HSC2.out _ _ _ hS HC.out).mono ?_
                          rintro e X23 ⟨VV, rfl, hVV, hbC⟩
                          obtain ⟨D1, j1, f1, D2, j2, f2, D3, j3, f3, D4, j4, f4, D5, j5, f5, rfl, hVV⟩ := hVV
                          have HD : Hid (VUnt X23 (.agg #[.string ⟨y.path.toArray⟩, .slice D1 j1 f1, .slice D2 j2 f2, .slice D3 j3 f3, .slice D4 j4 f4, .slice D5 j5 f5]) y) := Lib.hid ⟨D1, j1, f1, D2, j2, f2, D3, j3, f3, D4, j4, f4, D5, j5, f5, rfl, hVV⟩
                          have hSn := hS.trans (hbC.mono hS.size)
                          have hzn := Lib.hid (Nat.le_trans HZ.out hbC.size)
                          refine hK'.out _ _ hSn ?_
                          clear hK' K'
                          replace HU := Lib.hid (keptBlk hbC HU.out)
                          replace HF := Lib.hid (keptBlk hbC HF.out)
                          clear hS HZ hbC hVV HC
                          have hS := hSn; have HZ := hzn
                          clear hSn hzn
                          (refine tkW 9 (v := ?_) hS ?_ ?_; rotate_left; (focus (intro x hx; have fx := HX.out x hx; go_simp; (try with_reducible rfl); done)); (try simp only [Act.put, lsa, lsz, lss]))
                          (refine tkW 10 (v := ?_) hS ?_ ?_; rotate_left; (focus (intro x hx; have fx := HX.out x hx; go_simp; (try with_reducible rfl); done)); (try simp only [Act.put, lsa, lsz, lss]))
                          (refine tkW 11 (v := ?_) hS ?_ ?_; rotate_left; (focus (intro x hx; have fx := HX.out x hx; go_simp; (try with_reducible rfl); done)); (try simp only [Act.put, lsa, lsz, lss]))
                          exact LEAF ⟨b0, gu, gf, A7, c7, D1, j1, f1, D2, j2, f2, D3, j3, f3, D4, j4, f4, D5, j5, f5⟩ X23 _ _ ⟨hS, HU, HF, HUn, HFn, HD⟩ (by kernel_rfl) (by simp only [setAll, List.foldl, List.setIfInBounds_toArray, List.set_cons_zero, List.set_cons_succ])
                    case n3_12 =>
                      intro K' hK'
                      go_simp
                      have hbA : Below X2.heap.size X2 (X2.alloc (.cells #[.string ⟨#[]⟩, .slice none 0 0, .slice none 0 0, .slice none 0 0, .slice none 0 0, .slice none 0 0] 36)) := boxed
                      have hnew := blkAt X2 (.cells #[.string ⟨#[]⟩, .slice none 0 0, .slice none 0 0, .slice none 0 0, .slice none 0 0, .slice none 0 0] 36) rfl
                      have hSn := hS.trans (hbA.mono hS.size)
                      have hzn := Lib.hid (Nat.le_trans HZ.out hbA.size)
                      refine hK'.out _ _ hSn ?_
                      clear hK' K'
                      replace HO := Lib.hid (HO.out.below hbA)
                      replace HB0 := Lib.hid (keptBlk hbA HB0.out)
                      have HUn := HZ
                      have HU := Lib.hid hnew
                      clear hS HZ hbA hnew
                      have hS := hSn; have HZ := hzn
                      clear hSn hzn
                      generalize X2.alloc (.cells #[.string ⟨#[]⟩, .slice none 0 0, .slice none 0 0, .slice none 0 0, .slice none 0 0, .slice none 0 0] 36) = X24 at *
                      generalize X2.heap.size = gu at *
                      refine wpAnyH_two 7 13 (by kernel_rfl) rfl rfl ?n25_7 ?n25_13
                      case n25_7 =>
                        intro K' hK'
                        refine step_app1 (T := fun _ => False) (base := w3.heap.size) (xs := fl.reverse) rfl _ _ eltStr rfl (by decide) rfl rfl (by simp) HO.out rfl [.string ⟨fg.toArray⟩] fg HB0.out rfl rfl (by rw [List.length_reverse]; omega) (by rw [List.length_reverse]; omega) hS.size ?_
                        intro A7 c7 X26 hown hg hat
                        have hSn := hS.grown hg hS.size (fun k hk => (HO.out.lt k hk).1)
                        have hzn := Lib.hid (Nat.le_trans HZ.out hg.size)
                        have HC := Lib.hid ((hown.sl (by decide)).any.cast (n' := fl.length + 1) (by simp))
                        refine hK'.out _ _ hSn ?_
                        clear hK' K'
                        replace HU := Lib.hid (grownBlk hg HU.out (fun q => by have := HAB.out _ q; have := HUn.out; omega))
                        clear hS HZ hown hg hat HO HB0 HB0n
                        have hS := hSn; have HZ := hzn
                        clear hSn hzn
                        refine wpAnyH_two 8 13 (by kernel_rfl) rfl rfl ?n27_8 ?n27_13
                        case n27_8 =>
                          intro K' hK'
                          go_simp
                          refine (HSC2.out _ _ _ hS HC.out).mono ?_
                          rintro e X28 ⟨VV, rfl, hVV, hbC⟩
                          obtain ⟨D1, j1, f1, D2, j2, f2, D3, j3, f3, D4, j4, f4, D5, j5, f5, rfl, hVV⟩ := hVV
                          have HD : Hid (VUnt X28 (.agg #[.string ⟨y.path.toArray⟩, .slice D1 j1 f1, .slice D2 j2 f2, .slice D3 j3 f3, .slice D4 j4 f4, .slice D5 j5 f5]) y) := Lib.hid ⟨D1, j1, f1, D2, j2, f2, D3, j3, f3, D4, j4, f4, D5, j5, f5, rfl, hVV⟩
                          have hSn := hS.trans (hbC.mono hS.size)
                          have hzn := Lib.hid (Nat.le_trans HZ.out hbC.size)
                          refine hK'.out _ _ hSn ?_
                          clear hK' K'
                          replace HU := Lib.hid (keptBlk hbC HU.out)
                          clear hS HZ hbC hVV HC
                          have hS := hSn; have HZ := hzn
                          clear hSn hzn
                          (refine tkW 9 (v := ?_) hS ?_ ?_; rotate_left; (focus (intro x hx; have fx := HX.out x hx; go_simp; (try with_reducible rfl); done)); (try simp only [Act.put, lsa, lsz, lss]))
                          (refine tkW 10 (v := ?_) hS ?_ ?_; rotate_left; (focus (intro x hx; have fx := HX.out x hx; go_simp; (try with_reducible rfl); done)); (try simp only [Act.put, lsa, lsz, lss]))
                          (refine tkW 11 (v := ?_) hS ?_ ?_; rotate_left; (focus (intro x hx; have fx := HX.out x hx; go_simp; (try with_reducible rfl); done)); (try simp only [Act.put, lsa, lsz, lss]))
                          refine wpAnyH_one 13 (by kernel_rfl) rfl ?_
                          intro K' hK'
                          go_simp
                          have hbA : Below X28.heap.size X28 (X28.alloc (.cells #[.int .i64 0, .int .i64 0, .int .i64 0, .string ⟨#[]⟩, .int .i64 0] 40)) := boxed
                          have hnew := blkAt X28 (.cells #[.int .i64 0, .int .i64 0, .int .i64 0, .string ⟨#[]⟩, .int .i64 0] 40) rfl
                          have hSn := hS.trans (hbA.mono hS.size)
                          have hzn := Lib.hid (Nat.le_trans HZ.out hbA.size)
                          refine hK'.out _ _ hSn ?_
                          clear hK' K'
                          replace HU := Lib.hid (keptBlk hbA HU.out)
                          replace HD := Lib.hid (HD.out.below hbA)
                          have HFn := HZ
                          have HF := Lib.hid hnew
                          clear hS HZ hbA hnew
                          have hS := hSn; have HZ := hzn
                          clear hSn hzn
                          generalize X28.alloc (.cells #[.int .i64 0, .int .i64 0, .int .i64 0, .string ⟨#[]⟩, .int .i64 0] 40) = X29 at *
                          generalize X28.heap.size = gf at *
                          exact LEAF ⟨b0, gu, gf, A7, c7, D1, j1, f1, D2, j2, f2, D3, j3, f3, D4, j4, f4, D5, j5, f5⟩ X29 _ _ ⟨hS, HU, HF, HUn, HFn, HD⟩ (by kernel_rfl) (by simp only [setAll, List.foldl, List.setIfInBounds_toArray, List.set_cons_zero, List.set_cons_succ])
                        case n27_13 =>
                          intro K' hK'
                          go_simp
                          have hbA : Below X26.heap.size X26 (X26.alloc (.cells #[.int .i64 0, .int .i64 0, .int .i64 0, .string ⟨#[]⟩, .int .i64 0] 40)) := boxed
                          have hnew := blkAt X26 (.cells #[.int .i64 0, .int .i64 0, .int .i64 0, .string ⟨#[]⟩, .int .i64 0] 40) rfl
                          have hSn := hS.trans (hbA.mono hS.size)
                          have hzn := Lib.hid (Nat.le_trans HZ.out hbA.size)
                          refine hK'.out _ _ hSn ?_
                          clear hK' K'
                          replace HU := Lib.hid (keptBlk hbA HU.out)
                          replace HC := Lib.hid (HC.out.below hbA)
                          have HFn := HZ
                          have HF := Lib.hid hnew
                          clear hS HZ hbA hnew
                          have hS := hSn; have HZ := hzn
                          clear hSn hzn
                          generalize X26.alloc (.cells #[.int .i64 0, .int .i64 0, .int .i64 0, .string ⟨#[]⟩, .int .i64 0] 40) = X30 at *
                          generalize X26.heap.size = gf at *
                          refine wpAnyH_one 8 (by kernel_rfl) rfl ?_
                          intro K' hK'
                          go_simp
                          refine (HSC2.out _ _ _ hS HC.out).mono ?_
                          rintro e X31 ⟨VV, rfl, hVV, hbC⟩
                          obtain ⟨D1, j1, f1, D2, j2, f2, D3, j3, f3, D4, j4, f4, D5, j5, f5, rfl, hVV⟩ := hVV
                          have HD : Hid (VUnt X31 (.agg #[.string ⟨y.path.toArray⟩, .slice D1 j1 f1, .slice D2 j2 f2, .slice D3 j3 f3, .slice D4 j4 f4, .slice D5 j5 f5]) y) := Lib.hid ⟨D1, j1, f1, D2, j2, f2, D3, j3, f3, D4, j4, f4, D5, j5, f5, rfl, hVV⟩
                          have hSn := hS.trans (hbC.mono hS.size)
                          have hzn := Lib.hid (Nat.le_trans HZ.out hbC.size)
                          refine hK'.out _ _ hSn ?_
                          clear hK' K'
                          replace HU := Lib.hid (keptBlk hbC HU.out)
                          replace HF := Lib.hid (keptBlk hbC HF.out)
                          clear hS HZ hbC hVV HC
                          have hS := hSn; have HZ := hzn
                          clear hSn hzn
                          (refine tkW 9 (v := ?_) hS ?_ ?_; rotate_left; (focus (intro x hx; have fx := HX.out x hx; go_simp; (try with_reducible rfl); done)); (try simp only [Act.put, lsa, lsz, lss]))
                          (refine tkW 10 (v := ?_) hS ?_ ?_; rotate_left; (focus (intro x hx; have fx := HX.out x hx; go_simp; (try with_reducible rfl); done)); (try simp only [Act.put, lsa, lsz, lss]))
                          (refine tkW 11 (v := ?_) hS ?_ ?_; rotate_left; (focus (intro x hx; have fx := HX.out x hx; go_simp; (try with_reducible rfl); done)); (try simp only [Act.put, lsa, lsz, lss]))
                          exact LEAF ⟨b0, gu, gf, A7, c7, D1, j1, f1, D2, j2, f2, D3, j3, f3, D4, j4, f4, D5, j5, f5⟩ X31 _ _ ⟨hS, HU, HF, HUn, HFn, HD⟩ (by kernel_rfl) (by simp only [setAll, List.foldl, List.setIfInBounds_toArray, List.set_cons_zero, List.set_cons_succ])
                      case n25_13 =>
                        intro K' hK'
                        go_simp
                        have hbA : Below X24.heap.size X24 (X24.alloc (.cells #[.int .i64 0, .int .i64 0, .int .i64 0, .string ⟨#[]⟩, .int .i64 0] 40)) := boxed
                        have hnew := blkAt X24 (.cells #[.int .i64 0, .int .i64 0, .int .i64 0, .string ⟨#[]⟩, .int .i64 0] 40) rfl
                        have hSn := hS.trans (hbA.mono hS.size)
                        have hzn := Lib.hid (Nat.le_trans HZ.out hbA.size)
                        refine hK'.out _ _ hSn ?_
                        clear hK' K'
                        replace HU := Lib.hid (keptBlk hbA HU.out)
                        replace HO := Lib.hid (HO.out.below hbA)
                        replace HB0 := Lib.hid (keptBlk hbA HB0.out)
                        have HFn := HZ
                        have HF := Lib.hid hnew
                        clear hS HZ hbA hnew
                        have hS := hSn; have HZ := hzn
                        clear hSn hzn
                        generalize X24.alloc (.cells #[.int .i64 0, .int .i64 0, .int .i64 0, .string ⟨#[]⟩, .int .i64 0] 40) = X32 at *
                        generalize X24.heap.size = gf at *
                        refine wpAnyH_one 7 (by kernel_rfl) rfl ?_
                        intro K' hK'
                        refine step_app1 (T := fun _ => False) (base := w3.heap.size) (xs := fl.reverse) rfl _ _ eltStr rfl (by decide) rfl rfl (by simp) HO.out rfl [.string ⟨fg.toArray⟩] fg HB0.out rfl rfl (by rw [List.length_reverse]; omega) (by rw [List.length_reverse]; omega) hS.size ?_
                        intro A7 c7 X33 hown hg hat
                        have hSn := hS.grown hg hS.size (fun k hk => (HO.out.lt k hk).1)
                        have hzn := Lib.hid (Nat.le_trans HZ.out hg.size)
                        have HC := Lib.hid ((hown.sl (by decide)).any.cast (n' := fl.length + 1) (by simp))
                        refine hK'.out _ _ hSn ?_
                        clear hK' K'
                        replace HU := Lib.hid (grownBlk hg HU.out (fun q => by have := HAB.out _ q; have := HUn.out; omega))
                        replace HF := Lib.hid (grownBlk hg HF.out (fun q => by have := HAB.out _ q; have := HFn.out; omega))
                        clear hS HZ hown hg hat HO HB0 HB0n
                        have hS := hSn; have HZ := hzn
                        clear hSn hzn
                        refine wpAnyH_one 8 (by kernel_rfl) rfl ?_
                        intro K' hK'
                        go_simp
                        refine (HSC2.out _ _ _ hS HC.out).mono ?_
                        rintro e X34 ⟨VV, rfl, hVV, hbC⟩
                        obtain ⟨D1, j1, f1, D2, j2, f2, D3, j3, f3, D4, j4, f4, D5, j5, f5, rfl, hVV⟩ := hVV
                        have HD : Hid (VUnt X34 (.agg #[.string ⟨y.path.toArray⟩, .slice D1 j1 f1, .slice D2 j2 f2, .slice D3 j3 f3, .slice D4 j4 f4, .slice D5 j5 f5]) y) := Lib.hid ⟨D1, j1, f1, D2, j2, f2, D3, j3, f3, D4, j4, f4, D5, j5, f5, rfl, hVV⟩
                        have hSn := hS.trans (hbC.mono hS.size)
                        have hzn := Lib.hid (Nat.le_trans HZ.out hbC.size)
                        refine hK'.out _ _ hSn ?_
                        clear hK' K'
                        replace HU := Lib.hid (keptBlk hbC HU.out)
                        replace HF := Lib.hid (keptBlk hbC HF.out)
                        clear hS HZ hbC hVV HC
                        have hS := hSn; have HZ := hzn
                        clear hSn hzn
                        (refine tkW 9 (v := ?_) hS ?_ ?_; rotate_left; (focus (intro x hx; have fx := HX.out x hx; go_simp; (try with_reducible rfl); done)); (try simp only [Act.put, lsa, lsz, lss]))
                        (refine tkW 10 (v := ?_) hS ?_ ?_; rotate_left; (focus (intro x hx; have fx := HX.out x hx; go_simp; (try with_reducible rfl); done)); (try simp only [Act.put, lsa, lsz, lss]))
                        (refine tkW 11 (v := ?_) hS ?_ ?_; rotate_left; (focus (intro x hx; have fx := HX.out x hx; go_simp; (try with_reducible rfl); done)); (try simp only [Act.put, lsa, lsz, lss]))
                        exact LEAF ⟨b0, gu, gf, A7, c7, D1, j1, f1, D2, j2, f2, D3, j3, f3, D4, j4, f4, D5, j5, f5⟩ X34 _ _ ⟨hS, HU, HF, HUn, HFn, HD⟩ (by kernel_rfl) (by simp only [setAll, List.foldl, List.setIfInBounds_toArray, List.set_cons_zero, List.set_cons_succ])
                    case n3_13 =>
                      intro K' hK'
                      go_simp
                      have hbA : Below X2.heap.size X2 (X2.alloc (.cells #[.int .i64 0, .int .i64 0, .int .i64 0, .string ⟨#[]⟩, .int .i64 0] 40)) := boxed
                      have hnew := blkAt X2 (.cells #[.int .i64 0, .int .i64 0, .int .i64 0, .string ⟨#[]⟩, .int .i64 0] 40) rfl
                      have hSn := hS.trans (hbA.mono hS.size)
                      have hzn := Lib.hid (Nat.le_trans HZ.out hbA.size)
                      refine hK'.out _ _ hSn ?_
                      clear hK' K'
                      replace HO := Lib.hid (HO.out.below hbA)
                      replace HB0 := Lib.hid (keptBlk hbA HB0.out)
                      have HFn := HZ
                      have HF := Lib.hid hnew
                      clear hS HZ hbA hnew
                      have hS := hSn; have HZ := hzn
                      clear hSn hzn
                      generalize X2.alloc (.cells #[.int .i64 0, .int .i64 0, .int .i64 0, .string ⟨#[]⟩, .int .i64 0] 40) = X35 at *
                      generalize X2.heap.size = gf at *
                      refine wpAnyH_two 7 12 (by kernel_rfl) rfl rfl ?n36_7 ?n36_12
                      case n36_7 =>
                        intro K' hK'
                        refine step_app1 (T := fun _ => False) (base := w3.heap.size) (xs := fl.reverse) rfl _ _ eltStr rfl (by decide) rfl rfl (by simp) HO.out rfl [.string ⟨fg.toArray⟩] fg HB0.out rfl rfl (by rw [List.length_reverse]; omega) (by rw [List.length_reverse]; omega) hS.size ?_
                        intro A7 c7 X37 hown hg hat
                        have hSn := hS.grown hg hS.size (fun k hk => (HO.out.lt k hk).1)
                        have hzn := Lib.hid (Nat.le_trans HZ.out hg.size)
                        have HC := Lib.hid ((hown.sl (by decide)).any.cast (n' := fl.length + 1) (by simp))
                        refine hK'.out _ _ hSn ?_
                        clear hK' K'
                        replace HF := Lib.hid (grownBlk hg HF.out (fun q => by have := HAB.out _ q; have := HFn.out; omega))
                        clear hS HZ hown hg hat HO HB0 HB0n
                        have hS := hSn; have HZ := hzn
                        clear hSn hzn
                        refine wpAnyH_two 8 12 (by kernel_rfl) rfl rfl ?n38_8 ?n38_12
                        case n38_8 =>
                          intro K' hK'
                          go_simp
                          refine (HSC2.out _ _ _ hS HC.out).mono ?_
                          rintro e X39 ⟨VV, rfl, hVV, hbC⟩
                          obtain ⟨D1, j1, f1, D2, j2, f2, D3, j3, f3, D4, j4, f4, D5, j5, f5, rfl, hVV⟩ := hVV
                          have HD : Hid (VUnt X39 (.agg #[.string ⟨y.path.toArray⟩, .slice D1 j1 f1, .slice D2 j2 f2, .slice D3 j3 f3, .slice D4 j4 f4, .slice D5 j5 f5]) y) := Lib.hid ⟨D1, j1, f1, D2, j2, f2, D3, j3, f3, D4, j4, f4, D5, j5, f5, rfl, hVV⟩
                          have hSn := hS.trans (hbC.mono hS.size)
                          have hzn := Lib.hid (Nat.le_trans HZ.out hbC.size)
                          refine hK'.out _ _ hSn ?_
                          clear hK' K'
                          replace HF := Lib.hid (keptBlk hbC HF.out)
                          clear hS HZ hbC hVV HC
                          have hS := hSn; have HZ := hzn
                          clear hSn hzn
                          (refine tkW 9 (v := ?_) hS ?_ ?_; rotate_left; (focus (intro x hx; have fx := HX.out x hx; go_simp; (try with_reducible rfl); done)); (try simp only [Act.put, lsa, lsz, lss]))
                          (refine tkW 10 (v := ?_) hS ?_ ?_; rotate_left; (focus (intro x hx; have fx := HX.out x hx; go_simp; (try with_reducible rfl); done)); (try simp only [Act.put, lsa, lsz, lss]))
                          (refine tkW 11 (v := ?_) hS ?_ ?_; rotate_left; (focus (intro x hx; have fx := HX.out x hx; go_simp; (try with_reducible rfl); done)); (try simp only [Act.put, lsa, lsz, lss]))
                          refine wpAnyH_one 12 (by kernel_rfl) rfl ?_
                          intro K' hK'
                          go_simp
                          have hbA : Below X39.heap.size X39 (X39.alloc (.cells #[.string ⟨#[]⟩, .slice none 0 0, .slice none 0 0, .slice none 0 0, .slice none 0 0, .slice none 0 0] 36)) := boxed
                          have hnew := blkAt X39 (.cells #[.string ⟨#[]⟩, .slice none 0 0, .slice none 0 0, .slice none 0 0, .slice none 0 0, .slice none 0 0] 36) rfl
                          have hSn := hS.trans (hbA.mono hS.size)
                          have hzn := Lib.hid (Nat.le_trans HZ.out hbA.size)
                          refine hK'.out _ _ hSn ?_
                          clear hK' K'
                          replace HF := Lib.hid (keptBlk hbA HF.out)
                          replace HD := Lib.hid (HD.out.below hbA)
                          have HUn := HZ
                          have HU := Lib.hid hnew
                          clear hS HZ hbA hnew
                          have hS := hSn; have HZ := hzn
                          clear hSn hzn
                          generalize X39.alloc (.cells #[.string ⟨#[]⟩, .slice none 0 0, .slice none 0 0, .slice none 0 0, .slice none 0 0, .slice none 0 0] 36) = X40 at *
                          generalize X39.heap.size = gu at *
                          exact LEAF ⟨b0, gu, gf, A7, c7, D1, j1, f1, D2, j2, f2, D3, j3, f3, D4, j4, f4, D5, j5, f5⟩ X40 _ _ ⟨hS, HU, HF, HUn, HFn, HD⟩ (by kernel_rfl) (by simp only [setAll, List.foldl, List.setIfInBounds_toArray, List.set_cons_zero, List.set_cons_succ])
                        case n38_12 =>
                          intro K' hK'
                          go_simp
                          have hbA : Below X37.heap.size X37 (X37.alloc (.cells #[.string ⟨#[]⟩, .slice none 0 0, .slice none 0 0, .slice none 0 0, .slice none 0 0, .slice none 0 0] 36)) := boxed
                          have hnew := blkAt X37 (.cells #[.string ⟨#[]⟩, .slice none 0 0, .slice none 0 0, .slice none 0 0, .slice none 0 0, .slice none 0 0] 36) rfl
                          have hSn := hS.trans (hbA.mono hS.size)
                          have hzn := Lib.hid (Nat.le_trans HZ.out hbA.size)
                          refine hK'.out _ _ hSn ?_
                          clear hK' K'
                          replace HF := Lib.hid (keptBlk hbA HF.out)
                          replace HC := Lib.hid (HC.out.below hbA)
                          have HUn := HZ
                          have HU := Lib.hid hnew
                          clear hS HZ hbA hnew
                          have hS := hSn; have HZ := hzn
                          clear hSn hzn
                          generalize X37.alloc (.cells #[.string ⟨#[]⟩, .slice none 0 0, .slice none 0 0, .slice none 0 0, .slice none 0 0, .slice none 0 0] 36) = X41 at *
                          generalize X37.heap.size = gu at *
                          refine wpAnyH_one 8 (by kernel_rfl) rfl ?_
                          intro K' hK'
                          go_simp
                          refine (HSC2.out _ _ _ hS HC.out).mono ?_
                          rintro e X42 ⟨VV, rfl, hVV, hbC⟩
                          obtain ⟨D1, j1, f1, D2, j2, f2, D3, j3, f3, D4, j4, f4, D5, j5, f5, rfl, hVV⟩ := hVV
                          have HD : Hid (VUnt X42 (.agg #[.string ⟨y.path.toArray⟩, .slice D1 j1 f1, .slice D2 j2 f2, .slice D3 j3 f3, .slice D4 j4 f4, .slice D5 j5 f5]) y) := Lib.hid ⟨D1, j1, f1, D2, j2, f2, D3, j3, f3, D4, j4, f4, D5, j5, f5, rfl, hVV⟩
                          have hSn := hS.trans (hbC.mono hS.size)
                          have hzn := Lib.hid (Nat.le_trans HZ.out hbC.size)
                          refine hK'.out _ _ hSn ?_
                          clear hK' K'
                          replace HU := Lib.hid (keptBlk hbC HU.out)
                          replace HF := Lib.hid (keptBlk hbC HF.out)
                          clear hS HZ hbC hVV HC
                          have hS := hSn; have HZ := hzn
                          clear hSn hzn
                          (refine tkW 9 (v := ?_) hS ?_ ?_; rotate_left; (focus (intro x hx; have fx := HX.out x hx; go_simp; (try with_reducible rfl); done)); (try simp only [Act.put, lsa, lsz, lss]))
                          (refine tkW 10 (v := ?_) hS ?_ ?_; rotate_left; (focus (intro x hx; have fx := HX.out x hx; go_simp; (try with_reducible rfl); done)); (try simp only [Act.put, lsa, lsz, lss]))
                          (refine tkW 11 (v := ?_) hS ?_ ?_; rotate_left; (focus (intro x hx; have fx := HX.out x hx; go_simp; (try with_reducible rfl); done)); (try simp only [Act.put, lsa, lsz, lss]))
                          exact LEAF ⟨b0, gu, gf, A7, c7, D1, j1, f1, D2, j2, f2, D3, j3, f3, D4, j4, f4, D5, j5, f5⟩ X42 _ _ ⟨hS, HU, HF, HUn, HFn, HD⟩ (by kernel_rfl) (by simp only [setAll, List.foldl, List.setIfInBounds_toArray, List.set_cons_zero, List.set_cons_succ])
                      case n36_12 =>
                        intro K' hK'
                        go_simp
                        have hbA : Below X35.heap.size X35 (X35.alloc (.cells #[.string ⟨#[]⟩, .slice none 0 0, .slice none 0 0, .slice none 0 0, .slice none 0 0, .slice none 0 0] 36)) := boxed
                        have hnew := blkAt X35 (.cells #[.string ⟨#[]⟩, .slice none 0 0, .slice none 0 0, .slice none 0 0, .slice none 0 0, .slice none 0 0] 36) rfl
                        have hSn := hS.trans (hbA.mono hS.size)
                        have hzn := Lib.hid (Nat.le_trans HZ.out hbA.size)
                        refine hK'.out _ _ hSn ?_
                        clear hK' K'
                        replace HF := Lib.hid (keptBlk hbA HF.out)
                        replace HO := Lib.hid (HO.out.below hbA)
                        replace HB0 := Lib.hid (keptBlk hbA HB0.out)
                        have HUn := HZ
                        have HU := Lib.hid hnew
                        clear hS HZ hbA hnew
                        have hS := hSn; have HZ := hzn
                        clear hSn hzn
                        generalize X35.alloc (.cells #[.string ⟨#[]⟩, .slice none 0 0, .slice none 0 0, .slice none 0 0, .slice none 0 0, .slice none 0 0] 36) = X43 at *
                        generalize X35.heap.size = gu at *
                        refine wpAnyH_one 7 (by kernel_rfl) rfl ?_
                        intro K' hK'
                        refine step_app1 (T := fun _ => False) (base := w3.heap.size) (xs := fl.reverse) rfl _ _ eltStr rfl (by decide) rfl rfl (by simp) HO.out rfl [.string ⟨fg.toArray⟩] fg HB0.out rfl rfl (by rw [List.length_reverse]; omega) (by rw [List.length_reverse]; omega) hS.size ?_
                        intro A7 c7 X44 hown hg hat
                        have hSn := hS.grown hg hS.size (fun k hk => (HO.out.lt k hk).1)
                        have hzn := Lib.hid (Nat.le_trans HZ.out hg.size)
                        have HC := Lib.hid ((hown.sl (by decide)).any.cast (n' := fl.length + 1) (by simp))
                        refine hK'.out _ _ hSn ?_
                        clear hK' K'
                        replace HU := Lib.hid (grownBlk hg HU.out (fun q => by have := HAB.out _ q; have := HUn.out; omega))
                        replace HF := Lib.hid (grownBlk hg HF.out (fun q => by have := HAB.out _ q; have := HFn.out; omega))
                        clear hS HZ hown hg hat HO HB0 HB0n
                        have hS := hSn; have HZ := hzn
                        clear hSn hzn
                        refine wpAnyH_one 8 (by kernel_rfl) rfl ?_
                        intro K' hK'
                        go_simp
                        refine (HSC2.out _ _ _ hS HC.out).mono ?_
                        rintro e X45 ⟨VV, rfl, hVV, hbC⟩
                        obtain ⟨D1, j1, f1, D2, j2, f2, D3, j3, f3, D4, j4, f4, D5, j5, f5, rfl, hVV⟩ := hVV
                        have HD : Hid (VUnt X45 (.agg #[.string ⟨y.path.toArray⟩, .slice D1 j1 f1, .slice D2 j2 f2, .slice D3 j3 f3, .slice D4 j4 f4, .slice D5 j5 f5]) y) := Lib.hid ⟨D1, j1, f1, D2, j2, f2, D3, j3, f3, D4, j4, f4, D5, j5, f5, rfl, hVV⟩
                        have hSn := hS.trans (hbC.mono hS.size)
                        have hzn := Lib.hid (Nat.le_trans HZ.out hbC.size)
                        refine hK'.out _ _ hSn ?_
                        clear hK' K'
                        replace HU := Lib.hid (keptBlk hbC HU.out)
                        replace HF := Lib.hid (keptBlk hbC HF.out)
                        clear hS HZ hbC hVV HC
                        have hS := hSn; have HZ := hzn
                        clear hSn hzn
                        (refine tkW 9 (v := ?_) hS ?_ ?_; rotate_left; (focus (intro x hx; have fx := HX.out x hx; go_simp; (try with_reducible rfl); done)); (try simp only [Act.put, lsa, lsz, lss]))
                        (refine tkW 10 (v := ?_) hS ?_ ?_; rotate_left; (focus (intro x hx; have fx := HX.out x hx; go_simp; (try with_reducible rfl); done)); (try simp only [Act.put, lsa, lsz, lss]))
                        (refine tkW 11 (v := ?_) hS ?_ ?_; rotate_left; (focus (intro x hx; have fx := HX.out x hx; go_simp; (try with_reducible rfl); done)); (try simp only [Act.put, lsa, lsz, lss]))
                        exact LEAF ⟨b0, gu, gf, A7, c7, D1, j1, f1, D2, j2, f2, D3, j3, f3, D4, j4, f4, D5, j5, f5⟩ X45 _ _ ⟨hS, HU, HF, HUn, HFn, HD⟩ (by kernel_rfl) (by simp only [setAll, List.foldl, List.setIfInBounds_toArray, List.set_cons_zero, List.set_cons_succ])
                  case n1_12 =>
                    intro K' hK'
                    go_simp
                    have hbA : Below X0.heap.size X0 (X0.alloc (.cells #[.string ⟨#[]⟩, .slice none 0 0, .slice none 0 0, .slice none 0 0, .slice none 0 0, .slice none 0 0] 36)) := boxed
                    have hnew := blkAt X0 (.cells #[.string ⟨#[]⟩, .slice none 0 0, .slice none 0 0, .slice none 0 0, .slice none 0 0, .slice none 0 0] 36) rfl
                    have hSn := hS.trans (hbA.mono hS.size)
                    have hzn := Lib.hid (Nat.le_trans HZ.out hbA.size)
                    refine hK'.out _ _ hSn ?_
                    clear hK' K'
                    replace HO := Lib.hid (HO.out.below hbA)
                    have HUn := HZ
                    have HU := Lib.hid hnew
                    clear hS HZ hbA hnew
                    have hS := hSn; have HZ := hzn
                    clear hSn hzn
                    generalize X0.alloc (.cells #[.string ⟨#[]⟩, .slice none 0 0, .slice none 0 0, .slice none 0 0, .slice none 0 0, .slice none 0 0] 36) = X46 at *
                    generalize X0.heap.size = gu at *
                    refine wpAnyH_two 6 13 (by kernel_rfl) rfl rfl ?n47_6 ?n47_13
                    case n47_6 =>
                      intro K' hK'
                      go_simp
                      have hbA : Below X46.heap.size X46 (X46.alloc (.cells #[.string ⟨fg.toArray⟩] 9)) := boxed
                      have hnew := blkAt X46 (.cells #[.string ⟨fg.toArray⟩] 9) rfl
                      have hSn := hS.trans (hbA.mono hS.size)
                      have hzn := Lib.hid (Nat.le_trans HZ.out hbA.size)
                      refine hK'.out _ _ hSn ?_
                      clear hK' K'
                      replace HU := Lib.hid (keptBlk hbA HU.out)
                      replace HO := Lib.hid (HO.out.below hbA)
                      have HB0n := HZ
                      have HB0 := Lib.hid hnew
                      clear hS HZ hbA hnew
                      have hS := hSn; have HZ := hzn
                      clear hSn hzn
                      generalize X46.alloc (.cells #[.string ⟨fg.toArray⟩] 9) = X48 at *
                      generalize X46.heap.size = b0 at *
                      refine wpAnyH_two 7 13 (by kernel_rfl) rfl rfl ?n49_7 ?n49_13
                      case n49_7 =>
                        intro K' hK'
                        refine step_app1 (T := fun _ => False) (base := w3.heap.size) (xs := fl.reverse) rfl _ _ eltStr rfl (by decide) rfl rfl (by simp) HO.out rfl [.string ⟨fg.toArray⟩] fg HB0.out rfl rfl (by rw [List.length_reverse]; omega) (by rw [List.length_reverse]; omega) hS.size ?_
                        intro A7 c7 X50 hown hg hat
                        have hSn := hS.grown hg hS.size (fun k hk => (HO.out.lt k hk).1)
                        have hzn := Lib.hid (Nat.le_trans HZ.out hg.size)
                        have HC := Lib.hid ((hown.sl (by decide)).any.cast (n' := fl.length + 1) (by simp))
                        refine hK'.out _ _ hSn ?_
                        clear hK' K'
                        replace HU := Lib.hid (grownBlk hg HU.out (fun q => by have := HAB.out _ q; have := HUn.out; omega))
                        clear hS HZ hown hg hat HO HB0 HB0n
                        have hS := hSn; have HZ := hzn
                        clear hSn hzn
                        refine wpAnyH_two 8 13 (by kernel_rfl) rfl rfl ?n51_8 ?n51_13
                        case n51_8 =>
                          intro K' hK'
                          go_simp
                          refine (HSC2.out _ _ _ hS HC.out).mono ?_
                          rintro e X52 ⟨VV, rfl, hVV, hbC⟩
                          obtain ⟨D1, j1, f1, D2, j2, f2, D3, j3, f3, D4, j4, f4, D5, j5, f5, rfl, hVV⟩ := hVV
                          have HD : Hid (VUnt X52 (.agg #[.string ⟨y.path.toArray⟩, .slice D1 j1 f1, .slice D2 j2 f2, .slice D3 j3 f3, .slice D4 j4 f4, .slice D5 j5 f5]) y) := Lib.hid ⟨D1, j1, f1, D2, j2, f2, D3, j3, f3, D4, j4, f4, D5, j5, f5, rfl, hVV⟩
                          have hSn := hS.trans (hbC.mono hS.size)
                          have hzn := Lib.hid (Nat.le_trans HZ.out hbC.size)
                          refine hK'.out _ _ hSn ?_
                          clear hK' K'
                          replace HU := Lib.hid (keptBlk hbC HU.out)
                          clear hS HZ hbC hVV HC
                          have hS := hSn; have HZ := hzn
                          clear hSn hzn
                          (refine tkW 9 (v := ?_) hS ?_ ?_; rotate_left; (focus (intro x hx; have fx := HX.out x hx; go_simp; (try with_reducible rfl); done)); (try simp only [Act.put, lsa, lsz, lss]))
                          (refine tkW 10 (v := ?_) hS ?_ ?_; rotate_left; (focus (intro x hx; have fx := HX.out x hx; go_simp; (try with_reducible rfl); done)); (try simp only [Act.put, lsa, lsz, lss]))
                          (refine tkW 11 (v := ?_) hS ?_ ?_; rotate_left; (focus (intro x hx; have fx := HX.out x hx; go_simp; (try with_reducible rfl); done)); (try simp only [Act.put, lsa, lsz, lss]))
                          refine wpAnyH_one 13 (by kernel_rfl) rfl ?_
                          intro K' hK'
                          go_simp
                          have hbA : Below X52.heap.size X52 (X52.alloc (.cells #[.int .i64 0, .int .i64 0, .int .i64 0, .string ⟨#[]⟩, .int .i64 0] 40)) := boxed
                          have hnew := blkAt X52 (.cells #[.int .i64 0, .int .i64 0, .int .i64 0, .string ⟨#[]⟩, .int .i64 0] 40) rfl
                          have hSn := hS.trans (hbA.mono hS.size)
                          have hzn := Lib.hid (Nat.le_trans HZ.out hbA.size)
                          refine hK'.out _ _ hSn ?_
                          clear hK' K'
                          replace HU := Lib.hid (keptBlk hbA HU.out)
                          replace HD := Lib.hid (HD.out.below hbA)
                          have HFn := HZ
                          have HF := Lib.hid hnew
                          clear hS HZ hbA hnew
                          have hS := hSn; have HZ := hzn
                          clear hSn hzn
                          generalize X52.alloc (.cells #[.int .i64 0, .int .i64 0, .int .i64 0, .string ⟨#[]⟩, .int .i64 0] 40) = X53 at *
                          generalize X52.heap.size = gf at *
                          exact LEAF ⟨b0, gu, gf, A7, c7, D1, j1, f1, D2, j2, f2, D3, j3, f3, D4, j4, f4, D5, j5, f5⟩ X53 _ _ ⟨hS, HU, HF, HUn, HFn, HD⟩ (by kernel_rfl) (by simp only [setAll, List.foldl, List.setIfInBounds_toArray, List.set_cons_zero, List.set_cons_succ])
                        case n51_13 =>
                          intro K' hK'
                          go_simp
                          have hbA : Below X50.heap.size X50 (X50.alloc (.cells #[.int .i64 0, .int .i64 0, .int .i64 0, .string ⟨#[]⟩, .int .i64 0] 40)) := boxed
                          have hnew := blkAt X50 (.cells #[.int .i64 0, .int .i64 0, .int .i64 0, .string ⟨#[]⟩, .int .i64 0] 40) rfl
                          have hSn := hS.trans (hbA.mono hS.size)
                          have hzn := Lib.hid (Nat.le_trans HZ.out hbA.size)
                          refine hK'.out _ _ hSn ?_
                          clear hK' K'
                          replace HU := Lib.hid (keptBlk hbA HU.out)
                          replace HC := Lib.hid (HC.out.below hbA)
                          have HFn := HZ
                          have HF := Lib.hid hnew
                          clear hS HZ hbA hnew
                          have hS := hSn; have HZ := hzn
                          clear hSn hzn
                          generalize X50.alloc (.cells #[.int .i64 0, .int .i64 0, .int .i64 0, .string ⟨#[]⟩, .int .i64 0] 40) = X54 at *
                          generalize X50.heap.size = gf at *
                          refine wpAnyH_one 8 (by kernel_rfl) rfl ?_
                          intro K' hK'
                          go_simp
                          refine (HSC2.out _ _ _ hS HC.out).mono ?_
                          rintro e X55 ⟨VV, rfl, hVV, hbC⟩
                          obtain ⟨D1, j1, f1, D2, j2, f2, D3, j3, f3, D4, j4, f4, D5, j5, f5, rfl, hVV⟩ := hVV
                          have HD : Hid (VUnt X55 (.agg #[.string ⟨y.path.toArray⟩, .slice D1 j1 f1, .slice D2 j2 f2, .slice D3 j3 f3, .slice D4 j4 f4, .slice D5 j5 f5]) y) := Lib.hid ⟨D1, j1, f1, D2, j2, f2, D3, j3, f3, D4, j4, f4, D5, j5, f5, rfl, hVV⟩
                          have hSn := hS.trans (hbC.mono hS.size)
                          have hzn := Lib.hid (Nat.le_trans HZ.out hbC.size)
                          refine hK'.out _ _ hSn ?_
                          clear hK' K'
                          replace HU := Lib.hid (keptBlk hbC HU.out)
                          replace HF := Lib.hid (keptBlk hbC HF.out)
                          clear hS HZ hbC hVV HC
                          have hS := hSn; have HZ := hzn
                          clear hSn hzn
                          (refine tkW 9 (v := ?_) hS ?_ ?_; rotate_left; (focus (intro x hx; have fx := HX.out x hx; go_simp; (try with_reducible rfl); done)); (try simp only [Act.put, lsa, lsz, lss]))
                          (refine tkW 10 (v := ?_) hS ?_ ?_; rotate_left; (focus (intro x hx; have fx := HX.out x hx; go_simp; (try with_reducible rfl); done)); (try simp only [Act.put, lsa, lsz, lss]))
                          (refine tkW 11 (v := ?_) hS ?_ ?_; rotate_left; (focus (intro x hx; have fx := HX.out x hx; go_simp; (try with_reducible rfl); done)); (try simp only [Act.put, lsa, lsz, lss]))
                          exact LEAF ⟨b0, gu, gf, A7, c7, D1, j1, f1, D2, j2, f2, D3, j3, f3, D4, j4, f4, D5, j5, f5⟩ X55 _ _ ⟨hS, HU, HF, HUn, HFn, HD⟩ (by kernel_rfl) (by simp only [setAll, List.foldl, List.setIfInBounds_toArray, List.set_cons_zero, List.set_cons_succ])
                      case n49_13 =>
                        intro K' hK'
                        go_simp
                        have hbA : Below X48.heap.size X48 (X48.alloc (.cells #[.int .i64 0, .int .i64 0, .int .i64 0, .string ⟨#[]⟩, .int .i64 0] 40)) := boxed
                        have hnew := blkAt X48 (.cells #[.int .i64 0, .int .i64 0, .int .i64 0, .string ⟨#[]⟩, .int .i64 0] 40) rfl
                        have hSn := hS.trans (hbA.mono hS.size)
                        have hzn := Lib.hid (Nat.le_trans HZ.out hbA.size)
                        refine hK'.out _ _ hSn ?_
                        clear hK' K'
                        replace HU := Lib.hid (keptBlk hbA HU.out)
                        replace HO := Lib.hid (HO.out.below hbA)
                        replace HB0 := Lib.hid (keptBlk hbA HB0.out)
                        have HFn := HZ
                        have HF := Lib.hid hnew
                        clear hS HZ hbA hnew
                        have hS := hSn; have HZ := hzn
                        clear hSn hzn
                        generalize X48.alloc (.cells #[.int .i64 0, .int .i64 0, .int .i64 0, .string ⟨#[]⟩, .int .i64 0] 40) = X56 at *
                        generalize X48.heap.size = gf at *
                        refine wpAnyH_one 7 (by kernel_rfl) rfl ?_
                        intro K' hK'
                        refine step_app1 (T := fun _ => False) (base := w3.heap.size) (xs := fl.reverse) rfl _ _ eltStr rfl (by decide) rfl rfl (by simp) HO.out rfl [.string ⟨fg.toArray⟩] fg HB0.out rfl rfl (by rw [List.length_reverse]; omega) (by rw [List.length_reverse]; omega) hS.size ?_
                        intro A7 c7 X57 hown hg hat
                        have hSn := hS.grown hg hS.size (fun k hk => (HO.out.lt k hk).1)
                        have hzn := Lib.hid (Nat.le_trans HZ.out hg.size)
                        have HC := Lib.hid ((hown.sl (by decide)).any.cast (n' := fl.length + 1) (by simp))
                        refine hK'.out _ _ hSn ?_
                        clear hK' K'
                        replace HU := Lib.hid (grownBlk hg HU.out (fun q => by have := HAB.out _ q; have := HUn.out; omega))
                        replace HF := Lib.hid (grownBlk hg HF.out (fun q => by have := HAB.out _ q; have := HFn.out; omega))
                        clear hS HZ hown hg hat HO HB0 HB0n
                        have hS := hSn; have HZ := hzn
                        clear hSn hzn
                        refine wpAnyH_one 8 (by kernel_rfl) rfl ?_
                        intro K' hK'
                        go_simp
                        refine (HSC2.out _ _ _ hS HC.out).mono ?_
                        rintro e X58 ⟨VV, rfl, hVV, hbC⟩
                        obtain ⟨D1, j1, f1, D2, j2, f2, D3, j3, f3, D4, j4, f4, D5, j5, f5, rfl, hVV⟩ := hVV
                        have HD : Hid (VUnt X58 (.agg #[.string ⟨y.path.toArray⟩, .slice D1 j1 f1, .slice D2 j2 f2, .slice D3 j3 f3, .slice D4 j4 f4, .slice D5 j5 f5]) y) := Lib.hid ⟨D1, j1, f1, D2, j2, f2, D3, j3, f3, D4, j4, f4, D5, j5, f5, rfl, hVV⟩
                        have hSn := hS.trans (hbC.mono hS.size)
                        have hzn := Lib.hid (Nat.le_trans HZ.out hbC.size)
                        refine hK'.out _ _ hSn ?_
                        clear hK' K'
                        replace HU := Lib.hid (keptBlk hbC HU.out)
                        replace HF := Lib.hid (keptBlk hbC HF.out)
                        clear hS HZ hbC hVV HC
                        have hS := hSn; have HZ := hzn
                        clear hSn hzn
                        (refine tkW 9 (v := ?_) hS ?_ ?_; rotate_left; (focus (intro x hx; have fx := HX.out x hx; go_simp; (try with_reducible rfl); done)); (try simp only [Act.put, lsa, lsz, lss]))
                        (refine tkW 10 (v := ?_) hS ?_ ?_; rotate_left; (focus (intro x hx; have fx := HX.out x hx; go_simp; (try with_reducible rfl); done)); (try simp only [Act.put, lsa, lsz, lss]))
                        (refine tkW 11 (v := ?_) hS ?_ ?_; rotate_left; (focus (intro x hx; have fx := HX.out x hx; go_simp; (try with_reducible rfl); done)); (try simp only [Act.put, lsa, lsz, lss]))
                        exact LEAF ⟨b0, gu, gf, A7, c7, D1, j1, f1, D2, j2, f2, D3, j3, f3, D4, j4, f4, D5, j5, f5⟩ X58 _ _ ⟨hS, HU, HF, HUn, HFn, HD⟩ (by kernel_rfl) (by simp only [setAll, List.foldl, List.setIfInBounds_toArray, List.set_cons_zero, List.set_cons_succ])
                    case n47_13 =>
                      intro K' hK'
                      go_simp
                      have hbA : Below X46.heap.size X46 (X46.alloc (.cells #[.int .i64 0, .int .i64 0, .int .i64 0, .string ⟨#[]⟩, .int .i64 0] 40)) := boxed
                      have hnew := blkAt X46 (.cells #[.int .i64 0, .int .i64 0, .int .i64 0, .string ⟨#[]⟩, .int .i64 0] 40) rfl
                      have hSn := hS.trans (hbA.mono hS.size)
                      have hzn := Lib.hid (Nat.le_trans HZ.out hbA.size)
                      refine hK'.out _ _ hSn ?_
                      clear hK' K'
                      replace HU := Lib.hid (keptBlk hbA HU.out)
                      replace HO := Lib.hid (HO.out.below hbA)
                      have HFn := HZ
                      have HF := Lib.hid hnew
                      clear hS HZ hbA hnew
                      have hS := hSn; have HZ := hzn
                      clear hSn hzn
                      generalize X46.alloc (.cells #[.int .i64 0, .int .i64 0, .int .i64 0, .string ⟨#[]⟩, .int .i64 0] 40) = X59 at *
                      generalize X46.heap.size = gf at *
                      refine wpAnyH_one 6 (by kernel_rfl) rfl ?_
                      intro K' hK'
                      go_simp
                      have hbA : Below X59.heap.size X59 (X59.alloc (.cells #[.string ⟨fg.toArray⟩] 9)) := boxed
                      have hnew := blkAt X59 (.cells #[.string ⟨fg.toArray⟩] 9) rfl
                      have hSn := hS.trans (hbA.mono hS.size)
                      have hzn := Lib.hid (Nat.le_trans HZ.out hbA.size)
                      refine hK'.out _ _ hSn ?_
                      clear hK' K'
                      replace HU := Lib.hid (keptBlk hbA HU.out)
                      replace HF := Lib.hid (keptBlk hbA HF.out)
                      replace HO := Lib.hid (HO.out.below hbA)
                      have HB0n := HZ
                      have HB0 := Lib.hid hnew
                      clear hS HZ hbA hnew
                      have hS := hSn; have HZ := hzn
                      clear hSn hzn
                      generalize X59.alloc (.cells #[.string ⟨fg.toArray⟩] 9) = X60 at *
                      generalize X59.heap.size = b0 at *
                      refine wpAnyH_one 7 (by kernel_rfl) rfl ?_
                      intro K' hK'
                      refine step_app1 (T := fun _ => False) (base := w3.heap.size) (xs := fl.reverse) rfl _ _ eltStr rfl (by decide) rfl rfl (by simp) HO.out rfl [.string ⟨fg.toArray⟩] fg HB0.out rfl rfl (by rw [List.length_reverse]; omega) (by rw [List.length_reverse]; omega) hS.size ?_
                      intro A7 c7 X61 hown hg hat
                      have hSn := hS.grown hg hS.size (fun k hk => (HO.out.lt k hk).1)
                      have hzn := Lib.hid (Nat.le_trans HZ.out hg.size)
                      have HC := Lib.hid ((hown.sl (by decide)).any.cast (n' := fl.length + 1) (by simp))
                      refine hK'.out _ _ hSn ?_
                      clear hK' K'
                      replace HU := Lib.hid (grownBlk hg HU.out (fun q => by have := HAB.out _ q; have := HUn.out; omega))
                      replace HF := Lib.hid (grownBlk hg HF.out (fun q => by have := HAB.out _ q; have := HFn.out; omega))
                      clear hS HZ hown hg hat HO HB0 HB0n
                      have hS := hSn; have HZ := hzn
                      clear hSn hzn
                      refine wpAnyH_one 8 (by kernel_rfl) rfl ?_
                      intro K' hK'
                      go_simp
                      refine (HSC2.out _ _ _ hS HC.out).mono ?_
                      rintro e X62 ⟨VV, rfl, hVV, hbC⟩
                      obtain ⟨D1, j1, f1, D2, j2, f2, D3, j3, f3, D4, j4, f4, D5, j5, f5, rfl, hVV⟩ := hVV
                      have HD : Hid (VUnt X62 (.agg #[.string ⟨y.path.toArray⟩, .slice D1 j1 f1, .slice D2 j2 f2, .slice D3 j3 f3, .slice D4 j4 f4, .slice D5 j5 f5]) y) := Lib.hid ⟨D1, j1, f1, D2, j2, f2, D3, j3, f3, D4, j4, f4, D5, j5, f5, rfl, hVV⟩
                      have hSn := hS.trans (hbC.mono hS.size)
                      have hzn := Lib.hid (Nat.le_trans HZ.out hbC.size)
                      refine hK'.out _ _ hSn ?_
                      clear hK' K'
                      replace HU := Lib.hid (keptBlk hbC HU.out)
                      replace HF := Lib.hid (keptBlk hbC HF.out)
                      clear hS HZ hbC hVV HC
                      have hS := hSn; have HZ := hzn
                      clear hSn hzn
                      (refine tkW 9 (v := ?_) hS ?_ ?_; rotate_left; (focus (intro x hx; have fx := HX.out x hx; go_simp; (try with_reducible rfl); done)); (try simp only [Act.put, lsa, lsz, lss]))
                      (refine tkW 10 (v := ?_) hS ?_ ?_; rotate_left; (focus (intro x hx; have fx := HX.out x hx; go_simp; (try with_reducible rfl); done)); (try simp only [Act.put, lsa, lsz, lss]))
                      (refine tkW 11 (v := ?_) hS ?_ ?_; rotate_left; (focus (intro x hx; have fx := HX.out x hx; go_simp; (try with_reducible rfl); done)); (try simp only [Act.put, lsa, lsz, lss]))
                      exact LEAF ⟨b0, gu, gf, A7, c7, D1, j1, f1, D2, j2, f2, D3, j3, f3, D4, j4, f4, D5, j5, f5⟩ X62 _ _ ⟨hS, HU, HF, HUn, HFn, HD⟩ (by kernel_rfl) (by simp only [setAll, List.foldl, List.setIfInBounds_toArray, List.set_cons_zero, List.set_cons_succ])
                  case n1_13 =>
                    intro K' hK'
                    go_simp
                    have hbA : Below X0.heap.size X0 (X0.alloc (.cells #[.int .i64 0, .int .i64 0, .int .i64 0, .string ⟨#[]⟩, .int .i64 0] 40)) := boxed
                    have hnew := blkAt X0 (.cells #[.int .i64 0, .int .i64 0, .int .i64 0, .string ⟨#[]⟩, .int .i64 0] 40) rfl
                    have hSn := hS.trans (hbA.mono hS.size)
                    have hzn := Lib.hid (Nat.le_trans HZ.out hbA.size)
                    refine hK'.out _ _ hSn ?_
                    clear hK' K'
                    replace HO := Lib.hid (HO.out.below hbA)
                    have HFn := HZ
                    have HF := Lib.hid hnew
                    clear hS HZ hbA hnew
                    have hS := hSn; have HZ := hzn
                    clear hSn hzn
                    generalize X0.alloc (.cells #[.int .i64 0, .int .i64 0, .int .i64 0, .string ⟨#[]⟩, .int .i64 0] 40) = X63 at *
                    generalize X0.heap.size = gf at *
                    refine wpAnyH_two 6 12 (by kernel_rfl) rfl rfl ?n64_6 ?n64_12
                    case n64_6 =>
                      intro K' hK'
                      go_simp
                      have hbA : Below X63.heap.size X63 (X63.alloc (.cells #[.string ⟨fg.toArray⟩] 9)) := boxed
                      have hnew := blkAt X63 (.cells #[.string ⟨fg.toArray⟩] 9) rfl
                      have hSn := hS.trans (hbA.mono hS.size)
                      have hzn := Lib.hid (Nat.le_trans HZ.out hbA.size)
                      refine hK'.out _ _ hSn ?_
                      clear hK' K'
                      replace HF := Lib.hid (keptBlk hbA HF.out)
                      replace HO := Lib.hid (HO.out.below hbA)
                      have HB0n := HZ
                      have HB0 := Lib.hid hnew
                      clear hS HZ hbA hnew
                      have hS := hSn; have HZ := hzn
                      clear hSn hzn
                      generalize X63.alloc (.cells #[.string ⟨fg.toArray⟩] 9) = X65 at *
                      generalize X63.heap.size = b0 at *
                      refine wpAnyH_two 7 12 (by kernel_rfl) rfl rfl ?n66_7 ?n66_12
                      case n66_7 =>
                        intro K' hK'
                        refine step_app1 (T := fun _ => False) (base := w3.heap.size) (xs := fl.reverse) rfl _ _ eltStr rfl (by decide) rfl rfl (by simp) HO.out rfl [.string ⟨fg.toArray⟩] fg HB0.out rfl rfl (by rw [List.length_reverse]; omega) (by rw [List.length_reverse]; omega) hS.size ?_
                        intro A7 c7 X67 hown hg hat
                        have hSn := hS.grown hg hS.size (fun k hk => (HO.out.lt k hk).1)
                        have hzn := Lib.hid (Nat.le_trans HZ.out hg.size)
                        have HC := Lib.hid ((hown.sl (by decide)).any.cast (n' := fl.length + 1) (by simp))
                        refine hK'.out _ _ hSn ?_
                        clear hK' K'
                        replace HF := Lib.hid (grownBlk hg HF.out (fun q => by have := HAB.out _ q; have := HFn.out; omega))
                        clear hS HZ hown hg hat HO HB0 HB0n
                        have hS := hSn; have HZ := hzn
                        clear hSn hzn
                        refine wpAnyH_two 8 12 (by kernel_rfl) rfl rfl ?n68_8 ?n68_12
                        case n68_8 =>
                          intro K' hK'
                          go_simp
                          refine (HSC2.out _ _ _ hS HC.out).mono ?_
                          rintro e X69 ⟨VV, rfl, hVV, hbC⟩
                          obtain ⟨D1, j1, f1, D2, j2, f2, D3, j3, f3, D4, j4, f4, D5, j5, f5, rfl, hVV⟩ := hVV
                          have HD : Hid (VUnt X69 (.agg #[.string ⟨y.path.toArray⟩, .slice D1 j1 f1, .slice D2 j2 f2, .slice D3 j3 f3, .slice D4 j4 f4, .slice D5 j5 f5]) y) := Lib.hid ⟨D1, j1, f1, D2, j2, f2, D3, j3, f3, D4, j4, f4, D5, j5, f5, rfl, hVV⟩
                          have hSn := hS.trans (hbC.mono hS.size)
                          have hzn := Lib.hid (Nat.le_trans HZ.out hbC.size)
                          refine hK'.out _ _ hSn ?_
                          clear hK' K'
                          replace HF := Lib.hid (keptBlk hbC HF.out)
                          clear hS HZ hbC hVV HC
                          have hS := hSn; have HZ := hzn
                          clear hSn hzn
                          (refine tkW 9 (v := ?_) hS ?_ ?_; rotate_left; (focus (intro x hx; have fx := HX.out x hx; go_simp; (try with_reducible rfl); done)); (try simp only [Act.put, lsa, lsz, lss]))
                          (refine tkW 10 (v := ?_) hS ?_ ?_; rotate_left; (focus (intro x hx; have fx := HX.out x hx; go_simp; (try with_reducible rfl); done)); (try simp only [Act.put, lsa, lsz, lss]))
                          (refine tkW 11 (v := ?_) hS ?_ ?_; rotate_left; (focus (intro x hx; have fx := HX.out x hx; go_simp; (try with_reducible rfl); done)); (try simp only [Act.put, lsa, lsz, lss]))
                          refine wpAnyH_one 12 (by kernel_rfl) rfl ?_
                          intro K' hK'
                          go_simp
                          have hbA : Below X69.heap.size X69 (X69.alloc (.cells #[.string ⟨#[]⟩, .slice none 0 0, .slice none 0 0, .slice none 0 0, .slice none 0 0, .slice none 0 0] 36)) := boxed
                          have hnew := blkAt X69 (.cells #[.string ⟨#[]⟩, .slice none 0 0, .slice none 0 0, .slice none 0 0, .slice none 0 0, .slice none 0 0] 36) rfl
                          have hSn := hS.trans (hbA.mono hS.size)
                          have hzn := Lib.hid (Nat.le_trans HZ.out hbA.size)
                          refine hK'.out _ _ hSn ?_
                          clear hK' K'
                          replace HF := Lib.hid (keptBlk hbA HF.out)
                          replace HD := Lib.hid (HD.out.below hbA)
                          have HUn := HZ
                          have HU := Lib.hid hnew
                          clear hS HZ hbA hnew
                          have hS := hSn; have HZ := hzn
                          clear hSn hzn
                          generalize X69.alloc (.cells #[.string ⟨#[]⟩, .slice none 0 0, .slice none 0 0, .slice none 0 0, .slice none 0 0, .slice none 0 0] 36) = X70 at *
                          generalize X69.heap.size = gu at *
                          exact LEAF ⟨b0, gu, gf, A7, c7, D1, j1, f1, D2, j2, f2, D3, j3, f3, D4, j4, f4, D5, j5, f5⟩ X70 _ _ ⟨hS, HU, HF, HUn, HFn, HD⟩ (by kernel_rfl) (by simp only [setAll, List.foldl, List.setIfInBounds_toArray, List.set_cons_zero, List.set_cons_succ])
                        case n68_12 =>
                          intro K' hK'
                          go_simp
                          have hbA : Below X67.heap.size X67 (X67.alloc (.cells #[.string ⟨#[]⟩, .slice none 0 0, .slice none 0 0, .slice none 0 0, .slice none 0 0, .slice none 0 0] 36)) := boxed
                          have hnew := blkAt X67 (.cells #[.string ⟨#[]⟩, .slice none 0 0, .slice none 0 0, .slice none 0 0, .slice none 0 0, .slice none 0 0] 36) rfl
                          have hSn := hS.trans (hbA.mono hS.size)
                          have hzn := Lib.hid (Nat.le_trans HZ.out hbA.size)
                          refine hK'.out _ _ hSn ?_
                          clear hK' K'
                          replace HF := Lib.hid (keptBlk hbA HF.out)
                          replace HC := Lib.hid (HC.out.below hbA)
                          have HUn := HZ
                          have HU := Lib.hid hnew
                          clear hS HZ hbA hnew
                          have hS := hSn; have HZ := hzn
                          clear hSn hzn
                          generalize X67.alloc (.cells #[.string ⟨#[]⟩, .slice none 0 0, .slice none 0 0, .slice none 0 0, .slice none 0 0, .slice none 0 0] 36) = X71 at *
                          generalize X67.heap.size = gu at *
                          refine wpAnyH_one 8 (by kernel_rfl) rfl ?_
                          intro K' hK'
                          go_simp
                          refine (HSC2.out _ _ _ hS HC.out).mono ?_
                          rintro e X72 ⟨VV, rfl, hVV, hbC⟩
                          obtain ⟨D1, j1, f1, D2, j2, f2, D3, j3, f3, D4, j4, f4, D5, j5, f5, rfl, hVV⟩ := hVV
                          have HD : Hid (VUnt X72 (.agg #[.string ⟨y.path.toArray⟩, .slice D1 j1 f1, .slice D2 j2 f2, .slice D3 j3 f3, .slice D4 j4 f4, .slice D5 j5 f5]) y) := Lib.hid ⟨D1, j1, f1, D2, j2, f2, D3, j3, f3, D4, j4, f4, D5, j5, f5, rfl, hVV⟩
                          have hSn := hS.trans (hbC.mono hS.size)
                          have hzn := Lib.hid (Nat.le_trans HZ.out hbC.size)
                          refine hK'.out _ _ hSn ?_
                          clear hK' K'
                          replace HU := Lib.hid (keptBlk hbC HU.out)
                          replace HF := Lib.hid (keptBlk hbC HF.out)
                          clear hS HZ hbC hVV HC
                          have hS := hSn; have HZ := hzn
                          clear hSn hzn
                          (refine tkW 9 (v := ?_) hS ?_ ?_; rotate_left; (focus (intro x hx; have fx := HX.out x hx; go_simp; (try with_reducible rfl); done)); (try simp only [Act.put, lsa, lsz, lss]))
                          (refine tkW 10 (v := ?_) hS ?_ ?_; rotate_left; (focus (intro x hx; have fx := HX.out x hx; go_simp; (try with_reducible rfl); done)); (try simp only [Act.put, lsa, lsz, lss]))
                          (refine tkW 11 (v := ?_) hS ?_ ?_; rotate_left; (focus (intro x hx; have fx := HX.out x hx; go_simp; (try with_reducible rfl); done)); (try simp only [Act.put, lsa, lsz, lss]))
                          exact LEAF ⟨b0, gu, gf, A7, c7, D1, j1, f1, D2, j2, f2, D3, j3, f3, D4, j4, f4, D5, j5, f5⟩ X72 _ _ ⟨hS, HU, HF, HUn, HFn, HD⟩ (by kernel_rfl) (by simp only [setAll, List.foldl, List.setIfInBounds_toArray, List.set_cons_zero, List.set_cons_succ])
                      case n66_12 =>
                        intro K' hK'
                        go_simp
                        have hbA : Below X65.heap.size X65 (X65.alloc (.cells #[.string ⟨#[]⟩, .slice none 0 0, .slice none 0 0, .slice none 0 0, .slice none 0 0, .slice none 0 0] 36)) := boxed
                        have hnew := blkAt X65 (.cells #[.string ⟨#[]⟩, .slice none 0 0, .slice none 0 0, .slice none 0 0, .slice none 0 0, .slice none 0 0] 36) rfl
                        have hSn := hS.trans (hbA.mono hS.size)
                        have hzn := Lib.hid (Nat.le_trans HZ.out hbA.size)
                        refine hK'.out _ _ hSn ?_
                        clear hK' K'
                        replace HF := Lib.hid (keptBlk hbA HF.out)
                        replace HO := Lib.hid (HO.out.below hbA)
                        replace HB0 := Lib.hid (keptBlk hbA HB0.out)
                        have HUn := HZ
                        have HU := Lib.hid hnew
                        clear hS HZ hbA hnew
                        have hS := hSn; have HZ := hzn
                        clear hSn hzn
                        generalize X65.alloc (.cells #[.string ⟨#[]⟩, .slice none 0 0, .slice none 0 0, .slice none 0 0, .slice none 0 0, .slice none 0 0] 36) = X73 at *
                        generalize X65.heap.size = gu at *
                        refine wpAnyH_one 7 (by kernel_rfl) rfl ?_
                        intro K' hK'
                        refine step_app1 (T := fun _ => False) (base := w3.heap.size) (xs := fl.reverse) rfl _ _ eltStr rfl (by decide) rfl rfl (by simp) HO.out rfl [.string ⟨fg.toArray⟩] fg HB0.out rfl rfl (by rw [List.length_reverse]; omega) (by rw [List.length_reverse]; omega) hS.size ?_
                        intro A7 c7 X74 hown hg hat
                        have hSn := hS.grown hg hS.size (fun k hk => (HO.out.lt k hk).1)
                        have hzn := Lib.hid (Nat.le_trans HZ.out hg.size)
                        have HC := Lib.hid ((hown.sl (by decide)).any.cast (n' := fl.length + 1) (by simp))
                        refine hK'.out _ _ hSn ?_
                        clear hK' K'
                        replace HU := Lib.hid (grownBlk hg HU.out (fun q => by have := HAB.out _ q; have := HUn.out; omega))
                        replace HF := Lib.hid (grownBlk hg HF.out (fun q => by have := HAB.out _ q; have := HFn.out; omega))
                        clear hS HZ hown hg hat HO HB0 HB0n
                        have hS := hSn; have HZ := hzn
                        clear hSn hzn
                        refine wpAnyH_one 8 (by kernel_rfl) rfl ?_
                        intro K' hK'
                        go_simp
                        refine (HSC2.out _ _ _ hS HC.out).mono ?_
                        rintro e X75 ⟨VV, rfl, hVV, hbC⟩
                        obtain ⟨D1, j1, f1, D2, j2, f2, D3, j3, f3, D4, j4, f4, D5, j5, f5, rfl, hVV⟩ := hVV
                        have HD : Hid (VUnt X75 (.agg #[.string ⟨y.path.toArray⟩, .slice D1 j1 f1, .slice D2 j2 f2, .slice D3 j3 f3, .slice D4 j4 f4, .slice D5 j5 f5]) y) := Lib.hid ⟨D1, j1, f1, D2, j2, f2, D3, j3, f3, D4, j4, f4, D5, j5, f5, rfl, hVV⟩
                        have hSn := hS.trans (hbC.mono hS.size)
                        have hzn := Lib.hid (Nat.le_trans HZ.out hbC.size)
                        refine hK'.out _ _ hSn ?_
                        clear hK' K'
                        replace HU := Lib.hid (keptBlk hbC HU.out)
                        replace HF := Lib.hid (keptBlk hbC HF.out)
                        clear hS HZ hbC hVV HC
                        have hS := hSn; have HZ := hzn
                        clear hSn hzn
                        (refine tkW 9 (v := ?_) hS ?_ ?_; rotate_left; (focus (intro x hx; have fx := HX.out x hx; go_simp; (try with_reducible rfl); done)); (try simp only [Act.put, lsa, lsz, lss]))
                        (refine tkW 10 (v := ?_) hS ?_ ?_; rotate_left; (focus (intro x hx; have fx := HX.out x hx; go_simp; (try with_reducible rfl); done)); (try simp only [Act.put, lsa, lsz, lss]))
                        (refine tkW 11 (v := ?_) hS ?_ ?_; rotate_left; (focus (intro x hx; have fx := HX.out x hx; go_simp; (try with_reducible rfl); done)); (try simp only [Act.put, lsa, lsz, lss]))
                        exact LEAF ⟨b0, gu, gf, A7, c7, D1, j1, f1, D2, j2, f2, D3, j3, f3, D4, j4, f4, D5, j5, f5⟩ X75 _ _ ⟨hS, HU, HF, HUn, HFn, HD⟩ (by kernel_rfl) (by simp only [setAll, List.foldl, List.setIfInBounds_toArray, List.set_cons_zero, List.set_cons_succ])
                    case n64_12 =>
                      intro K' hK'
                      go_simp
                      have hbA : Below X63.heap.size X63 (X63.alloc (.cells #[.string ⟨#[]⟩, .slice none 0 0, .slice none 0 0, .slice none 0 0, .slice none 0 0, .slice none 0 0] 36)) := boxed
                      have hnew := blkAt X63 (.cells #[.string ⟨#[]⟩, .slice none 0 0, .slice none 0 0, .slice none 0 0, .slice none 0 0, .slice none 0 0] 36) rfl
                      have hSn := hS.trans (hbA.mono hS.size)
                      have hzn := Lib.hid (Nat.le_trans HZ.out hbA.size)
                      refine hK'.out _ _ hSn ?_
                      clear hK' K'
                      replace HF := Lib.hid (keptBlk hbA HF.out)
                      replace HO := Lib.hid (HO.out.below hbA)
                      have HUn := HZ
                      have HU := Lib.hid hnew
                      clear hS HZ hbA hnew
                      have hS := hSn; have HZ := hzn
                      clear hSn hzn
                      generalize X63.alloc (.cells #[.string ⟨#[]⟩, .slice none 0 0, .slice none 0 0, .slice none 0 0, .slice none 0 0, .slice none 0 0] 36) = X76 at *
                      generalize X63.heap.size = gu at *
                      refine wpAnyH_one 6 (by kernel_rfl) rfl ?_
                      intro K' hK'
                      go_simp
                      have hbA : Below X76.heap.size X76 (X76.alloc (.cells #[.string ⟨fg.toArray⟩] 9)) := boxed
                      have hnew := blkAt X76 (.cells #[.string ⟨fg.toArray⟩] 9) rfl
                      have hSn := hS.trans (hbA.mono hS.size)
                      have hzn := Lib.hid (Nat.le_trans HZ.out hbA.size)
                      refine hK'.out _ _ hSn ?_
                      clear hK' K'
                      replace HU := Lib.hid (keptBlk hbA HU.out)
                      replace HF := Lib.hid (keptBlk hbA HF.out)
                      replace HO := Lib.hid (HO.out.below hbA)
                      have HB0n := HZ
                      have HB0 := Lib.hid hnew
                      clear hS HZ hbA hnew
                      have hS := hSn; have HZ := hzn
                      clear hSn hzn
                      generalize X76.alloc (.cells #[.string ⟨fg.toArray⟩] 9) = X77 at *
                      generalize X76.heap.size = b0 at *
                      refine wpAnyH_one 7 (by kernel_rfl) rfl ?_
                      intro K' hK'
                      refine step_app1 (T := fun _ => False) (base := w3.heap.size) (xs := fl.reverse) rfl _ _ eltStr rfl (by decide) rfl rfl (by simp) HO.out rfl [.string ⟨fg.toArray⟩] fg HB0.out rfl rfl (by rw [List.length_reverse]; omega) (by rw [List.length_reverse]; omega) hS.size ?_
                      intro A7 c7 X78 hown hg hat
                      have hSn := hS.grown hg hS.size (fun k hk => (HO.out.lt k hk).1)
                      have hzn := Lib.hid (Nat.le_trans HZ.out hg.size)
                      have HC := Lib.hid ((hown.sl (by decide)).any.cast (n' := fl.length + 1) (by simp))
                      refine hK'.out _ _ hSn ?_
                      clear hK' K'
                      replace HU := Lib.hid (grownBlk hg HU.out (fun q => by have := HAB.out _ q; have := HUn.out; omega))
                      replace HF := Lib.hid (grownBlk hg HF.out (fun q => by have := HAB.out _ q; have := HFn.out; omega))
                      clear hS HZ hown hg hat HO HB0 HB0n
                      have hS := hSn; have HZ := hzn
                      clear hSn hzn
                      refine wpAnyH_one 8 (by kernel_rfl) rfl ?_
                      intro K' hK'
                      go_simp
                      refine (HSC2.out _ _ _ hS HC.out).mono ?_
                      rintro e X79 ⟨VV, rfl, hVV, hbC⟩
                      obtain ⟨D1, j1, f1, D2, j2, f2, D3, j3, f3, D4, j4, f4, D5, j5, f5, rfl, hVV⟩ := hVV
                      have HD : Hid (VUnt X79 (.agg #[.string ⟨y.path.toArray⟩, .slice D1 j1 f1, .slice D2 j2 f2, .slice D3 j3 f3, .slice D4 j4 f4, .slice D5 j5 f5]) y) := Lib.hid ⟨D1, j1, f1, D2, j2, f2, D3, j3, f3, D4, j4, f4, D5, j5, f5, rfl, hVV⟩
                      have hSn := hS.trans (hbC.mono hS.size)
                      have hzn := Lib.hid (Nat.le_trans HZ.out hbC.size)
                      refine hK'.out _ _ hSn ?_
                      clear hK' K'
                      replace HU := Lib.hid (keptBlk hbC HU.out)
                      replace HF := Lib.hid (keptBlk hbC HF.out)
                      clear hS HZ hbC hVV HC
                      have hS := hSn; have HZ := hzn
                      clear hSn hzn
                      (refine tkW 9 (v := ?_) hS ?_ ?_; rotate_left; (focus (intro x hx; have fx := HX.out x hx; go_simp; (try with_reducible rfl); done)); (try simp only [Act.put, lsa, lsz, lss]))
                      (refine tkW 10 (v := ?_) hS ?_ ?_; rotate_left; (focus (intro x hx; have fx := HX.out x hx; go_simp; (try with_reducible rfl); done)); (try simp only [Act.put, lsa, lsz, lss]))
                      (refine tkW 11 (v := ?_) hS ?_ ?_; rotate_left; (focus (intro x hx; have fx := HX.out x hx; go_simp; (try with_reducible rfl); done)); (try simp only [Act.put, lsa, lsz, lss]))
                      exact LEAF ⟨b0, gu, gf, A7, c7, D1, j1, f1, D2, j2, f2, D3, j3, f3, D4, j4, f4, D5, j5, f5⟩ X79 _ _ ⟨hS, HU, HF, HUn, HFn, HD⟩ (by kernel_rfl) (by simp only [setAll, List.foldl, List.setIfInBounds_toArray, List.set_cons_zero, List.set_cons_succ])
              case rest =>
                obtain ⟨gu, gf, D1, j1, f1, D2, j2, f2, D3, j3, f3, D4, j4, f4, D5, j5, f5, rfl, rfl, hgu3, hu, hf, hb, h5⟩ := hcut
                have HBc := Lib.hid hb; have HUc := Lib.hid hu; have H5 := Lib.hid h5
                have y0 := (cell_blk hf 0).trans rfl
                clear hu hf hb h5 hb39 HO9 HW9 HV9 HSC2 HUNY
                rcases HFL3.out with he | ⟨he, hy⟩
                · have he : ye = 2 := he
                  subst he
                  go_wp2_with fail
                  go_ret
                  exact ⟨rfl, HB3.out.trans (HBc.out.mono HB3.out.size)⟩
                · have he : ye = 0 := he
                  subst he
                  have hj1 := H5.out.1.len
                  have hfb : y.flags.length ≤ 21 := by
                    have h1 := roles_law (t := t) (p := p) (fl := fl.reverse ++ [fg]) (u := y) (f := ⟨0, yk, ys, ⟨ylp, yln⟩⟩) HXY.out.symm rfl
                    have h2 := nodup_sub_len y.flags (fl.reverse ++ [fg]) (srt_nodup strS h1.2.2.2.2.2.2.2) (fun q hq => by
                      have h3 := scan_flags t p (fl.reverse ++ [fg]) q
                      rw [← HXY.out] at h3
                      exact h3 hq)
                    simp at h2
                    omega
                  have HY := Lib.hid hy
                  have hcl := cloneO_any D1 j1 f1 wc _ y.flags H5.out.1 (by omega)
                  have HCL := Lib.hid hcl
                  have v1 := (cell_blk HUc.out 1).trans rfl
                  have hgul : gu < wc.heap.size := (Array.getElem?_eq_some_iff.1 HUc.out).1
                  clear hcl hy hfb hj1
                  go_wp2_with fail
                  refine HCL.out.mono ?_
                  rintro e wd ⟨Ad, cd, rfl, hod, hbd⟩
                  have HOd := Lib.hid hod; have HBd := Lib.hid hbd
                  have hde := delB_any Ad cd y.flags wd _ hod 34 #[.pointer (some ⟨w.heap.size + 1, 0, none⟩)] (fun _ _ => by kernel_rfl) (fun s => s == fg) (fun x w1 hg => flags2_any w1 x fg (w.heap.size + 1) ((cell_blk (grownBlk hg (keptBlk hbd (HW3.out.below HBc.out).bf) (fun q => by have h1 := (hod.lt _ q).1; have h2 := (Array.getElem?_eq_some_iff.1 (HW3.out.below HBc.out).bf).1; omega)) 0).trans rfl))
                  have HDE := Lib.hid hde
                  clear hde hod hbd v1 y0 HCL
                  go_wp2_with fail
                  refine HDE.out.mono ?_
                  rintro e we ⟨rfl, hoe, hge⟩
                  have hbce : Below wc.heap.size wc we := HBd.out.grown hge HBd.out.size (fun k hk => (HOd.out.lt k hk).1)
                  have hue := keptBlk hbce HUc.out
                  have hue1 := (cell_blk hue 1).trans rfl; have hzu1 := frz_blk hue 1
                  have hoe2 := (hoe.sl (by decide)).wide (S' := fun k => wc.heap.size ≤ k) (fun k _ hk => hk.elim False.elim (fun hk => (hoe.lt k hk).1)) (by decide)
                  generalize hfil : (y.flags.filter fun x => !(x == fg)) = yf at *
                  have HFIL := Lib.hid hfil; have HOE := Lib.hid hoe2; have HUE := Lib.hid hue; have HBCE := Lib.hid hbce
                  clear hoe hge hoe2 hue hbce hfil HDE HOd HBd
                  go_upto_region 17 with fail
                  have hb17 : Below w3.heap.size w3 (we.setCell ⟨gu, 1, none⟩ (.slice Ad yf.length cd)) := (HBc.out.trans (HBCE.out.mono HBc.out.size)).setCell (p := ⟨gu, 1, none⟩) hgu3 _
                  have hu17 := Blk.set we HUE.out 1 (.slice Ad yf.length cd)
                  have hk17 : ∀ k, k ≠ gu → (we.setCell ⟨gu, 1, none⟩ (.slice Ad yf.length cd)).heap[k]? = we.heap[k]? := fun k hk => set_other _ _ _ _ _ hk
                  obtain ⟨-, g2, g3, g4, g5⟩ := H5.out
                  have hV17 : VUnt (we.setCell ⟨gu, 1, none⟩ (.slice Ad yf.length cd)) (.agg #[.string ⟨y.path.toArray⟩, .slice Ad yf.length cd, .slice D2 j2 f2, .slice D3 j3 f3, .slice D4 j4 f4, .slice D5 j5 f5]) { y with flags := yf } :=
                    ⟨_, _, _, _, _, _, _, _, _, _, _, _, _, _, _, rfl, (HOE.out.keep fun k _ hk => hk17 k (by omega)).any, ((g2.below HBCE.out).keep fun k _ hk => hk17 k hk).any, ((g3.below HBCE.out).keep fun k _ hk => hk17 k hk).any, ((g4.below HBCE.out).keep fun k _ hk => hk17 k hk).any, ((g5.below HBCE.out).keep fun k _ hk => hk17 k hk).any⟩
                  rw [show ({ y with flags := yf } : Unt) = u by
                    rw [← HY.out, ← HFIL.out]
                    congr 1
                    exact List.filter_congr (fun s _ => by rw [Bool.eq_iff_iff]; simp)] at hV17
                  generalize we.setCell ⟨gu, 1, none⟩ (.slice Ad yf.length cd) = wf at *
                  have hW17 := HW3.out.below hb17
                  have q0 := (cell_blk hW17.bu 0).trans rfl; have q1 := (cell_blk hW17.bu 1).trans rfl; have q2 := (cell_blk hW17.bu 2).trans rfl; have q3 := (cell_blk hW17.bu 3).trans rfl; have q4 := (cell_blk hW17.bu 4).trans rfl; have q5 := (cell_blk hW17.bu 5).trans rfl
                  have y0 := (cell_blk hu17 0).trans rfl; have y1 := (cell_blk hu17 1).trans rfl; have y2 := (cell_blk hu17 2).trans rfl; have y3 := (cell_blk hu17 3).trans rfl; have y4 := (cell_blk hu17 4).trans rfl; have y5 := (cell_blk hu17 5).trans rfl
                  have HV17 := Lib.hid hV17; have HVu := Lib.hid (HV3.out.below hb17); have HW17 := Lib.hid hW17
                  clear hb17 hu17 hk17 g2 g3 g4 g5 hV17 hW17 hue1 hzu1
                  go_wp2_with fail
                  refine (sameU_any wf _ _ u HVu.out HV17.out).mono ?_
                  rintro e wz ⟨rfl, hbz⟩
                  have HBz := Lib.hid (HW17.out.bl.trans (hbz.mono HW17.out.bl.size))
                  clear hbz q0 q1 q2 q3 q4 q5 y0 y1 y2 y3 y4 y5
                  go_wp2_with fail
                  go_ret
                  exact ⟨rfl, HBz.out⟩
end Go.Proofs.YtpeamehplhpcjaaGreatDoor
