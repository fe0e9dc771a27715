/- A part of the proofs of the laws of one package; see the law's own text, which comes last in 'order'. No conditions of its own. -/
import Derived.Test.YtpeamehplhpcjaaGreatDoorWC15
import Derived.Test.YtpeamehplhpcjaaGreatDoorWC17
set_option linter.unusedVariables false
set_option linter.unusedSimpArgs false
namespace Go.Proofs.YtpeamehplhpcjaaGreatDoor
structure StI (s : Sst) : Prop where
  it : s.items.length ≤ 128
  ma : s.macros.length ≤ 128
  co : s.count ≤ 2048
def KeepR (s : Sst) (r : Bool × Sst) : Prop := StI r.2 ∧ r.2.opn = s.opn ∧ ∀ q ∈ r.2.flags, q ∈ s.flags
def KeepG (g : Grp) : Prop := ∀ p l fr tu s, StI s → KeepR s (g p l fr tu s)
theorem keep_fail {s : Sst} (h : StI s) (p : Bs) (n e : Int) : KeepR s (failS s p n e) := ⟨⟨h.it, h.ma, h.co⟩, rfl, fun _ h => h⟩
theorem keep_file {g : Grp} (hg : KeepG g) (p : Bs) (l : List Bs) {s : Sst} (h : StI s) : KeepR s (fileS g p l s) := by
  obtain ⟨h1, h2, h3⟩ := hg p l 0 l.length { s with files := setM s.files p true, opn := s.opn ++ [p] } ⟨h.it, h.ma, h.co⟩
  unfold fileS KeepR
  refine ⟨⟨h1.it, h1.ma, h1.co⟩, ?_, h3⟩
  simp only [h2]
  simp
def KeepN (n : Option Grp) : Prop := ∀ g, n = some g → KeepG g
theorem keep_incl (t : List Fil) {nest : Option Grp} (hn : KeepN nest) (p : Bs) (n : Int) (ref : Bs) {s : Sst} (h : StI s) : KeepR s (inclS t nest p n ref s) := by
  unfold inclS
  simp only
  split
  · exact keep_fail h _ _ _
  · split
    · exact keep_fail h _ _ _
    · split
      · exact keep_fail h _ _ _
      · split
        · exact keep_fail h _ _ _
        · split
          · exact keep_fail h _ _ _
          · rename_i g
            exact keep_file (hn g rfl) _ _ h
theorem keep_item (p : Bs) (n : Int) (x : Itm) {s : Sst} (h : StI s) : KeepR s (itemS p n x s) := by
  unfold itemS
  split
  · exact keep_fail h _ _ _
  · split
    · exact keep_fail h _ _ _
    · have := h.it
      exact ⟨⟨by simp; omega, h.ma, h.co⟩, rfl, fun _ h => h⟩
theorem len_delM {κ ν : Type} [DecidableEq κ] (m : List (κ × ν)) (k : κ) : (delM m k).length ≤ m.length := by
  unfold delM; exact List.length_filter_le _ _
theorem keep_head (t : List Fil) {nest : Option Grp} (hn : KeepN nest) (p : Bs) (l : List Bs) (i : Nat) (x : Hd) {s : Sst} (h : StI s) : KeepR s (doHead t nest p l i x s) := by
  have hm := h.ma
  unfold doHead
  simp only
  split
  · exact keep_incl t hn _ _ _ h
  · split
    · split
      · exact keep_fail h _ _ _
      · split
        · exact keep_fail h _ _ _
        · have := len_setM s.macros x.name ⟨x.name, x.params, ⟨p, (i : Int) + 1, (i : Int) + 1 + x.n⟩⟩
          exact ⟨⟨h.it, by show (setM s.macros x.name _).length ≤ 128; omega, h.co⟩, rfl, fun _ h => h⟩
    · split
      · split
        · have := len_delM s.macros x.name
          exact ⟨⟨h.it, by show (delM s.macros x.name).length ≤ 128; omega, h.co⟩, rfl, fun _ h => (List.mem_filter.1 h).1⟩
        · exact keep_fail h _ _ _
      · split
        · split
          · exact ⟨h, rfl, fun _ h => h⟩
          · split
            · exact keep_fail h _ _ _
            · rename_i g
              exact hn g rfl _ _ _ _ _ h
        · split
          · exact keep_item _ _ _ h
          · split
            · exact keep_item _ _ _ h
            · split
              · exact keep_item _ _ _ h
              · exact ⟨h, rfl, fun _ h => h⟩
theorem keep_loop (t : List Fil) {nest : Option Grp} (hn : KeepN nest) (p : Bs) (l : List Bs) (tu : Nat) : ∀ f i (s : Sst), StI s → KeepR s (loopS t nest p l tu f i s) := by
  intro f
  induction f with
  | zero => intro i s h; exact ⟨h, rfl, fun _ h => h⟩
  | succ f ih =>
    intro i s h
    unfold loopS
    split
    · exact ⟨h, rfl, fun _ h => h⟩
    · split
      · exact keep_fail h _ _ _
      · have hc := h.co
        have h2 : StI { s with count := s.count + 1, heads := setM s.heads ⟨p, i⟩ true } := ⟨h.it, h.ma, by show s.count + 1 ≤ 2048; omega⟩
        simp only
        split
        · exact keep_fail h2 _ _ _
        · split
          · exact keep_fail h2 _ _ _
          · obtain ⟨h3, h4, h7⟩ := keep_head t hn p l i (parseH (l.getD i [])).1 h2
            split
            · exact ⟨h3, h4, h7⟩
            · obtain ⟨h5, h6, h8⟩ := ih (i + 1 + (parseH (l.getD i [])).1.n.toNat) _ h3
              exact ⟨h5, h6.trans h4, fun q hq => h7 q (h8 q hq)⟩
theorem keep_group (t : List Fil) : ∀ d, KeepG (groupS t d) := by
  intro d
  induction d with
  | zero => intro p l fr tu s h; exact keep_loop t (fun g hg => by cases hg) p l tu _ _ s h
  | succ d ih => intro p l fr tu s h; exact keep_loop t (fun g hg => by injection hg with hg; subst hg; exact ih) p l tu _ _ s h
theorem parse_n {l : Bs} (h : (parseH l).2 = 0) : 0 ≤ (parseH l).1.n ∧ (parseH l).1.n ≤ 1024 := by
  refine ⟨(parse_ok h).1, ?_⟩
  unfold parseH at h ⊢
  split
  · decide
  · rename_i he
    rw [if_neg he] at h
    simp only at h ⊢
    split
    · decide
    · rename_i h2
      rw [if_neg h2] at h
      split
      · show (0 : Int) ≤ 1024
        decide
      · rename_i h3
        have h4 : headE (shapeS (splitS 32 l)).1 = 0 := by omega
        show (shapeS (splitS 32 l)).1.n ≤ 1024
        unfold headE at h4
        repeat (split at h4; cases h4)
        omega
end Go.Proofs.YtpeamehplhpcjaaGreatDoor
namespace Go.Proofs.YtpeamehplhpcjaaGreatDoor
open Go.RowKit
section
variable {κ : Type} [DecidableEq κ]
def vB (m : List (κ × Bool)) : List (κ × Value) := m.map fun p => (p.1, .bool p.2)
theorem hasM_cons {ν : Type} (q : κ × ν) (r : List (κ × ν)) (k : κ) : hasM (q :: r) k = (decide (q.1 = k) || hasM r k) := by
  unfold hasM
  rw [List.any_cons]
  rfl
theorem vB_set (m : List (κ × Bool)) (k : κ) (v : Bool) : setM (vB m) k (.bool v) = vB (setM m k v) := by
  induction m with
  | nil => rfl
  | cons p r ih =>
    unfold vB at ih ⊢
    rw [List.map_cons, setM, setM]
    by_cases h : p.1 = k
    · rw [if_pos h, if_pos h, List.map_cons]
    · rw [if_neg h, if_neg h, List.map_cons, ih]
theorem vB_del (m : List (κ × Bool)) (k : κ) : delM (vB m) k = vB (delM m k) := by
  unfold vB delM
  rw [List.filter_map]
  rfl
theorem vB_get (m : List (κ × Bool)) (k : κ) : getM (vB m) k = (getM m k).map .bool := by
  induction m with
  | nil => rfl
  | cons p r ih =>
    unfold vB at ih ⊢
    rw [List.map_cons, getM_cons, getM_cons, ih]
    by_cases h : p.1 = k
    · rw [if_pos h, if_pos h]; rfl
    · rw [if_neg h, if_neg h]
end
theorem vFlags_eq (m : List (Bs × Bool)) : vFlags m = vB m := rfl
theorem vHeads_eq (m : List (Ln × Bool)) : vHeads m = vB m := rfl
theorem VMacs.len {w : World} {M : Nat → Prop} : ∀ {mv : List (Bs × Value)} {ms : List (Bs × Mac)}, VMacs w M mv ms → mv.length = ms.length
  | [], [], _ => rfl
  | _ :: _, _ :: _, h => by rw [List.length_cons, List.length_cons, VMacs.len h.2.2]
  | [], _ :: _, h => h.elim
  | _ :: _, [], h => h.elim
theorem VMacs.wide {w : World} {M M' : Nat → Prop} (hM : ∀ k, k < w.heap.size → M' k → M k) : ∀ {mv : List (Bs × Value)} {ms : List (Bs × Mac)}, VMacs w M mv ms → VMacs w M' mv ms
  | [], [], _ => trivial
  | _ :: _, _ :: _, h => by
    obtain ⟨h1, ⟨A, n, c, e, hs⟩, h2⟩ := h
    exact ⟨h1, ⟨A, n, c, e, hs.wide (fun k hk hn hm => hn (hM k hk hm)) (by decide)⟩, VMacs.wide hM h2⟩
  | [], _ :: _, h => h.elim
  | _ :: _, [], h => h.elim
theorem VMacs.has {w : World} {M : Nat → Prop} (k : Bs) : ∀ {mv : List (Bs × Value)} {ms : List (Bs × Mac)}, VMacs w M mv ms → (getM mv k).isSome = hasM ms k
  | [], [], _ => rfl
  | p :: r, q :: t, h => by
    have ih := VMacs.has k h.2.2
    rw [getM_cons, h.1, hasM_cons]
    by_cases e : q.1 = k
    · rw [if_pos e]; simp [e]
    · rw [if_neg e, ih]; simp [e]
  | [], _ :: _, h => h.elim
  | _ :: _, [], h => h.elim
theorem VMacs.val {w : World} {M : Nat → Prop} (k : Bs) : ∀ {mv : List (Bs × Value)} {ms : List (Bs × Mac)}, VMacs w M mv ms → ∀ v, getM mv k = some v → ∃ x, VMac w M v x
  | [], [], _ => fun v h => by cases h
  | p :: r, q :: t, h => fun v hv => by
    rw [getM_cons] at hv
    split at hv
    · injection hv with hv; rw [← hv]; exact ⟨_, h.2.1⟩
    · exact VMacs.val k h.2.2 v hv
  | [], _ :: _, h => h.elim
  | _ :: _, [], h => h.elim
theorem VMacs.set {w : World} {M : Nat → Prop} (k : Bs) {v : Value} {x : Mac} (hv : VMac w M v x) : ∀ {mv : List (Bs × Value)} {ms : List (Bs × Mac)}, VMacs w M mv ms → VMacs w M (setM mv k v) (setM ms k x)
  | [], [], _ => ⟨rfl, hv, trivial⟩
  | p :: r, q :: t, h => by
    rw [setM, setM, h.1]
    split
    · exact ⟨rfl, hv, h.2.2⟩
    · exact ⟨h.1, h.2.1, VMacs.set k hv h.2.2⟩
  | [], _ :: _, h => h.elim
  | _ :: _, [], h => h.elim
theorem VMacs.del {w : World} {M : Nat → Prop} (k : Bs) : ∀ {mv : List (Bs × Value)} {ms : List (Bs × Mac)}, VMacs w M mv ms → VMacs w M (delM mv k) (delM ms k)
  | [], [], _ => trivial
  | p :: r, q :: t, h => by
    have ih := VMacs.del k h.2.2
    unfold delM at ih ⊢
    rw [List.filter_cons, List.filter_cons, h.1]
    split
    · exact ⟨h.1, h.2.1, ih⟩
    · exact ih
  | [], _ :: _, h => h.elim
  | _ :: _, [], h => h.elim
def ScW (W : World) (M : Nat → Prop) (B g : Nat) (t : List Fil) (s : Sst) : Prop := ∃ tA tn tc mf mm mh ml iA ic oA oc mv, ScB W M B g tA tn tc mf mm mh ml iA ic oA oc mv t s
def ScR (W : World) (M : Nat → Prop) (B g : Nat) (t : List Fil) (r : Bool × Sst) (e : Ending) (w' : World) : Prop := e = .returned (.bool r.1) ∧ ∃ M', ScW w' M' B g t r.2 ∧ ScOut W M w' M'
theorem ScOut.refl (W : World) (M : Nat → Prop) : ScOut W M W M := ⟨fun _ h => .inl h, Frm.refl _ _⟩
theorem ScOut.trans {W W1 W2 : World} {M M1 M2 : Nat → Prop} (h : ScOut W M W1 M1) (k : ScOut W1 M1 W2 M2) : ScOut W M W2 M2 := by
  refine ⟨fun i hi => ?_, h.2.transM k.2 fun i hi hm => (h.1 i hm).elim id (fun hh => absurd hi (by omega))⟩
  rcases k.1 i hi with hi | hi
  · exact h.1 i hi
  · exact .inr (Nat.le_trans h.2.size hi)
theorem ScOut.below {W W1 : World} (M : Nat → Prop) (h : Below W.heap.size W W1) : ScOut W M W1 M := ⟨fun _ h => .inl h, Frm.any h⟩
theorem ScOut.blk {W W1 : World} {M M1 : Nat → Prop} (h : ScOut W M W1 M1) {b : Nat} {x : Obj} (hb : W.heap[b]? = some x) (hM : ¬ M b) : W1.heap[b]? = some x := by
  rw [h.2.block b (Array.getElem?_eq_some_iff.1 hb).1 hM, hb]
theorem ScOut.sl {α : Type} [GoT α] {W W1 : World} {M M1 : Nat → Prop} (h : ScOut W M W1 M1) {S : Nat → Prop} {A : Option Addr} {n c : Nat} {xs : List α} (hs : Sl W S A n c xs) (hM : ∀ k, S k → ¬ M k) : Sl W1 S A n c xs := hs.frm h.2 hM
theorem ScB.maps {W W' : World} {M : Nat → Prop} {B g : Nat} {tA : Option Addr} {tn tc mf mm mh ml : Nat} {iA : Option Addr} {ic : Nat} {oA : Option Addr} {oc : Nat} {mv mv' : List (Bs × Value)} {t : List Fil} {s s' : Sst}
    (H : ScB W M B g tA tn tc mf mm mh ml iA ic oA oc mv t s) (hit : s'.items = s.items) (hop : s'.opn = s.opn)
    (hc : W'.heap[g]? = some (.cells (scC tA tn tc mf mm iA ic mh ml oA oc s') 96 (0, 0)))
    (hfl : MapV TS W' mf (vFlags s'.flags)) (hmv : MapV TS W' mm mv') (hma : VMacs W' M mv' s'.macros) (hhd : MapV TLn W' mh (vHeads s'.heads)) (hfi : MapV TS W' ml (vFlags s'.files))
    (hk : ∀ k, k < W.heap.size → (¬ M k ∨ iA.map Addr.block = some k ∨ oA.map Addr.block = some k) → W'.heap[k]? = W.heap[k]?) (hz : W.heap.size ≤ W'.heap.size) :
    ScB W' M B g tA tn tc mf mm mh ml iA ic oA oc mv' t s' where
  cells := hc
  tree := H.tree.keep fun k hk' hb => hk k hk' (.inl fun hm => by have := H.old k hm; have hb : k < B := hb; omega)
  flags := hfl
  mval := hmv
  macs := hma
  items := by
    rw [hit]
    exact H.items.keep fun k hk' hb => hk k hk' (by rcases hb with hb | hb; exact .inl hb; exact .inr (.inl hb))
  heads := hhd
  files := hfi
  opn := by
    rw [hop]
    exact H.opn.keep fun k hk' hb => hk k hk' (by rcases hb with hb | hb; exact hb.elim; exact .inr (.inr hb))
  own := H.own
  old := H.old
  lt := fun k hk => Nat.lt_of_lt_of_le (H.lt k hk) hz
  dif := H.dif
  difi := H.difi
  difo := H.difo
theorem ScW.below {W W' : World} {M : Nat → Prop} {B g : Nat} {t : List Fil} {s : Sst} (H : ScW W M B g t s) (hb : Below W.heap.size W W') : ScW W' M B g t s := by
  obtain ⟨tA, tn, tc, mf, mm, mh, ml, iA, ic, oA, oc, mv, H⟩ := H
  exact ⟨tA, tn, tc, mf, mm, mh, ml, iA, ic, oA, oc, mv, H.below hb⟩
theorem ScW.old {W : World} {M : Nat → Prop} {B g : Nat} {t : List Fil} {s : Sst} (H : ScW W M B g t s) : ∀ k, M k → B ≤ k ∧ k < W.heap.size := by
  obtain ⟨tA, tn, tc, mf, mm, mh, ml, iA, ic, oA, oc, mv, H⟩ := H
  exact fun k hk => ⟨H.old k hk, H.lt k hk⟩
theorem set5' (w : World) {g : Nat} {cs : Array Value} {t : TypeId} (h : w.heap[g]? = some (.cells cs t (0, 0))) (i j k l m : Nat) (a b c d e : Value) :
    (((((w.setCell ⟨g, i, none⟩ a).setCell ⟨g, j, none⟩ b).setCell ⟨g, k, none⟩ c).setCell ⟨g, l, none⟩ d).setCell ⟨g, m, none⟩ e).heap[g]? = some (.cells (((((cs.setIfInBounds i a).setIfInBounds j b).setIfInBounds k c).setIfInBounds l d).setIfInBounds m e) t (0, 0)) :=
  Blk.set _ (Blk.set _ (Blk.set _ (Blk.set _ (Blk.set _ h i a) j b) k c) l d) m e
theorem set5_other (w : World) {g : Nat} (i j k l m : Nat) (a b c d e : Value) (q : Nat) (hq : q ≠ g) :
    (((((w.setCell ⟨g, i, none⟩ a).setCell ⟨g, j, none⟩ b).setCell ⟨g, k, none⟩ c).setCell ⟨g, l, none⟩ d).setCell ⟨g, m, none⟩ e).heap[q]? = w.heap[q]? :=
  (set_other _ _ _ _ _ hq).trans ((set_other _ _ _ _ _ hq).trans ((set_other _ _ _ _ _ hq).trans ((set_other _ _ _ _ _ hq).trans (set_other _ _ _ _ _ hq))))
theorem size_set (w : World) (p : Addr) (u : Value) : (w.setCell p u).heap.size = w.heap.size := by simp [World.setCell]
theorem ScB.alloc {W : World} {M : Nat → Prop} {B g : Nat} {tA : Option Addr} {tn tc mf mm mh ml : Nat} {iA : Option Addr} {ic : Nat} {oA : Option Addr} {oc : Nat} {mv : List (Bs × Value)} {t : List Fil} {s : Sst}
    (H : ScB W M B g tA tn tc mf mm mh ml iA ic oA oc mv t s) (o : Obj) : ScB (W.alloc o) M B g tA tn tc mf mm mh ml iA ic oA oc mv t s := H.below ((Below.refl _ _).alloc (Nat.le_refl _) _)
theorem ScOut.alloc (W : World) (M : Nat → Prop) (o : Obj) : ScOut W M (W.alloc o) M := ScOut.below M ((Below.refl _ _).alloc (Nat.le_refl _) _)
set_option maxHeartbeats 800000 in
theorem fail_any (W : World) (M : Nat → Prop) (B g : Nat) (t : List Fil) (s : Sst) (H : ScW W M B g t s) (p : Bs) (n e : Int) :
    Calls Tryz.prog 113 #[.pointer (some ⟨g, 0, none⟩), .agg #[.string ⟨p.toArray⟩, .int .i64 n], .int .i64 e] W (ScR W M B g t (failS s p n e)) := by
  obtain ⟨tA, tn, tc, mf, mm, mh, ml, iA, ic, oA, oc, mv, H⟩ := H
  have hg := H.lt g (H.own g (.inl rfl))
  have HH := Lib.hid H
  clear H
  go_enter Tryz.func113, Tryz.ntmps113
  go_upto_region 1 with fail
  have H1 := HH.out.alloc (.cells #[.string ⟨p.toArray⟩, .int .i64 n] 38)
  have hb0 : Below W.heap.size W (W.alloc (.cells #[.string ⟨p.toArray⟩, .int .i64 n] 38)) := by ((repeat (first | (with_reducible exact Below.refl _ _) | (with_reducible refine belowA ?_ _) | (with_reducible refine belowD ?_) | (with_reducible refine belowS ?_ (Nat.le_refl _) _ _) | (with_reducible refine next ?_ (by assumption) (Nat.le_refl _)))); done)
  have hq := blkAt W (.cells #[.string ⟨p.toArray⟩, .int .i64 n] 38) rfl
  generalize (W.alloc (.cells #[.string ⟨p.toArray⟩, .int .i64 n] 38)) = W1 at *
  have hc1 := H1.cells
  unfold scC at hc1
  have q0 := (cell_blk hq 0).trans rfl
  have q1 := (cell_blk hq 1).trans rfl
  have c8 := (cell_blk hc1 8).trans rfl
  have c9 := (cell_blk hc1 9).trans rfl
  have c10 := (cell_blk hc1 10).trans rfl
  have c11 := (cell_blk hc1 11).trans rfl
  have c12 := (cell_blk hc1 12).trans rfl
  have f8 := frz_blk hc1 8
  have f9 := frz_blk hc1 9
  have f10 := frz_blk hc1 10
  have f11 := frz_blk hc1 11
  have f12 := frz_blk hc1 12
  have HC := Lib.hid hc1; have H2 := Lib.hid H1; have HB := Lib.hid hb0
  clear H1 hc1 hq hb0
  go_wp2_with fail
  go_ret
  refine ⟨rfl, M, ⟨tA, tn, tc, mf, mm, mh, ml, iA, ic, oA, oc, mv, H2.out.touch s.count ⟨e, -1, -1, ⟨p, n⟩⟩ (set5' _ HC.out 8 9 10 11 12 _ _ _ _ _) (fun k hk => set5_other _ 8 9 10 11 12 _ _ _ _ _ k hk) (by simp [size_set])⟩, (ScOut.below M HB.out).trans ⟨fun _ h => .inl h, ?_⟩⟩
  have hM := HH.out.own g (.inl rfl)
  exact Frm.setCell (Frm.setCell (Frm.setCell (Frm.setCell (Frm.setCell (Frm.refl _ _) (fun _ => hM) _) (fun _ => hM) _) (fun _ => hM) _) (fun _ => hM) _) (fun _ => hM) _
section
variable {κ : Type} [DecidableEq κ] {T : KeyT κ} {ops : Array Oper} {rest : List Oper} {o : Oper} {a : Act} {Q : Exit → Act → World → Prop} {w : World} {b : Nat} {m : List (κ × Value)} {t e : TypeId}
theorem wpList_lookVg (hg : Region.wanted o (yielded ops a.tmps) = true) (x y : Operand) (hop : o.op = Op.lookup t x y false) (ht : Tryz.prog.underlying t = some (.map T.K e)) {z : Value} (hz : (zeroValue e).run Tryz.prog w = .ok z w) (hx : a.eval x = .map (some b)) (k : κ) (hy : a.eval y = T.kv k) (hm : MapV T w b m) (hk : T.ok k) {r : Option Value} (hr : getM m k = r) (u : Value) (hu : r.getD z = u)
    (h : wpList Tryz.prog ops Q rest (a.put o.dst u) w) : wpList Tryz.prog ops Q (o :: rest) a w := by
  refine BigFrame.wpList_want hg fun K' hK' => ?_
  have hrun := hm.look ht hz hk false
  rw [hr, hu] at hrun
  unfold Oper.wp
  simp [execOp, hop, hx, hy, hrun, Result.andThen]
  exact hK' _ _ h
end
theorem zeroMac (w : World) : (zeroValue 63).run Tryz.prog w = .ok (.agg #[.string ⟨#[]⟩, .slice none 0 0, .string ⟨#[]⟩, .int .i64 0, .int .i64 0]) w := by kernel_rfl
theorem zeroBl (w : World) : (zeroValue 4).run Tryz.prog w = .ok (.bool false) w := by kernel_rfl
set_option maxHeartbeats 800000 in
theorem defined_any (W : World) (M : Nat → Prop) (B g : Nat) (t : List Fil) (s : Sst) (H : ScW W M B g t s) (x : Bs) (hx : x.length ≤ 4294967000) :
    Calls Tryz.prog 156 #[.pointer (some ⟨g, 0, none⟩), .string ⟨x.toArray⟩] W fun e w' => e = .returned (.bool (definedS s x)) ∧ Below W.heap.size W w' := by
  obtain ⟨tA, tn, tc, mf, mm, mh, ml, iA, ic, oA, oc, mv, H⟩ := H
  have hc := H.cells
  unfold scC at hc
  have hg := H.lt g (H.own g (.inl rfl))
  have c1 := (cell_blk hc 1).trans rfl
  have c2 := (cell_blk hc 2).trans rfl
  have hh := H.macs.has x
  have hv := H.macs.val x
  have HM := Lib.hid H.mval
  have HF := Lib.hid H.flags
  have hx2 : TS.ok x := by show x.length ≤ 9223372036854775807; omega
  have hgf := vB_get s.flags x
  have HC := Lib.hid hc
  cases hq : getM mv x with
  | some v =>
    rw [hq] at hh
    obtain ⟨y, A, n, c, rfl, -⟩ := hv v hq
    have HQ := Lib.hid hq
    have hd : definedS s x = true := by unfold definedS; rw [← hh]; rfl
    have HD := Lib.hid hd
    clear hh hv hgf hq hd H
    go_enter Tryz.func156, Tryz.ntmps156
    go_wp2_with (at_lookup; go_loud (refine wpList_lookVok rfl _ _ rfl Tryz.underlying93 (zeroMac _) rfl x rfl HM.out hx2 HQ.out (.agg #[.string ⟨y.name.toArray⟩, .slice A n c, .string ⟨y.body.path.toArray⟩, .int .i64 y.body.fr, .int .i64 y.body.tu]) rfl true rfl ?_))
    go_ret
    exact ⟨ret_bool HD.out, by ((repeat (first | (with_reducible exact Below.refl _ _) | (with_reducible refine belowA ?_ _) | (with_reducible refine belowD ?_) | (with_reducible refine belowS ?_ (Nat.le_refl _) _ _) | (with_reducible refine next ?_ (by assumption) (Nat.le_refl _)))); done)⟩
  | none =>
    rw [hq] at hh
    have hd : definedS s x = (getM s.flags x).getD false := by unfold definedS; rw [← hh]; rfl
    generalize getM s.flags x = o at *
    obtain ⟨bv, hbv⟩ : ∃ bv, bv = o.getD false := ⟨_, rfl⟩
    rw [← hbv] at hd
    have hu : (o.map Value.bool).getD (.bool false) = .bool bv := by rw [hbv]; cases o <;> rfl
    have HQ := Lib.hid hq; have HD := Lib.hid hd; have HG := Lib.hid hgf; have HU := Lib.hid hu
    clear hh hv hq hd hgf hu hbv H
    go_enter Tryz.func156, Tryz.ntmps156
    go_upto_region 2 with (at_lookup; go_loud (refine wpList_lookVok rfl _ _ rfl Tryz.underlying93 (zeroMac _) rfl x rfl HM.out hx2 HQ.out (.agg #[.string ⟨#[]⟩, .slice none 0 0, .string ⟨#[]⟩, .int .i64 0, .int .i64 0]) rfl false rfl ?_))
    have c1' := (cell_blk (blkOld HC.out (.cells #[.string ⟨#[]⟩, .slice none 0 0, .string ⟨#[]⟩, .int .i64 0, .int .i64 0] 63)) 1).trans rfl
    go_wp2_with (at_lookup; go_loud (refine wpList_lookVg (by kernel_rfl) _ _ rfl Tryz.underlying92 (zeroBl _) rfl x rfl (HF.out.alloc _) hx2 HG.out (.bool bv) HU.out ?_))
    go_ret
    exact ⟨ret_bool HD.out, by ((repeat (first | (with_reducible exact Below.refl _ _) | (with_reducible refine belowA ?_ _) | (with_reducible refine belowD ?_) | (with_reducible refine belowS ?_ (Nat.le_refl _) _ _) | (with_reducible refine next ?_ (by assumption) (Nat.le_refl _)))); done)⟩
end Go.Proofs.YtpeamehplhpcjaaGreatDoor
