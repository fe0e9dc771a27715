/- A part of the proofs of the laws of one package; see the law's own text, which comes last in 'order'. No conditions of its own. -/
import Derived.Laws.EntriesVeiled
import Derived.Test.YtpeamehplhpcjaaGreatDoorZ08
import Derived.Test.YtpeamehplhpcjaaGreatDoorZ12
import Derived.Test.YtpeamehplhpcjaaGreatDoorZ14
set_option linter.unusedVariables false
set_option linter.unusedSimpArgs false
namespace Go.Proofs.YtpeamehplhpcjaaGreatDoor
open Go.RowKit
section
variable {κ : Type} [DecidableEq κ]
def vB (m : List (κ × Bool)) : List (κ × Value) := m.map fun p => (p.1, .bool p.2)
theorem hasM_cons {ν : Type} (q : κ × ν) (r : List (κ × ν)) (k : κ) : hasM (q :: r) k = (decide (q.1 = k) || hasM r k) := by
  unfold hasM
  rw [List.any_cons]
  rfl
theorem vB_set (m : List (κ × Bool)) (k : κ) (v : Bool) : setM (vB m) k (.bool v) = vB (setM m k v) := by
  induction m with
  | nil => rfl
  | cons p r ih =>
    unfold vB at ih ⊢
    rw [List.map_cons, setM, setM]
    by_cases h : p.1 = k
    · rw [if_pos h, if_pos h, List.map_cons]
    · rw [if_neg h, if_neg h, List.map_cons, ih]
theorem vB_del (m : List (κ × Bool)) (k : κ) : delM (vB m) k = vB (delM m k) := by
  unfold vB delM
  rw [List.filter_map]
  rfl
theorem vB_get (m : List (κ × Bool)) (k : κ) : getM (vB m) k = (getM m k).map .bool := by
  induction m with
  | nil => rfl
  | cons p r ih =>
    unfold vB at ih ⊢
    rw [List.map_cons, getM_cons, getM_cons, ih]
    by_cases h : p.1 = k
    · rw [if_pos h, if_pos h]; rfl
    · rw [if_neg h, if_neg h]
end
theorem vFlags_eq (m : List (Bs × Bool)) : vFlags m = vB m := rfl
theorem vHeads_eq (m : List (Ln × Bool)) : vHeads m = vB m := rfl
theorem VMacs.len {w : World} {M : Nat → Prop} : ∀ {mv : List (Bs × Value)} {ms : List (Bs × Mac)}, VMacs w M mv ms → mv.length = ms.length
  | [], [], _ => rfl
  | _ :: _, _ :: _, h => by rw [List.length_cons, List.length_cons, VMacs.len h.2.2]
  | [], _ :: _, h => h.elim
  | _ :: _, [], h => h.elim
theorem VMacs.wide {w : World} {M M' : Nat → Prop} (hM : ∀ k, k < w.heap.size → M' k → M k) : ∀ {mv : List (Bs × Value)} {ms : List (Bs × Mac)}, VMacs w M mv ms → VMacs w M' mv ms
  | [], [], _ => trivial
  | _ :: _, _ :: _, h => by
    obtain ⟨h1, ⟨A, n, c, e, hs⟩, h2⟩ := h
    exact ⟨h1, ⟨A, n, c, e, hs.wide (fun k hk hn hm => hn (hM k hk hm)) (by decide)⟩, VMacs.wide hM h2⟩
  | [], _ :: _, h => h.elim
  | _ :: _, [], h => h.elim
theorem VMacs.has {w : World} {M : Nat → Prop} (k : Bs) : ∀ {mv : List (Bs × Value)} {ms : List (Bs × Mac)}, VMacs w M mv ms → (getM mv k).isSome = hasM ms k
  | [], [], _ => rfl
  | p :: r, q :: t, h => by
    have ih := VMacs.has k h.2.2
    rw [getM_cons, h.1, hasM_cons]
    by_cases e : q.1 = k
    · rw [if_pos e]; simp [e]
    · rw [if_neg e, ih]; simp [e]
  | [], _ :: _, h => h.elim
  | _ :: _, [], h => h.elim
theorem VMacs.val {w : World} {M : Nat → Prop} (k : Bs) : ∀ {mv : List (Bs × Value)} {ms : List (Bs × Mac)}, VMacs w M mv ms → ∀ v, getM mv k = some v → ∃ x, VMac w M v x
  | [], [], _ => fun v h => by cases h
  | p :: r, q :: t, h => fun v hv => by
    rw [getM_cons] at hv
    split at hv
    · injection hv with hv; rw [← hv]; exact ⟨_, h.2.1⟩
    · exact VMacs.val k h.2.2 v hv
  | [], _ :: _, h => h.elim
  | _ :: _, [], h => h.elim
theorem VMacs.set {w : World} {M : Nat → Prop} (k : Bs) {v : Value} {x : Mac} (hv : VMac w M v x) : ∀ {mv : List (Bs × Value)} {ms : List (Bs × Mac)}, VMacs w M mv ms → VMacs w M (setM mv k v) (setM ms k x)
  | [], [], _ => ⟨rfl, hv, trivial⟩
  | p :: r, q :: t, h => by
    rw [setM, setM, h.1]
    split
    · exact ⟨rfl, hv, h.2.2⟩
    · exact ⟨h.1, h.2.1, VMacs.set k hv h.2.2⟩
  | [], _ :: _, h => h.elim
  | _ :: _, [], h => h.elim
theorem VMacs.del {w : World} {M : Nat → Prop} (k : Bs) : ∀ {mv : List (Bs × Value)} {ms : List (Bs × Mac)}, VMacs w M mv ms → VMacs w M (delM mv k) (delM ms k)
  | [], [], _ => trivial
  | p :: r, q :: t, h => by
    have ih := VMacs.del k h.2.2
    unfold delM at ih ⊢
    rw [List.filter_cons, List.filter_cons, h.1]
    split
    · exact ⟨h.1, h.2.1, ih⟩
    · exact ih
  | [], _ :: _, h => h.elim
  | _ :: _, [], h => h.elim
def ScW (W : World) (M : Nat → Prop) (B g : Nat) (t : List Fil) (s : Sst) : Prop := ∃ tA tn tc mf mm mh ml iA ic oA oc mv, ScB W M B g tA tn tc mf mm mh ml iA ic oA oc mv t s
def ScR (W : World) (M : Nat → Prop) (B g : Nat) (t : List Fil) (r : Bool × Sst) (e : Ending) (w' : World) : Prop := e = .returned (.bool r.1) ∧ ∃ M', ScW w' M' B g t r.2 ∧ ScOut W M w' M'
theorem ScOut.refl (W : World) (M : Nat → Prop) : ScOut W M W M := ⟨fun _ h => .inl h, Frm.refl _ _⟩
theorem ScOut.trans {W W1 W2 : World} {M M1 M2 : Nat → Prop} (h : ScOut W M W1 M1) (k : ScOut W1 M1 W2 M2) : ScOut W M W2 M2 := by
  refine ⟨fun i hi => ?_, h.2.transM k.2 fun i hi hm => (h.1 i hm).elim id (fun hh => absurd hi (by omega))⟩
  rcases k.1 i hi with hi | hi
  · exact h.1 i hi
  · exact .inr (Nat.le_trans h.2.size hi)
theorem ScOut.below {W W1 : World} (M : Nat → Prop) (h : Below W.heap.size W W1) : ScOut W M W1 M := ⟨fun _ h => .inl h, Frm.any h⟩
theorem ScOut.blk {W W1 : World} {M M1 : Nat → Prop} (h : ScOut W M W1 M1) {b : Nat} {x : Obj} (hb : W.heap[b]? = some x) (hM : ¬ M b) : W1.heap[b]? = some x := by
  rw [h.2.block b (Array.getElem?_eq_some_iff.1 hb).1 hM, hb]
theorem ScOut.sl {α : Type} [GoT α] {W W1 : World} {M M1 : Nat → Prop} (h : ScOut W M W1 M1) {S : Nat → Prop} {A : Option Addr} {n c : Nat} {xs : List α} (hs : Sl W S A n c xs) (hM : ∀ k, S k → ¬ M k) : Sl W1 S A n c xs := hs.frm h.2 hM
theorem ScB.maps {W W' : World} {M : Nat → Prop} {B g : Nat} {tA : Option Addr} {tn tc mf mm mh ml : Nat} {iA : Option Addr} {ic : Nat} {oA : Option Addr} {oc : Nat} {mv mv' : List (Bs × Value)} {t : List Fil} {s s' : Sst}
    (H : ScB W M B g tA tn tc mf mm mh ml iA ic oA oc mv t s) (hit : s'.items = s.items) (hop : s'.opn = s.opn)
    (hc : W'.heap[g]? = some (.cells (scC tA tn tc mf mm iA ic mh ml oA oc s') 96 (0, 0)))
    (hfl : MapV TS W' mf (vFlags s'.flags)) (hmv : MapV TS W' mm mv') (hma : VMacs W' M mv' s'.macros) (hhd : MapV TLn W' mh (vHeads s'.heads)) (hfi : MapV TS W' ml (vFlags s'.files))
    (hk : ∀ k, k < W.heap.size → (¬ M k ∨ iA.map Addr.block = some k ∨ oA.map Addr.block = some k) → W'.heap[k]? = W.heap[k]?) (hz : W.heap.size ≤ W'.heap.size) :
    ScB W' M B g tA tn tc mf mm mh ml iA ic oA oc mv' t s' where
  cells := hc
  tree := H.tree.keep fun k hk' hb => hk k hk' (.inl fun hm => by have := H.old k hm; have hb : k < B := hb; omega)
  flags := hfl
  mval := hmv
  macs := hma
  items := by
    rw [hit]
    exact H.items.keep fun k hk' hb => hk k hk' (by rcases hb with hb | hb; exact .inl hb; exact .inr (.inl hb))
  heads := hhd
  files := hfi
  opn := by
    rw [hop]
    exact H.opn.keep fun k hk' hb => hk k hk' (by rcases hb with hb | hb; exact hb.elim; exact .inr (.inr hb))
  own := H.own
  old := H.old
  lt := fun k hk => Nat.lt_of_lt_of_le (H.lt k hk) hz
  dif := H.dif
  difi := H.difi
  difo := H.difo
theorem ScW.below {W W' : World} {M : Nat → Prop} {B g : Nat} {t : List Fil} {s : Sst} (H : ScW W M B g t s) (hb : Below W.heap.size W W') : ScW W' M B g t s := by
  obtain ⟨tA, tn, tc, mf, mm, mh, ml, iA, ic, oA, oc, mv, H⟩ := H
  exact ⟨tA, tn, tc, mf, mm, mh, ml, iA, ic, oA, oc, mv, H.below hb⟩
theorem ScW.old {W : World} {M : Nat → Prop} {B g : Nat} {t : List Fil} {s : Sst} (H : ScW W M B g t s) : ∀ k, M k → B ≤ k ∧ k < W.heap.size := by
  obtain ⟨tA, tn, tc, mf, mm, mh, ml, iA, ic, oA, oc, mv, H⟩ := H
  exact fun k hk => ⟨H.old k hk, H.lt k hk⟩
theorem set5' (w : World) {g : Nat} {cs : Array Value} {t : TypeId} (h : w.heap[g]? = some (.cells cs t (0, 0))) (i j k l m : Nat) (a b c d e : Value) :
    (((((w.setCell ⟨g, i, none⟩ a).setCell ⟨g, j, none⟩ b).setCell ⟨g, k, none⟩ c).setCell ⟨g, l, none⟩ d).setCell ⟨g, m, none⟩ e).heap[g]? = some (.cells (((((cs.setIfInBounds i a).setIfInBounds j b).setIfInBounds k c).setIfInBounds l d).setIfInBounds m e) t (0, 0)) :=
  Blk.set _ (Blk.set _ (Blk.set _ (Blk.set _ (Blk.set _ h i a) j b) k c) l d) m e
theorem set5_other (w : World) {g : Nat} (i j k l m : Nat) (a b c d e : Value) (q : Nat) (hq : q ≠ g) :
    (((((w.setCell ⟨g, i, none⟩ a).setCell ⟨g, j, none⟩ b).setCell ⟨g, k, none⟩ c).setCell ⟨g, l, none⟩ d).setCell ⟨g, m, none⟩ e).heap[q]? = w.heap[q]? :=
  (set_other _ _ _ _ _ hq).trans ((set_other _ _ _ _ _ hq).trans ((set_other _ _ _ _ _ hq).trans ((set_other _ _ _ _ _ hq).trans (set_other _ _ _ _ _ hq))))
theorem size_set (w : World) (p : Addr) (u : Value) : (w.setCell p u).heap.size = w.heap.size := by simp [World.setCell]
theorem ScB.alloc {W : World} {M : Nat → Prop} {B g : Nat} {tA : Option Addr} {tn tc mf mm mh ml : Nat} {iA : Option Addr} {ic : Nat} {oA : Option Addr} {oc : Nat} {mv : List (Bs × Value)} {t : List Fil} {s : Sst}
    (H : ScB W M B g tA tn tc mf mm mh ml iA ic oA oc mv t s) (o : Obj) : ScB (W.alloc o) M B g tA tn tc mf mm mh ml iA ic oA oc mv t s := H.below ((Below.refl _ _).alloc (Nat.le_refl _) _)
theorem ScOut.alloc (W : World) (M : Nat → Prop) (o : Obj) : ScOut W M (W.alloc o) M := ScOut.below M ((Below.refl _ _).alloc (Nat.le_refl _) _)
set_option maxHeartbeats 800000 in
theorem fail_any (W : World) (M : Nat → Prop) (B g : Nat) (t : List Fil) (s : Sst) (H : ScW W M B g t s) (p : Bs) (n e : Int) :
    Calls Tryz.prog 113 #[.pointer (some ⟨g, 0, none⟩), .agg #[.string ⟨p.toArray⟩, .int .i64 n], .int .i64 e] W (ScR W M B g t (failS s p n e)) := by
  obtain ⟨tA, tn, tc, mf, mm, mh, ml, iA, ic, oA, oc, mv, H⟩ := H
  have hg := H.lt g (H.own g (.inl rfl))
  have HH := Lib.hid H
  clear H
  go_enter Tryz.func113, Tryz.ntmps113
  go_upto_region 1 with fail
  have H1 := HH.out.alloc (.cells #[.string ⟨p.toArray⟩, .int .i64 n] 38)
  have hb0 : Below W.heap.size W (W.alloc (.cells #[.string ⟨p.toArray⟩, .int .i64 n] 38)) := by ((repeat (first | (with_reducible exact Below.refl _ _) | (with_reducible refine belowA ?_ _) | (with_reducible refine belowD ?_) | (with_reducible refine belowS ?_ (Nat.le_refl _) _ _) | (with_reducible refine next ?_ (by assumption) (Nat.le_refl _)))); done)
  have hq := blkAt W (.cells #[.string ⟨p.toArray⟩, .int .i64 n] 38) rfl
  generalize (W.alloc (.cells #[.string ⟨p.toArray⟩, .int .i64 n] 38)) = W1 at *
  have hc1 := H1.cells
  unfold scC at hc1
  have q0 := (cell_blk hq 0).trans rfl
  have q1 := (cell_blk hq 1).trans rfl
  have c8 := (cell_blk hc1 8).trans rfl
  have c9 := (cell_blk hc1 9).trans rfl
  have c10 := (cell_blk hc1 10).trans rfl
  have c11 := (cell_blk hc1 11).trans rfl
  have c12 := (cell_blk hc1 12).trans rfl
  have f8 := frz_blk hc1 8
  have f9 := frz_blk hc1 9
  have f10 := frz_blk hc1 10
  have f11 := frz_blk hc1 11
  have f12 := frz_blk hc1 12
  have HC := Lib.hid hc1; have H2 := Lib.hid H1; have HB := Lib.hid hb0
  clear H1 hc1 hq hb0
  go_wp2_with fail
  go_ret
  refine ⟨rfl, M, ⟨tA, tn, tc, mf, mm, mh, ml, iA, ic, oA, oc, mv, H2.out.touch s.count ⟨e, -1, -1, ⟨p, n⟩⟩ (set5' _ HC.out 8 9 10 11 12 _ _ _ _ _) (fun k hk => set5_other _ 8 9 10 11 12 _ _ _ _ _ k hk) (by simp [size_set])⟩, (ScOut.below M HB.out).trans ⟨fun _ h => .inl h, ?_⟩⟩
  have hM := HH.out.own g (.inl rfl)
  exact Frm.setCell (Frm.setCell (Frm.setCell (Frm.setCell (Frm.setCell (Frm.refl _ _) (fun _ => hM) _) (fun _ => hM) _) (fun _ => hM) _) (fun _ => hM) _) (fun _ => hM) _
section
variable {κ : Type} [DecidableEq κ] {T : KeyT κ} {ops : Array Oper} {rest : List Oper} {o : Oper} {a : Act} {Q : Exit → Act → World → Prop} {w : World} {b : Nat} {m : List (κ × Value)} {t e : TypeId}
theorem wpList_lookVg (hg : Region.wanted o (yielded ops a.tmps) = true) (x y : Operand) (hop : o.op = Op.lookup t x y false) (ht : Tryz.prog.underlying t = some (.map T.K e)) {z : Value} (hz : (zeroValue e).run Tryz.prog w = .ok z w) (hx : a.eval x = .map (some b)) (k : κ) (hy : a.eval y = T.kv k) (hm : MapV T w b m) (hk : T.ok k) {r : Option Value} (hr : getM m k = r) (u : Value) (hu : r.getD z = u)
    (h : wpList Tryz.prog ops Q rest (a.put o.dst u) w) : wpList Tryz.prog ops Q (o :: rest) a w := by
  refine BigFrame.wpList_want hg fun K' hK' => ?_
  have hrun := hm.look ht hz hk false
  rw [hr, hu] at hrun
  unfold Oper.wp
  simp [execOp, hop, hx, hy, hrun, Result.andThen]
  exact hK' _ _ h
end
theorem zeroMac (w : World) : (zeroValue 63).run Tryz.prog w = .ok (.agg #[.string ⟨#[]⟩, .slice none 0 0, .string ⟨#[]⟩, .int .i64 0, .int .i64 0]) w := by kernel_rfl
theorem zeroBl (w : World) : (zeroValue 4).run Tryz.prog w = .ok (.bool false) w := by kernel_rfl
set_option maxHeartbeats 800000 in
theorem defined_any (W : World) (M : Nat → Prop) (B g : Nat) (t : List Fil) (s : Sst) (H : ScW W M B g t s) (x : Bs) (hx : x.length ≤ 4294967000) :
    Calls Tryz.prog 156 #[.pointer (some ⟨g, 0, none⟩), .string ⟨x.toArray⟩] W fun e w' => e = .returned (.bool (definedS s x)) ∧ Below W.heap.size W w' := by
  obtain ⟨tA, tn, tc, mf, mm, mh, ml, iA, ic, oA, oc, mv, H⟩ := H
  have hc := H.cells
  unfold scC at hc
  have hg := H.lt g (H.own g (.inl rfl))
  have c1 := (cell_blk hc 1).trans rfl
  have c2 := (cell_blk hc 2).trans rfl
  have hh := H.macs.has x
  have hv := H.macs.val x
  have HM := Lib.hid H.mval
  have HF := Lib.hid H.flags
  have hx2 : TS.ok x := by show x.length ≤ 9223372036854775807; omega
  have hgf := vB_get s.flags x
  have HC := Lib.hid hc
  cases hq : getM mv x with
  | some v =>
    rw [hq] at hh
    obtain ⟨y, A, n, c, rfl, -⟩ := hv v hq
    have HQ := Lib.hid hq
    have hd : definedS s x = true := by unfold definedS; rw [← hh]; rfl
    have HD := Lib.hid hd
    clear hh hv hgf hq hd H
    go_enter Tryz.func156, Tryz.ntmps156
    go_wp2_with (at_lookup; go_loud (refine wpList_lookVok rfl _ _ rfl Tryz.underlying93 (zeroMac _) rfl x rfl HM.out hx2 HQ.out (.agg #[.string ⟨y.name.toArray⟩, .slice A n c, .string ⟨y.body.path.toArray⟩, .int .i64 y.body.fr, .int .i64 y.body.tu]) rfl true rfl ?_))
    go_ret
    exact ⟨ret_bool HD.out, by ((repeat (first | (with_reducible exact Below.refl _ _) | (with_reducible refine belowA ?_ _) | (with_reducible refine belowD ?_) | (with_reducible refine belowS ?_ (Nat.le_refl _) _ _) | (with_reducible refine next ?_ (by assumption) (Nat.le_refl _)))); done)⟩
  | none =>
    rw [hq] at hh
    have hd : definedS s x = (getM s.flags x).getD false := by unfold definedS; rw [← hh]; rfl
    generalize getM s.flags x = o at *
    obtain ⟨bv, hbv⟩ : ∃ bv, bv = o.getD false := ⟨_, rfl⟩
    rw [← hbv] at hd
    have hu : (o.map Value.bool).getD (.bool false) = .bool bv := by rw [hbv]; cases o <;> rfl
    have HQ := Lib.hid hq; have HD := Lib.hid hd; have HG := Lib.hid hgf; have HU := Lib.hid hu
    clear hh hv hq hd hgf hu hbv H
    go_enter Tryz.func156, Tryz.ntmps156
    go_upto_region 2 with (at_lookup; go_loud (refine wpList_lookVok rfl _ _ rfl Tryz.underlying93 (zeroMac _) rfl x rfl HM.out hx2 HQ.out (.agg #[.string ⟨#[]⟩, .slice none 0 0, .string ⟨#[]⟩, .int .i64 0, .int .i64 0]) rfl false rfl ?_))
    have c1' := (cell_blk (blkOld HC.out (.cells #[.string ⟨#[]⟩, .slice none 0 0, .string ⟨#[]⟩, .int .i64 0, .int .i64 0] 63)) 1).trans rfl
    go_wp2_with (at_lookup; go_loud (refine wpList_lookVg (by kernel_rfl) _ _ rfl Tryz.underlying92 (zeroBl _) rfl x rfl (HF.out.alloc _) hx2 HG.out (.bool bv) HU.out ?_))
    go_ret
    exact ⟨ret_bool HD.out, by ((repeat (first | (with_reducible exact Below.refl _ _) | (with_reducible refine belowA ?_ _) | (with_reducible refine belowD ?_) | (with_reducible refine belowS ?_ (Nat.le_refl _) _ _) | (with_reducible refine next ?_ (by assumption) (Nat.le_refl _)))); done)⟩
end Go.Proofs.YtpeamehplhpcjaaGreatDoor
namespace Go.Proofs.YtpeamehplhpcjaaGreatDoor
open Go.RowKit
set_option maxHeartbeats 400000 in
theorem item1_any (w : World) (S : Nat → Prop) (v : Value) (x : Itm) (hv : VItm w S v x) (q : Nat) (nm : Bs) (hq : w.cell? ⟨q, 2, none⟩ = some (.string ⟨nm.toArray⟩)) :
    Calls Tryz.prog 196 #[v, .pointer (some ⟨q, 0, none⟩)] w fun e w' => e = .returned (.bool (x.name == nm)) ∧ Below w.heap.size w w' := by
  obtain ⟨A, n, c, rfl, -⟩ := hv
  have h1 := cell_alloc' hq (.cells #[.string ⟨x.name.toArray⟩, .int .i64 x.kind, .int .i64 x.mode, .slice A n c, .string ⟨x.body.path.toArray⟩, .int .i64 x.body.fr, .int .i64 x.body.tu] 48 (0, 0))
  clear hq
  go_enter Tryz.func196, Tryz.ntmps196
  go_wp2_with fail
  go_ret
  exact ⟨rfl, by ((repeat (first | (with_reducible exact Below.refl _ _) | (with_reducible refine belowA ?_ _) | (with_reducible refine belowD ?_) | (with_reducible refine belowS ?_ (Nat.le_refl _) _ _) | (with_reducible refine next ?_ (by assumption) (Nat.le_refl _)))); done)⟩
def mkI (h : Hd) (b : Spn) : Itm := if h.word = 7 then ⟨h.name, 3, 3, h.params, spn0⟩ else ⟨h.name, if h.word = 9 then 2 else 1, h.mode, h.params, b⟩
theorem ScB.slices {W W' : World} {M : Nat → Prop} {B g : Nat} {tA : Option Addr} {tn tc mf mm mh ml : Nat} {iA : Option Addr} {ic : Nat} {oA : Option Addr} {oc : Nat} {mv : List (Bs × Value)} {t : List Fil} {s : Sst}
    (H : ScB W M B g tA tn tc mf mm mh ml iA ic oA oc mv t s) (xs : List Itm) (ys : List Bs) {A' : Option Addr} {c' : Nat} {O' : Option Addr} {d' : Nat}
    (hc : W'.heap[g]? = some (.cells (scC tA tn tc mf mm A' c' mh ml O' d' { s with items := xs, opn := ys }) 96 (0, 0)))
    (hi : Own W' (fun k => ¬ M k ∧ O'.map Addr.block ≠ some k) B 48 A' c' xs) (ho : Own W' (fun _ => False) B 9 O' d' ys)
    (hf : Frm (fun k => k = g ∨ iA.map Addr.block = some k ∨ oA.map Addr.block = some k) W W')
    (hat : A'.map Addr.block = iA.map Addr.block ∨ ∃ q, A'.map Addr.block = some q ∧ W.heap.size ≤ q) (hao : O'.map Addr.block = oA.map Addr.block ∨ ∃ q, O'.map Addr.block = some q ∧ W.heap.size ≤ q)
    (hdd : ∀ k, A'.map Addr.block = some k → O'.map Addr.block ≠ some k) :
    ∃ M', ScB W' M' B g tA tn tc mf mm mh ml A' c' O' d' mv t { s with items := xs, opn := ys } ∧ ScOut W M W' M' := by
  have hz := hf.size
  have hg := H.own g (.inl rfl)
  have hMi : ∀ k, iA.map Addr.block = some k → M k := fun k e => H.own k (.inr (.inr (.inr (.inr (.inr (.inl e))))))
  have hMo : ∀ k, oA.map Addr.block = some k → M k := fun k e => H.own k (.inr (.inr (.inr (.inr (.inr (.inr e))))))
  have hkM : ∀ k, k < W.heap.size → ¬ M k → W'.heap[k]? = W.heap[k]? := fun k hk' hm => hf.block k hk' (fun h => hm (by
    rcases h with h | h | h
    · exact h ▸ hg
    · exact hMi k h
    · exact hMo k h))
  have hnewi : ∀ k, A'.map Addr.block = some k → M k ∨ W.heap.size ≤ k := fun k e => by
    rcases hat with h | ⟨q, h, hq⟩
    · exact .inl (hMi k (h ▸ e))
    · rw [h] at e; injection e with e; exact .inr (by omega)
  have hnewo : ∀ k, O'.map Addr.block = some k → M k ∨ W.heap.size ≤ k := fun k e => by
    rcases hao with h | ⟨q, h, hq⟩
    · exact .inl (hMo k (h ▸ e))
    · rw [h] at e; injection e with e; exact .inr (by omega)
  have hm : ∀ k, (k = mf ∨ k = mm ∨ k = mh ∨ k = ml) → W'.heap[k]? = W.heap[k]? := fun k hk' => by
    refine hf.block k (H.lt k (H.own k (by rcases hk' with h | h | h | h <;> simp [h]))) fun h => ?_
    have hng : k ≠ g := by
      rcases hk' with h | h | h | h
      · exact fun e => H.dif.1 (e.symm.trans h)
      · exact fun e => H.dif.2.1 (e.symm.trans h)
      · exact fun e => H.dif.2.2.1 (e.symm.trans h)
      · exact fun e => H.dif.2.2.2.1 (e.symm.trans h)
    rcases h with h | h | h
    · exact hng h
    · obtain ⟨a1, a2, a3, a4, a5, a6⟩ := H.difi k h
      rcases hk' with h | h | h | h
      · exact a2 h
      · exact a3 h
      · exact a4 h
      · exact a5 h
    · obtain ⟨a1, a2, a3, a4, a5⟩ := H.difo k h
      rcases hk' with h | h | h | h
      · exact a2 h
      · exact a3 h
      · exact a4 h
      · exact a5 h
  have hMM : ∀ k, k < W.heap.size → (M k ∨ A'.map Addr.block = some k ∨ O'.map Addr.block = some k) → M k := fun k hk' h => by
    rcases h with h | h | h
    · exact h
    · exact (hnewi k h).elim id fun h => absurd hk' (by omega)
    · exact (hnewo k h).elim id fun h => absurd hk' (by omega)
  have hl : ∀ j k, M j → W.heap.size ≤ k → k ≠ j := fun j k hj hk e => by have := H.lt j hj; omega
  have hfive : ∀ k, W.heap.size ≤ k → k ≠ g ∧ k ≠ mf ∧ k ≠ mm ∧ k ≠ mh ∧ k ≠ ml := fun k hk =>
    ⟨hl _ k hg hk, hl _ k (H.own _ (.inr (.inl rfl))) hk, hl _ k (H.own _ (.inr (.inr (.inl rfl)))) hk, hl _ k (H.own _ (.inr (.inr (.inr (.inl rfl))))) hk, hl _ k (H.own _ (.inr (.inr (.inr (.inr (.inl rfl)))))) hk⟩
  refine ⟨fun k => M k ∨ A'.map Addr.block = some k ∨ O'.map Addr.block = some k, ⟨hc, H.tree.keep fun k hk' hb => hkM k hk' (fun hm => by have := H.old k hm; have hb : k < B := hb; omega), H.flags.keep (hm mf (by simp)), H.mval.keep (hm mm (by simp)), ?_, ?_, H.heads.keep (hm mh (by simp)), H.files.keep (hm ml (by simp)), ho, ?_, ?_, ?_, H.dif, ?_, ?_⟩, ?_, ?_⟩
  · exact (VMacs.wide hMM H.macs).keep fun k hk' hn => hkM k hk' fun h => hn (.inl h)
  · obtain ⟨cs, h1, h3⟩ := hi
    exact ⟨cs, h1, fun i hi => GoT.wide (fun k _ hk => ⟨fun hm => hm.elim hk.1.1 (fun h => h.elim hk.2 hk.1.2), hk.2⟩) (h3 i hi)⟩
  · rintro k (h | h | h | h | h | h | h)
    · exact .inl (H.own k (.inl h))
    · exact .inl (H.own k (.inr (.inl h)))
    · exact .inl (H.own k (.inr (.inr (.inl h))))
    · exact .inl (H.own k (.inr (.inr (.inr (.inl h)))))
    · exact .inl (H.own k (.inr (.inr (.inr (.inr (.inl h))))))
    · exact .inr (.inl h)
    · exact .inr (.inr h)
  · rintro k (h | h | h)
    · exact H.old k h
    · exact (hi.lt k h).1
    · exact (ho.lt k h).1
  · rintro k (h | h | h)
    · have := H.lt k h; omega
    · exact (hi.lt k h).2
    · exact (ho.lt k h).2
  · intro k e
    have hd := hdd k e
    rcases hat with h | ⟨q, h, hq⟩
    · obtain ⟨a1, a2, a3, a4, a5, _⟩ := H.difi k (h ▸ e)
      exact ⟨a1, a2, a3, a4, a5, hd⟩
    · have hkq : k = q := by rw [h] at e; injection e with e; exact e.symm
      obtain ⟨a1, a2, a3, a4, a5⟩ := hfive k (by omega)
      exact ⟨a1, a2, a3, a4, a5, hd⟩
  · intro k e
    rcases hao with h | ⟨q, h, hq⟩
    · exact H.difo k (h ▸ e)
    · have hkq : k = q := by rw [h] at e; injection e with e; exact e.symm
      exact hfive k (by omega)
  · rintro k (h | h | h)
    · exact .inl h
    · exact hnewi k h
    · exact hnewo k h
  · exact hf.mono fun k _ h => by
      rcases h with h | h | h
      · exact h ▸ hg
      · exact hMi k h
      · exact hMo k h
theorem ScB.app {W W' : World} {M : Nat → Prop} {B g : Nat} {tA : Option Addr} {tn tc mf mm mh ml : Nat} {iA : Option Addr} {ic : Nat} {oA : Option Addr} {oc : Nat} {mv : List (Bs × Value)} {t : List Fil} {s : Sst}
    (H : ScB W M B g tA tn tc mf mm mh ml iA ic oA oc mv t s) (x : Itm) {A' : Option Addr} {c' : Nat}
    (hc : W'.heap[g]? = some (.cells (scC tA tn tc mf mm A' c' mh ml oA oc { s with items := s.items ++ [x] }) 96 (0, 0)))
    (hi : Own W' (fun k => ¬ M k) B 48 A' c' (s.items ++ [x]))
    (hf : Frm (fun k => k = g ∨ iA.map Addr.block = some k) W W') (hat : A'.map Addr.block = iA.map Addr.block ∨ ∃ q, A'.map Addr.block = some q ∧ W.heap.size ≤ q) :
    ∃ M', ScB W' M' B g tA tn tc mf mm mh ml A' c' oA oc mv t { s with items := s.items ++ [x] } ∧ ScOut W M W' M' := by
  have hMo : ∀ k, oA.map Addr.block = some k → M k := fun k e => H.own k (.inr (.inr (.inr (.inr (.inr (.inr e))))))
  have ho : Own W' (fun _ => False) B 9 oA oc s.opn := H.opn.keep fun k hk hb => hf.block k hk (fun h => by
    rcases hb with hb | hb
    · exact hb
    · rcases h with h | h
      · exact (H.difo k hb).1 h
      · exact (H.difi k h).2.2.2.2.2 hb)
  refine H.slices (s.items ++ [x]) s.opn hc (hi.wide fun k _ hk => ⟨hk, fun e => hk (hMo k e)⟩) ho (hf.mono fun k _ h => by rcases h with h | h; exact .inl h; exact .inr (.inl h)) hat (.inl rfl) (fun k e eo => ?_)
  rcases hat with h | ⟨q, h, hq⟩
  · exact (H.difi k (h ▸ e)).2.2.2.2.2 eo
  · have := H.lt k (hMo k eo)
    rw [h] at e; injection e with e; omega
theorem ScB.opened {W W' : World} {M : Nat → Prop} {B g : Nat} {tA : Option Addr} {tn tc mf mm mh ml : Nat} {iA : Option Addr} {ic : Nat} {oA : Option Addr} {oc : Nat} {mv : List (Bs × Value)} {t : List Fil} {s : Sst}
    (H : ScB W M B g tA tn tc mf mm mh ml iA ic oA oc mv t s) (ys : List Bs) {O' : Option Addr} {d' : Nat}
    (hc : W'.heap[g]? = some (.cells (scC tA tn tc mf mm iA ic mh ml O' d' { s with opn := ys }) 96 (0, 0)))
    (ho : Own W' (fun _ => False) B 9 O' d' ys)
    (hf : Frm (fun k => k = g ∨ oA.map Addr.block = some k) W W') (hao : O'.map Addr.block = oA.map Addr.block ∨ ∃ q, O'.map Addr.block = some q ∧ W.heap.size ≤ q) :
    ∃ M', ScB W' M' B g tA tn tc mf mm mh ml iA ic O' d' mv t { s with opn := ys } ∧ ScOut W M W' M' := by
  have hMo : ∀ k, oA.map Addr.block = some k → M k := fun k e => H.own k (.inr (.inr (.inr (.inr (.inr (.inr e))))))
  have hMi : ∀ k, iA.map Addr.block = some k → M k := fun k e => H.own k (.inr (.inr (.inr (.inr (.inr (.inl e))))))
  have hi0 : Own W (fun k => ¬ M k ∧ O'.map Addr.block ≠ some k) B 48 iA ic s.items := H.items.wide fun k hk hm => ⟨hm, fun e => by
    rcases hao with h | ⟨q, h, hq⟩
    · exact hm (hMo k (h ▸ e))
    · rw [h] at e; injection e with e; omega⟩
  have hi : Own W' (fun k => ¬ M k ∧ O'.map Addr.block ≠ some k) B 48 iA ic s.items := hi0.keep fun k hk hb => hf.block k hk (fun h => by
    rcases hb with hb | hb
    · rcases h with h | h
      · exact hb.1 (h ▸ H.own g (.inl rfl))
      · exact hb.1 (hMo k h)
    · rcases h with h | h
      · exact (H.difi k hb).1 h
      · exact (H.difi k hb).2.2.2.2.2 h)
  refine H.slices s.items ys hc hi ho (hf.mono fun k _ h => by rcases h with h | h; exact .inl h; exact .inr (.inr h)) (.inl rfl) hao (fun k e eo => ?_)
  rcases hao with h | ⟨q, h, hq⟩
  · exact (H.difi k e).2.2.2.2.2 (h ▸ eo)
  · have := H.lt k (hMi k e)
    rw [h] at eo; injection eo with eo; omega
end Go.Proofs.YtpeamehplhpcjaaGreatDoor
