/- A part of the proofs of the laws of one package; see the law's own text, which comes last in 'order'. No conditions of its own. -/
import Derived.OrdersHeld
import Derived.StillTail
import Derived.Deep.RegionHeld
import Derived.Test.YtpeamehplhpcjaaGreatDoorZ02
import Derived.Test.YtpeamehplhpcjaaGreatDoorZ13
import Derived.Test.YtpeamehplhpcjaaGreatDoorZ17
import Derived.Test.YtpeamehplhpcjaaGreatDoorZ19
import Derived.Test.YtpeamehplhpcjaaGreatDoorZ22
import Derived.Test.YtpeamehplhpcjaaGreatDoorZ32
set_option linter.unusedVariables false
set_option linter.unusedSimpArgs false
namespace Go.Proofs.YtpeamehplhpcjaaGreatDoor
theorem len_rinsGo (s : Bs) : ∀ (l : List Bs) (d : Bool), (rinsGo l s d).length ≤ l.length + (if d then 0 else 1) := by
  intro l
  induction l with
  | nil => intro d; cases d <;> simp [rinsGo]
  | cons x r ih =>
    intro d
    unfold rinsGo
    simp only [List.length_append, List.length_cons]
    have h2 : (if x = s then ([] : List Bs) else [x]).length ≤ 1 := by split <;> simp
    cases d with
    | true =>
      have := ih true
      simp at this ⊢
      split at h2 <;> simp_all <;> omega
    | false =>
      cases hl : ltS x s with
      | true =>
        have := ih false
        simp at this ⊢
        split at h2 <;> simp_all <;> omega
      | false =>
        have := ih true
        simp at this ⊢
        split at h2 <;> simp_all <;> omega
theorem len_rins (l : List Bs) (s : Bs) : (rins l s).length ≤ l.length + 1 := len_rinsGo s l false
theorem len_addR : ∀ (l : List Spn) (x : Spn) (d : Bool), (addR l x d).length ≤ l.length + 1 := by
  suffices h : ∀ (l : List Spn) (x : Spn) (d : Bool), (addR l x d).length ≤ l.length + (if d then 0 else 1) by
    intro l x d
    have := h l x d
    split at this <;> omega
  intro l
  induction l with
  | nil => intro x d; cases d <;> simp [addR]
  | cons s r ih =>
    intro x d
    unfold addR
    split
    · have := ih ⟨x.path, min x.fr s.fr, max x.tu s.tu⟩ d
      simp only [List.length_cons]; omega
    · split
      · rename_i h
        have hd : d = false := by cases d <;> simp_all
        subst hd
        have := ih x true
        simp only [List.length_cons]; simp at this ⊢; omega
      · have := ih x d
        simp only [List.length_cons]; omega
structure RIv (s : Rst) : Prop where
  fl : s.flags.length ≤ 1000
  ma : s.macros.length ≤ 128
  he : s.heads.length ≤ s.count
  fi : s.files.length ≤ s.count + 1
  co : s.count ≤ 2048
def KeepRR (s : Rst) (r : Flt × Rst) : Prop := RIv r.2 ∧ r.2.opn = s.opn
def KeepRG (g : RGrp) : Prop := ∀ p l fr tq s, RIv s → KeepRR s (g p l fr tq s)
def KeepRN (n : Option RGrp) : Prop := ∀ g, n = some g → KeepRG g
theorem rkeep_file {g : RGrp} (hg : KeepRG g) (p : Bs) (l : List Bs) {s : Rst} (h : RIv s) (hf : s.files.length ≤ s.count) : KeepRR s (rfile g p l s) := by
  have hr := len_rins s.files p
  obtain ⟨h1, h2⟩ := hg p l 0 l.length { s with files := rins s.files p, opn := s.opn ++ [p] } ⟨h.fl, h.ma, h.he, by show (rins s.files p).length ≤ s.count + 1; omega, h.co⟩
  unfold rfile KeepRR
  refine ⟨⟨h1.fl, h1.ma, h1.he, h1.fi, h1.co⟩, ?_⟩
  simp only [h2]
  simp
theorem rkeep_define (m : Mac) {s : Rst} (h : RIv s) : RIv (rdefine s m).1 ∧ (rdefine s m).1.opn = s.opn := by
  unfold rdefine
  split
  · exact ⟨h, rfl⟩
  · split
    · exact ⟨h, rfl⟩
    · rename_i hc
      refine ⟨⟨h.fl, ?_, h.he, h.fi, h.co⟩, rfl⟩
      have hd : ∀ l : List Mac, (l.filter (fun x => ltS x.name m.name)).length + (l.filter (fun x => ltS m.name x.name)).length ≤ l.length := by
        intro l
        induction l with
        | nil => simp
        | cons a r ih =>
          simp only [List.filter_cons]
          cases h1 : ltS a.name m.name with
          | true =>
            have h2 : ltS m.name a.name = false := by
              cases h2 : ltS m.name a.name with
              | false => rfl
              | true => have := ltS_trans _ _ _ h1 h2; rw [ltS_irr] at this; cases this
            simp only [h2, if_true, Bool.false_eq_true, if_false, List.length_cons]; omega
          | false =>
            simp only [Bool.false_eq_true, if_false, List.length_cons]
            split
            · simp only [List.length_cons]; omega
            · omega
      have := hd s.macros
      simp only [List.length_append, List.length_cons, List.length_nil]
      omega
theorem rkeep_undef (x : Bs) {s : Rst} (h : RIv s) : RIv (rundef s x).1 ∧ (rundef s x).1.opn = s.opn := by
  unfold rundef
  split
  · exact ⟨h, rfl⟩
  · refine ⟨⟨Nat.le_trans (List.length_filter_le _ _) h.fl, Nat.le_trans (List.length_filter_le _ _) h.ma, h.he, h.fi, h.co⟩, rfl⟩
theorem rkeep_item (x : Itm) {s : Rst} (h : RIv s) : RIv (ritem s x).1 ∧ (ritem s x).1.opn = s.opn := by
  unfold ritem
  split
  · exact ⟨h, rfl⟩
  · split
    · exact ⟨h, rfl⟩
    · exact ⟨⟨h.fl, h.ma, h.he, h.fi, h.co⟩, rfl⟩
theorem rkeep_head (t : List Fil) {nest : Option RGrp} (hn : KeepRN nest) (p : Bs) (l : List Bs) (i : Nat) (x : Hd) {s : Rst} (h : RIv s) (hf : s.files.length ≤ s.count) : KeepRR s (rhead t nest p l i x s) := by
  have hat : ∀ r : Rst × Int, (RIv r.1 ∧ r.1.opn = s.opn) → KeepRR s (if r.2 ≠ 0 then (rflt r.2 p i, r.1) else (flt0, r.1)) := by
    intro r hr
    split
    · exact hr
    · exact hr
  unfold rhead
  simp only
  split
  · split
    · exact ⟨h, rfl⟩
    · cases nest with
      | none => exact ⟨h, rfl⟩
      | some g => exact rkeep_file (hn g rfl) _ _ h hf
  · split
    · exact hat _ (rkeep_define _ h)
    · split
      · exact hat _ (rkeep_undef _ h)
      · split
        · split
          · cases nest with
            | none => exact ⟨h, rfl⟩
            | some g => exact hn g rfl _ _ _ _ _ h
          · exact ⟨h, rfl⟩
        · split
          · exact hat _ (rkeep_item _ h)
          · split
            · exact hat _ (rkeep_item _ h)
            · split
              · exact hat _ (rkeep_item _ h)
              · exact ⟨h, rfl⟩
def rtick (s : Rst) (p : Bs) (i : Nat) : Rst := { s with count := s.count + 1, heads := addR s.heads ⟨p, i, (i : Int) + 1⟩ false }
theorem rkeep_tick (p : Bs) (i : Nat) {s : Rst} (h : RIv s) (hc : s.count < 2048) : RIv (rtick s p i) ∧ (rtick s p i).opn = s.opn ∧ (rtick s p i).files.length ≤ (rtick s p i).count := by
  have := len_addR s.heads ⟨p, i, (i : Int) + 1⟩ false
  have h1 := h.he; have h2 := h.fi
  refine ⟨⟨h.fl, h.ma, ?_, ?_, ?_⟩, rfl, ?_⟩
  · show (addR s.heads ⟨p, i, (i : Int) + 1⟩ false).length ≤ s.count + 1; omega
  · show s.files.length ≤ s.count + 1 + 1; omega
  · show s.count + 1 ≤ 2048; omega
  · exact h2
theorem rkeep_loop (t : List Fil) {nest : Option RGrp} (hn : KeepRN nest) (p : Bs) (l : List Bs) (tq : Nat) : ∀ f i (s : Rst), RIv s → KeepRR s (rloop t nest p l tq f i s) := by
  intro f
  induction f with
  | zero => intro i s h; exact ⟨h, rfl⟩
  | succ f ih =>
    intro i s h
    unfold rloop
    split
    · exact ⟨h, rfl⟩
    · split
      · exact ⟨h, rfl⟩
      · rename_i hc
        obtain ⟨h2, ho, hf⟩ := rkeep_tick p i h (by omega)
        have h1 : RIv { s with count := s.count + 1 } := ⟨h.fl, h.ma, by have := h.he; show s.heads.length ≤ s.count + 1; omega, by have := h.fi; show s.files.length ≤ s.count + 1 + 1; omega, by show s.count + 1 ≤ 2048; omega⟩
        simp only
        generalize (if (parseH (l.getD i [])).2 = 0 ∧ (tq : Int) < (i : Int) + 1 + (parseH (l.getD i [])).1.n then (13 : Int) else (parseH (l.getD i [])).2) = e
        split
        · exact ⟨h1, rfl⟩
        · have hh := rkeep_head t hn p l i (parseH (l.getD i [])).1 h2 hf
          split
          · exact hh
          · obtain ⟨h5, h6⟩ := ih (i + 1 + (parseH (l.getD i [])).1.n.toNat) _ hh.1
            exact ⟨h5, h6.trans hh.2⟩
theorem rkeep_group (t : List Fil) : ∀ d, KeepRG (rgroup t d) := by
  intro d
  induction d with
  | zero => intro p l fr tq s h; exact rkeep_loop t (fun g hg => by cases hg) p l tq _ _ s h
  | succ d ih => intro p l fr tq s h; exact rkeep_loop t (fun g hg => by injection hg with hg; subst hg; exact ih) p l tq _ _ s h
def rnest (t : List Fil) : Nat → Option RGrp
  | 0 => none
  | d + 1 => some (rgroup t d)
theorem rgroup_nest (t : List Fil) (d : Nat) (p : Bs) (l : List Bs) (fr tq : Nat) (s : Rst) : rgroup t d p l fr tq s = rloop t (rnest t d) p l tq (tq - fr) fr s := by cases d <;> rfl
theorem rkeep_nest (t : List Fil) (d : Nat) : KeepRN (rnest t d) := by
  cases d with
  | zero => intro g hg; cases hg
  | succ d => intro g hg; injection hg with hg; subst hg; exact rkeep_group t d
theorem rloop_fuel (t : List Fil) (nest : Option RGrp) (p : Bs) (l : List Bs) (tq : Nat) : ∀ (f f' i : Nat) (s : Rst), tq - i ≤ f → tq - i ≤ f' → rloop t nest p l tq f i s = rloop t nest p l tq f' i s := by
  intro f
  induction f with
  | zero =>
    intro f' i s h _
    cases f' with
    | zero => rfl
    | succ f' => rw [rloop, rloop, if_pos (by omega)]
  | succ f ih =>
    intro f' i s h h'
    cases f' with
    | zero => rw [rloop, rloop, if_pos (by omega)]
    | succ f' =>
      unfold rloop
      simp only
      rw [ih f' _ _ (by omega) (by omega)]
theorem rloop_end (t : List Fil) (nest : Option RGrp) (p : Bs) (l : List Bs) (tq i : Nat) (s : Rst) (h : tq ≤ i) : rloop t nest p l tq (tq - i) i s = (flt0, s) := by
  rw [show tq - i = 0 by omega]; rfl
theorem rloop_step (t : List Fil) (nest : Option RGrp) (p : Bs) (l : List Bs) (tq i : Nat) (s : Rst) (h : i < tq) (hl : i < l.length) :
    rloop t nest p l tq (tq - i) i s = if 2048 ≤ s.count then (rflt 10 p i, s)
      else if (parseH l[i]).2 ≠ 0 then (rflt (parseH l[i]).2 p i, { s with count := s.count + 1 })
      else if (tq : Int) < i + 1 + (parseH l[i]).1.n then (rflt 13 p i, { s with count := s.count + 1 })
      else if (rhead t nest p l i (parseH l[i]).1 (rtick s p i)).1.err ≠ 0 then rhead t nest p l i (parseH l[i]).1 (rtick s p i)
      else rloop t nest p l tq (tq - (i + 1 + (parseH l[i]).1.n.toNat)) (i + 1 + (parseH l[i]).1.n.toNat) (rhead t nest p l i (parseH l[i]).1 (rtick s p i)).2 := by
  obtain ⟨f, hf⟩ : ∃ f, tq - i = f + 1 := ⟨tq - i - 1, by omega⟩
  have hg : l.getD i [] = l[i] := by rw [List.getD_eq_getElem?_getD, List.getElem?_eq_getElem hl]; rfl
  rw [hf, rloop, if_neg (by omega), hg]
  simp only
  rw [rloop_fuel t nest p l tq f (tq - (i + 1 + (parseH l[i]).1.n.toNat)) _ _ (by omega) (Nat.le_refl _)]
  unfold rtick
  by_cases h1 : 2048 ≤ s.count
  · rw [if_pos h1, if_pos h1]
  · rw [if_neg h1, if_neg h1]
    by_cases h2 : (parseH l[i]).2 = 0
    · by_cases h3 : (tq : Int) < i + 1 + (parseH l[i]).1.n
      · simp only [h2, h3, and_self, if_true, ne_eq, not_true_eq_false, if_false]
        rfl
      · simp only [h2, h3, and_false, if_false, ne_eq, not_true_eq_false]
    · simp only [h2, false_and, if_false, ne_eq, not_false_eq_true, if_true]
end Go.Proofs.YtpeamehplhpcjaaGreatDoor
namespace Go.Proofs.YtpeamehplhpcjaaGreatDoor
open Go.RowKit
def oFlt : Obj := .cells #[.int .i64 0, .int .i64 0, .int .i64 0, .string ⟨#[]⟩, .int .i64 0] 40 (0, 0)
section
variable {W W' : World} {M : Nat → Prop} {B g : Nat} {q : RcP} {t : List Fil} {p : Bs} {s : Rst}
theorem RcB.more (H : RcB W M B g q t p s) (o : Obj) : RcB (W.alloc o) (fun k => M k ∨ k = W.heap.size) B g q t p s where
  cells := blkOld H.cells o
  tree := H.tree.alloc o
  flags := (H.flags.wide (S' := fun k => ¬ (M k ∨ k = W.heap.size)) (fun k hk hn h => h.elim hn (fun h => by omega)) (by decide)).alloc o
  macs := (H.macs.wide (S' := fun k => ¬ (M k ∨ k = W.heap.size)) (fun k hk hn h => h.elim hn (fun h => by omega)) (by decide)).alloc o
  items := (H.items.wide (T' := fun k => ¬ (M k ∨ k = W.heap.size)) (fun k hk hn h => h.elim hn (fun h => by omega))).alloc o
  heads := (H.heads.wide (S' := fun k => ¬ (M k ∨ k = W.heap.size)) (fun k hk hn h => h.elim hn (fun h => by omega)) (by decide)).alloc o
  files := (H.files.wide (S' := fun k => ¬ (M k ∨ k = W.heap.size)) (fun k hk hn h => h.elim hn (fun h => by omega)) (by decide)).alloc o
  opn := H.opn.alloc o
  own := fun k h => .inl (H.own k h)
  old := fun k h => h.elim (H.old k) (fun h => by have := H.lt g (H.own g (.inl rfl)); have := H.old g (H.own g (.inl rfl)); omega)
  lt := fun k h => by
    have hz : W.heap.size < (W.alloc o).heap.size := lt_alloc _ _
    exact h.elim (fun h => Nat.lt_trans (H.lt k h) hz) (fun h => by omega)
  difi := H.difi
  difo := H.difo
theorem RcB.other (H : RcB W M B g q t p s) {b : Nat} (hb : M b) (hn : ¬ qO g q b) (hk : ∀ k, k < W.heap.size → k ≠ b → W'.heap[k]? = W.heap[k]?) (hz : W.heap.size ≤ W'.heap.size) : RcB W' M B g q t p s where
  cells := (hk g (H.lt g (H.own g (.inl rfl))) (fun e => hn (.inl e.symm))).trans H.cells
  tree := H.tree.keep fun k hk' h => hk k hk' (fun e => by have := H.old b hb; have h : k < B := h; omega)
  flags := H.flags.keep fun k hk' h => hk k hk' (fun e => h (e ▸ hb))
  macs := H.macs.keep fun k hk' h => hk k hk' (fun e => h (e ▸ hb))
  items := H.items.keep fun k hk' h => hk k hk' (fun e => by
    subst e
    rcases h with h | h
    · exact h hb
    · exact hn (.inr (.inl h)))
  heads := H.heads.keep fun k hk' h => hk k hk' (fun e => h (e ▸ hb))
  files := H.files.keep fun k hk' h => hk k hk' (fun e => h (e ▸ hb))
  opn := H.opn.keep fun k hk' h => hk k hk' (fun e => by
    subst e
    rcases h with h | h
    · exact h
    · exact hn (.inr (.inr h)))
  own := H.own
  old := H.old
  lt := fun k h => Nat.lt_of_lt_of_le (H.lt k h) hz
  difi := H.difi
  difo := H.difo
theorem RcB.nO (H : RcB W M B g q t p s) : ∀ k, qO g q k → M k := fun k h => H.own k h
theorem RcB.count (H : RcB W M B g q t p s) (n : Nat) : RcB (W.setCell ⟨g, 8, none⟩ (.int .i64 n)) M B g q t p { s with count := n } ∧ RcT W M g q (W.setCell ⟨g, 8, none⟩ (.int .i64 n)) M q := by
  have hk : ∀ k, k < W.heap.size → k ≠ g → (W.setCell ⟨g, 8, none⟩ (.int .i64 n)).heap[k]? = W.heap[k]? := fun k _ h => set_other _ _ _ _ _ h
  have hz : W.heap.size ≤ (W.setCell ⟨g, 8, none⟩ (.int .i64 n)).heap.size := by simp [size_set]
  have hF : Frm (fun k => k = g) W (W.setCell ⟨g, 8, none⟩ (.int .i64 n)) := Frm.setCell (M := fun k => k = g) (p := ⟨g, 8, none⟩) (Frm.refl _ _) (fun _ => rfl) _
  exact ⟨H.turn q { s with count := n } (by simpa [rcC] using Blk.set W H.cells 8 (.int .i64 n)) ⟨rfl, rfl, rfl⟩ ⟨rfl, rfl, rfl⟩ ⟨rfl, rfl, rfl⟩ hk hz (H.oldf hk H.flags) (H.oldf hk H.macs) (H.oldf hk H.heads) (H.oldf hk H.files),
    H.turnedT rfl rfl hk hz hF.os hF.tape hF.output⟩
theorem RcB.heads' (H : RcB W M B g q t p s) (xs : List Spn) {A : Option Addr} {n c : Nat} (hs : Sl W (fun k => ¬ M k) A n c xs) : RcB (W.setCell ⟨g, 5, none⟩ (.slice A n c)) M B g { q with hA := A, hn := n, hc := c } t p { s with heads := xs } ∧ RcT W M g q (W.setCell ⟨g, 5, none⟩ (.slice A n c)) M { q with hA := A, hn := n, hc := c } := by
  have hk : ∀ k, k < W.heap.size → k ≠ g → (W.setCell ⟨g, 5, none⟩ (.slice A n c)).heap[k]? = W.heap[k]? := fun k _ h => set_other _ _ _ _ _ h
  have hz : W.heap.size ≤ (W.setCell ⟨g, 5, none⟩ (.slice A n c)).heap.size := by simp [size_set]
  have hF : Frm (fun k => k = g) W (W.setCell ⟨g, 5, none⟩ (.slice A n c)) := Frm.setCell (M := fun k => k = g) (p := ⟨g, 5, none⟩) (Frm.refl _ _) (fun _ => rfl) _
  exact ⟨H.turn _ _ (by simpa [rcC] using Blk.set W H.cells 5 (.slice A n c)) ⟨rfl, rfl, rfl⟩ ⟨rfl, rfl, rfl⟩ ⟨rfl, rfl, rfl⟩ hk hz (H.oldf hk H.flags) (H.oldf hk H.macs) (H.oldf hk hs) (H.oldf hk H.files),
    H.turnedT rfl rfl hk hz hF.os hF.tape hF.output⟩
theorem RcB.files' (H : RcB W M B g q t p s) (xs : List Bs) {A : Option Addr} {n c : Nat} (hs : Sl W (fun k => ¬ M k) A n c xs) : RcB (W.setCell ⟨g, 6, none⟩ (.slice A n c)) M B g { q with lA := A, ln := n, lc := c } t p { s with files := xs } ∧ RcT W M g q (W.setCell ⟨g, 6, none⟩ (.slice A n c)) M { q with lA := A, ln := n, lc := c } := by
  have hk : ∀ k, k < W.heap.size → k ≠ g → (W.setCell ⟨g, 6, none⟩ (.slice A n c)).heap[k]? = W.heap[k]? := fun k _ h => set_other _ _ _ _ _ h
  have hz : W.heap.size ≤ (W.setCell ⟨g, 6, none⟩ (.slice A n c)).heap.size := by simp [size_set]
  have hF : Frm (fun k => k = g) W (W.setCell ⟨g, 6, none⟩ (.slice A n c)) := Frm.setCell (M := fun k => k = g) (p := ⟨g, 6, none⟩) (Frm.refl _ _) (fun _ => rfl) _
  exact ⟨H.turn _ _ (by simpa [rcC] using Blk.set W H.cells 6 (.slice A n c)) ⟨rfl, rfl, rfl⟩ ⟨rfl, rfl, rfl⟩ ⟨rfl, rfl, rfl⟩ hk hz (H.oldf hk H.flags) (H.oldf hk H.macs) (H.oldf hk H.heads) (H.oldf hk hs),
    H.turnedT rfl rfl hk hz hF.os hF.tape hF.output⟩
end
structure GrR (W : World) (M : Nat → Prop) (B g : Nat) (q : RcP) (t : List Fil) (p : Bs) (s : Rst) (z : World) (M1 : Nat → Prop) (q1 : RcP) (s1 : Rst) : Prop where
  h0 : RcB W M B g q t p s
  rc : RcB z M1 B g q1 t p s1
  tr : RcT (W.alloc oFlt) (fun k => M k ∨ k = W.heap.size) g q z M1 q1
section
variable {W z z' : World} {M M1 M2 : Nat → Prop} {B g : Nat} {q q1 q2 : RcP} {t : List Fil} {p : Bs} {s s1 s2 : Rst}
theorem GrR.start (H : RcB W M B g q t p s) : GrR W M B g q t p s (W.alloc oFlt) (fun k => M k ∨ k = W.heap.size) q s := ⟨H, H.more _, RcT.below _ _ _ (Below.refl _ _)⟩
theorem GrR.below (H : GrR W M B g q t p s z M1 q1 s1) (hb : Below z.heap.size z z') : GrR W M B g q t p s z' M1 q1 s1 := ⟨H.h0, H.rc.below hb, H.tr.trans (RcT.below _ _ _ hb)⟩
theorem GrR.step (H : GrR W M B g q t p s z M1 q1 s1) (hr : RcB z' M2 B g q2 t p s2) (ht : RcT z M1 g q1 z' M2 q2) : GrR W M B g q t p s z' M2 q2 s2 := ⟨H.h0, hr, H.tr.trans ht⟩
theorem GrR.non (H : GrR W M B g q t p s z M1 q1 s1) : ¬ qO g q W.heap.size := fun h => by have := H.h0.lt _ (H.h0.nO _ h); omega
theorem GrR.res (H : GrR W M B g q t p s z M1 q1 s1) : z.heap[W.heap.size]? = some oFlt := H.tr.own.blk (blkAt W _ rfl) H.non
theorem GrR.resM (H : GrR W M B g q t p s z M1 q1 s1) : M1 W.heap.size := H.tr.sub _ (.inr rfl)
theorem GrR.non1 (H : GrR W M B g q t p s z M1 q1 s1) : ¬ qO g q1 W.heap.size := fun h => (H.tr.own.1 _ h).elim H.non fun h => by
  have hz : W.heap.size < (W.alloc oFlt).heap.size := lt_alloc _ _
  omega
theorem GrR.lines {α : Type} [GoT α] (H : GrR W M B g q t p s z M1 q1 s1) {A : Option Addr} {n c : Nat} {xs : List α} (hs : Sl W (fun k => ¬ M k) A n c xs) (hz : 0 < GoT.size α) : Sl z (fun k => ¬ M1 k) A n c xs :=
  H.tr.out.slN ((hs.wide (S' := fun k => ¬ (M k ∨ k = W.heap.size)) (fun k hk hn h => h.elim hn (fun h => by omega)) hz).alloc _) hz
theorem GrR.fin (H : GrR W M B g q t p s z M1 q1 s1) (a0 a1 a2 a3 a4 : Value) :
    ∃ M' q', RcB (((((z.setCell ⟨W.heap.size, 0, none⟩ a0).setCell ⟨W.heap.size, 1, none⟩ a1).setCell ⟨W.heap.size, 2, none⟩ a2).setCell ⟨W.heap.size, 3, none⟩ a3).setCell ⟨W.heap.size, 4, none⟩ a4) M' B g q' t p s1 ∧
      RcT W M g q (((((z.setCell ⟨W.heap.size, 0, none⟩ a0).setCell ⟨W.heap.size, 1, none⟩ a1).setCell ⟨W.heap.size, 2, none⟩ a2).setCell ⟨W.heap.size, 3, none⟩ a3).setCell ⟨W.heap.size, 4, none⟩ a4) M' q' := by
  have hF : Frm (fun k => k = W.heap.size) z (((((z.setCell ⟨W.heap.size, 0, none⟩ a0).setCell ⟨W.heap.size, 1, none⟩ a1).setCell ⟨W.heap.size, 2, none⟩ a2).setCell ⟨W.heap.size, 3, none⟩ a3).setCell ⟨W.heap.size, 4, none⟩ a4) :=
    ((((Frm.setCell (M := fun k => k = W.heap.size) (p := ⟨W.heap.size, 0, none⟩) (Frm.refl _ z) (fun _ => rfl) a0).setCell (p := ⟨W.heap.size, 1, none⟩) (fun _ => rfl) a1).setCell (p := ⟨W.heap.size, 2, none⟩) (fun _ => rfl) a2).setCell (p := ⟨W.heap.size, 3, none⟩) (fun _ => rfl) a3).setCell (p := ⟨W.heap.size, 4, none⟩) (fun _ => rfl) a4
  generalize (((((z.setCell ⟨W.heap.size, 0, none⟩ a0).setCell ⟨W.heap.size, 1, none⟩ a1).setCell ⟨W.heap.size, 2, none⟩ a2).setCell ⟨W.heap.size, 3, none⟩ a3).setCell ⟨W.heap.size, 4, none⟩ a4) = z2 at *
  have hz : W.heap.size < (W.alloc oFlt).heap.size := lt_alloc _ _
  have hb : ∀ k, k < W.heap.size → (W.alloc oFlt).heap[k]? = W.heap[k]? := fun k hk => ((Below.refl W.heap.size W).alloc (Nat.le_refl _) oFlt).block k hk
  have hsz := H.tr.out.2.size
  have hsz2 := hF.size
  refine ⟨M1, q1, H.rc.other H.resM H.non1 (fun k hk hn => hF.block k hk hn) hF.size, ⟨?_, ?_⟩, fun k hk => H.tr.sub k (.inl hk), ⟨?_, ?_⟩⟩
  · intro k hk
    rcases H.tr.out.1 k hk with (h | h) | h
    · exact .inl h
    · exact .inr (by omega)
    · exact .inr (by omega)
  · refine ⟨hF.os.trans H.tr.out.2.os, hF.tape.trans H.tr.out.2.tape, hF.output.trans H.tr.out.2.output, by omega, fun k hk hn => ?_⟩
    exact (hF.block k (by omega) (fun e => by omega)).trans ((H.tr.out.2.block k (by omega) (fun h => h.elim hn (fun e => by omega))).trans (hb k hk))
  · intro k hk
    rcases H.tr.own.1 k hk with h | h
    · exact .inl h
    · exact .inr (by omega)
  · refine ⟨hF.os.trans H.tr.out.2.os, hF.tape.trans H.tr.out.2.tape, hF.output.trans H.tr.out.2.output, by omega, fun k hk hn => ?_⟩
    exact (hF.block k (by omega) (fun e => by omega)).trans ((H.tr.own.2.block k (by omega) hn).trans (hb k hk))
end
def RFileOk (d : Nat) (t : List Fil) (B : Nat) : Prop := ∀ (W : World) (M : Nat → Prop) (g : Nat) (p0 : Bs) (s : Rst) (q : RcP) (p : Bs) (A : Option Addr) (n c : Nat) (l : List Bs), RcB W M B g q t p0 s → RIv s → s.files.length ≤ s.count → s.opn.length + d ≤ 24 → p.length ≤ 1000 → Sl W (fun k => ¬ M k) A n c l → LOk l →
  Calls Tryz.prog 61 #[.pointer (some ⟨g, 0, none⟩), .string ⟨p.toArray⟩, .slice A n c, .int .i64 (24 - (d : Int))] W (RcR W M B g q t p0 (vFlt (rfile (rgroup t d) p l s).1) (rfile (rgroup t d) p l s).2)
def RGrpOk (d : Nat) (t : List Fil) (B : Nat) : Prop := ∀ (W : World) (M : Nat → Prop) (g : Nat) (p0 : Bs) (s : Rst) (q : RcP) (p : Bs) (A : Option Addr) (n c : Nat) (l : List Bs) (fr tq : Nat), RcB W M B g q t p0 s → RIv s → s.opn.length + d ≤ 25 → p.length ≤ 1000 → Sl W (fun k => ¬ M k) A n c l → LOk l → fr ≤ tq → tq ≤ l.length →
  Calls Tryz.prog 97 #[.pointer (some ⟨g, 0, none⟩), .string ⟨p.toArray⟩, .slice A n c, .int .i64 fr, .int .i64 tq, .int .i64 (24 - (d : Int))] W (RcR W M B g q t p0 (vFlt (rgroup t d p l fr tq s).1) (rgroup t d p l fr tq s).2)
end Go.Proofs.YtpeamehplhpcjaaGreatDoor
namespace Go.Proofs.YtpeamehplhpcjaaGreatDoor
open Go.RowKit
section
variable {P : Program} {ops : Array Oper} {Q : Exit → Act → World → Prop} {md : Region.Mode} {S : World → Prop} {N : List Nat}
def wpAnyV (P : Program) (md : Region.Mode) (ops : Array Oper) (Q : Exit → Act → World → Prop) (S : World → Prop) (N : List Nat) : Nat → Array Bool → Act → World → Prop
  | 0, listed, a, w => Region.ready md ops listed = [] ∧ Q .normal a w
  | fuel + 1, listed, a, w =>
    (Region.ready md ops listed = [] → Q .normal a w) ∧
    ∀ i ∈ Region.ready md ops listed, wpOp P ops Q i (fun a' w' => (i ∉ N → S w → S w') ∧ wpAnyV P md ops Q S N fuel (listed.setIfInBounds i true) a' w') a w
theorem wpAny_of_V : ∀ (fuel : Nat) (listed : Array Bool) (a : Act) (w : World), wpAnyV P md ops Q S N fuel listed a w → wpAny P md ops Q fuel listed a w
  | 0, _, _, _, h => h
  | fuel + 1, _, _, _, h => ⟨h.1, fun i hi => wpOp_mono (fun a' w' h' => wpAny_of_V fuel _ a' w' h'.2) (h.2 i hi)⟩
theorem wpAnyV_first {i : Nat} {oi : Oper} {v : Value} (hi : ops[i]? = some oi) (hsel : ∀ (j : Nat) (o : Oper) cs b, ops[j]? = some o → o.op ≠ .select cs b)
    (hQ : ∀ c a w, Q (.panic c) (a.put oi.dst v) w → Q (.panic c) a w) (hw : N.all (fun n => Region.waitsFor md ops n i) = true) :
    ∀ (fuel : Nat) (listed : Array Bool) (a : Act) (w : World),
      (∀ j oj, ops[j]? = some oj → j ≠ i → listed.getD j true = false → (∀ e ∈ oj.after, Region.binds md e = true → e.on ≠ i) → oi.apart ops oj = true) →
      i ∈ Region.ready md ops listed → YieldsIf P ops S oi v a → S w →
      wpAnyV P md ops Q S N fuel (listed.setIfInBounds i true) (a.put oi.dst v) w → wpAnyV P md ops Q S N (fuel + 1) listed a w := by
  intro fuel
  induction fuel with
  | zero =>
    intro listed a w _ hr hy hS H
    refine ⟨fun h => (by rw [h] at hr; cases hr), fun j hj => ?_⟩
    by_cases hji : j = i
    · subst hji; exact hy.wpOp hi hS ⟨fun _ h => h, H⟩
    · have := ready_mono hj hji
      rw [H.1] at this
      cases this
  | succ fuel ih =>
    intro listed a w hfree hr hy hS H
    refine ⟨fun h => (by rw [h] at hr; cases hr), fun j hj => ?_⟩
    by_cases hji : j = i
    · subst hji; exact hy.wpOp hi hS ⟨fun _ h => h, H⟩
    · have h1 := H.2 j (ready_mono hj hji)
      obtain ⟨hjun, oj, hoj, hall⟩ := mem_ready.1 hj
      have hnot : ∀ e ∈ oj.after, Region.binds md e = true → e.on ≠ i := fun e he hb heq => by
        have h1 := hall e he hb
        have h0 := (mem_ready.1 hr).1
        rw [heq] at h1
        rcases Nat.lt_or_ge i listed.size with h' | h'
        · simp [h'] at h0 h1; rw [h0] at h1; cases h1
        · simp [Array.getElem?_eq_none h'] at h1
      have hjn : j ∉ N := fun hjn => by
        obtain ⟨o', ho', e, he, hb, hon⟩ := Region.waitsFor_spec (List.all_eq_true.1 hw j hjn)
        rw [hoj] at ho'
        injection ho' with ho'
        subst ho'
        exact absurd hon (hnot e he hb)
      have h2 := wpOp_putIf hoj (hfree j oj hoj hji hjun hnot) (fun cs b => hsel i oi cs b hi) (fun cs b => hsel j oj cs b hoj) hQ hy h1
      have hfree' : ∀ k ok, ops[k]? = some ok → k ≠ i → (listed.setIfInBounds j true).getD k true = false →
          (∀ e ∈ ok.after, Region.binds md e = true → e.on ≠ i) → oi.apart ops ok = true := fun k ok hk hki hun hno => by
        refine hfree k ok hk hki ?_ hno
        by_cases hjk : j = k
        · subst hjk; exact hjun
        · rw [getD_set_ne true hjk] at hun; exact hun
      refine wpOp_mono (fun a' w' h3 => ⟨h3.2.1, ih (listed.setIfInBounds j true) a' w' hfree' (ready_mono hr (Ne.symm hji)) h3.1 (h3.2.1 hjn hS) ?_⟩) h2
      rw [Array.setIfInBounds_comm _ _ hji]
      exact h3.2.2
theorem wpAnyV_pure {i : Nat} {oi : Oper} {v : Value} (hi : ops[i]? = some oi) (hsel : ∀ (j : Nat) (o : Oper) cs b, ops[j]? = some o → o.op ≠ .select cs b)
    (hQ : ∀ c a w, Q (.panic c) (a.put oi.dst v) w → Q (.panic c) a w) :
    ∀ (fuel : Nat) (listed : Array Bool) (a : Act) (w : World),
      (∀ j oj, ops[j]? = some oj → j ≠ i → listed.getD j true = false → (∀ e ∈ oj.after, Region.binds md e = true → e.on ≠ i) → oi.apart ops oj = true) →
      i ∈ Region.ready md ops listed → YieldsIf P ops (fun _ => True) oi v a →
      wpAnyV P md ops Q S N fuel (listed.setIfInBounds i true) (a.put oi.dst v) w → wpAnyV P md ops Q S N (fuel + 1) listed a w := by
  intro fuel
  induction fuel with
  | zero =>
    intro listed a w _ hr hy H
    refine ⟨fun h => (by rw [h] at hr; cases hr), fun j hj => ?_⟩
    by_cases hji : j = i
    · subst hji; exact hy.wpOp hi trivial ⟨fun _ h => h, H⟩
    · have := ready_mono hj hji
      rw [H.1] at this
      cases this
  | succ fuel ih =>
    intro listed a w hfree hr hy H
    refine ⟨fun h => (by rw [h] at hr; cases hr), fun j hj => ?_⟩
    by_cases hji : j = i
    · subst hji; exact hy.wpOp hi trivial ⟨fun _ h => h, H⟩
    · have h1 := H.2 j (ready_mono hj hji)
      obtain ⟨hjun, oj, hoj, hall⟩ := mem_ready.1 hj
      have hnot : ∀ e ∈ oj.after, Region.binds md e = true → e.on ≠ i := fun e he hb heq => by
        have h1 := hall e he hb
        have h0 := (mem_ready.1 hr).1
        rw [heq] at h1
        rcases Nat.lt_or_ge i listed.size with h' | h'
        · simp [h'] at h0 h1; rw [h0] at h1; cases h1
        · simp [Array.getElem?_eq_none h'] at h1
      have h2 := wpOp_putIf hoj (hfree j oj hoj hji hjun hnot) (fun cs b => hsel i oi cs b hi) (fun cs b => hsel j oj cs b hoj) hQ hy h1
      have hfree' : ∀ k ok, ops[k]? = some ok → k ≠ i → (listed.setIfInBounds j true).getD k true = false →
          (∀ e ∈ ok.after, Region.binds md e = true → e.on ≠ i) → oi.apart ops ok = true := fun k ok hk hki hun hno => by
        refine hfree k ok hk hki ?_ hno
        by_cases hjk : j = k
        · subst hjk; exact hjun
        · rw [getD_set_ne true hjk] at hun; exact hun
      refine wpOp_mono (fun a' w' h3 => ⟨h3.2.1, ih (listed.setIfInBounds j true) a' w' hfree' (ready_mono hr (Ne.symm hji)) h3.1 ?_⟩) h2
      rw [Array.setIfInBounds_comm _ _ hji]
      exact h3.2.2
theorem wpAnyV_takeW (i : Nat) {oi : Oper} {d : Nat} {v : Value} {fuel : Nat} {listed : Array Bool} {a : Act} {w : World} (hi : ops[i]? = some oi) (hd : oi.dst = some d)
    (hs : Region.noSelect ops = true) (hf : Region.free md ops listed i = true) (hr : (Region.ready md ops listed).contains i = true) (hw : N.all (fun n => Region.waitsFor md ops n i) = true)
    (hQ : ∀ c a w, Q (.panic c) (a.put oi.dst v) w → Q (.panic c) a w) (hwt : Region.wanted oi (yielded ops a.tmps) = true) (hS : S w) (hy : ∀ x, S x → (execOp a.eval oi).run P x = .ok (.value v) x)
    (h : wpAnyV P md ops Q S N fuel (listed.setIfInBounds i true) { a with tmps := a.tmps.setIfInBounds d v } w) : wpAnyV P md ops Q S N (fuel + 1) listed a w :=
  wpAnyV_first hi (Region.noSelect_spec hs) hQ hw fuel listed a w (Region.free_spec hi hf) (by simpa using hr) (.inl ⟨hwt, hy⟩) hS (by rw [hd]; exact h)
theorem wpAnyV_takeP (i : Nat) {oi : Oper} {d : Nat} {v : Value} {fuel : Nat} {listed : Array Bool} {a : Act} {w : World} (hi : ops[i]? = some oi) (hd : oi.dst = some d)
    (hs : Region.noSelect ops = true) (hf : Region.free md ops listed i = true) (hr : (Region.ready md ops listed).contains i = true)
    (hQ : ∀ c a w, Q (.panic c) (a.put oi.dst v) w → Q (.panic c) a w) (hwt : Region.wanted oi (yielded ops a.tmps) = true) (hy : ∀ x, (execOp a.eval oi).run P x = .ok (.value v) x)
    (h : wpAnyV P md ops Q S N fuel (listed.setIfInBounds i true) { a with tmps := a.tmps.setIfInBounds d v } w) : wpAnyV P md ops Q S N (fuel + 1) listed a w :=
  wpAnyV_pure hi (Region.noSelect_spec hs) hQ fuel listed a w (Region.free_spec hi hf) (by simpa using hr) (.inl ⟨hwt, fun x _ => hy x⟩) (by rw [hd]; exact h)
theorem wpAnyV_one (i : Nat) {o : Oper} {fuel : Nat} {listed : Array Bool} {a : Act} {w : World} (hr : Region.ready md ops listed = [i]) (ho : ops[i]? = some o)
    (h : ∀ K' : Act → World → Prop, Shut (∀ a' w', (i ∉ N → S w → S w') → wpAnyV P md ops Q S N fuel (listed.setIfInBounds i true) a' w' → K' a' w') → if Region.wanted o (yielded ops a.tmps) = true then Oper.wp P o a w K' Q else K' (a.put o.dst undef) w) :
    wpAnyV P md ops Q S N (fuel + 1) listed a w := by
  refine ⟨fun h0 => (by rw [hr] at h0; cases h0), fun j hj => ?_⟩
  rw [hr] at hj
  have hji : j = i := by simpa using hj
  subst hji
  exact wpOp_step ho (fun K' hK => h K' (fun a w hS hW => hK a w ⟨hS, hW⟩))
theorem wpAnyV_done {listed : Array Bool} {a : Act} {w : World} (hr : Region.ready md ops listed = []) (h : Q .normal a w) : ∀ fuel, wpAnyV P md ops Q S N fuel listed a w
  | 0 => ⟨hr, h⟩
  | _ + 1 => ⟨fun _ => h, by rw [hr]; simp⟩
theorem wpV_region (S : World → Prop) (N : List Nat) {id : Nat} {a : Act} {w : World} (hm : P.follows .mixedOrders = true)
    (h : wpAnyV P .any ops Q S N ops.size (Array.replicate ops.size false) a w.drew) : (Code.region id ops true).wp P Q a w :=
  wp_region_any hm (wpAny_of_V _ _ _ _ h)
end
end Go.Proofs.YtpeamehplhpcjaaGreatDoor
