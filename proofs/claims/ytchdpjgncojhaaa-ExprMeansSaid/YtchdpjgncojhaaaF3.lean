/- Expressions: an owned row of operations, read and written; the walk of Fold's test. -/
import Derived.Test.YtchdpjgncojhaaaF2
set_option linter.unusedVariables false
set_option linter.unusedSimpArgs false
namespace Go.Proofs.Ytchdpjgncojhaaa
open Go.RowKit

section
variable {w : World} {T : Nat → Prop} {base : Nat} {A : Option Addr} {c : Nat} {xs : List Opn}
theorem Own.opn (h : Own w T base 50 A c xs) {k : Nat} (hk : k < xs.length) : ∃ g, A = some ⟨g, 0, none⟩ ∧ base ≤ g ∧ g < w.heap.size ∧ (∀ j, w.frozen? ⟨g, j, none⟩ = false) ∧
    w.cell? ⟨g, k * 3, none⟩ = some (.int .i64 xs[k].kind) ∧ w.cell? ⟨g, k * 3 + 1, none⟩ = some (.string ⟨xs[k].text.toArray⟩) ∧ w.cell? ⟨g, k * 3 + 2, none⟩ = some (.int .u32 xs[k].n) := by
  have hs := (h.sl (by decide)).opn hk
  obtain ⟨cs, ⟨hl, hr⟩, _⟩ := h
  rcases hr with ⟨_, h0⟩ | ⟨g, cap, cur, hv, hb, hg, _⟩
  · omega
  · injection hv with hA
    subst hA
    obtain ⟨b, o, he, _, hlt, c0, c1, c2⟩ := hs
    injection he with he
    injection he with e1 e2
    subst e1 e2
    simp only [Nat.zero_add] at c0 c1 c2
    exact ⟨_, rfl, hb, hlt, fun j => frz_blk hg j, c0, c1, c2⟩
theorem Own.setN (h : Own w T base 50 A c xs) {k : Nat} (hk : k < xs.length) {g : Nat} (hA : A = some ⟨g, 0, none⟩) (m : Int) :
    Own (w.setCell ⟨g, k * 3 + 2, none⟩ (.int .u32 m)) T base 50 A c (xs.set k { xs[k] with n := m }) := by
  obtain ⟨cs, hrow, hrd⟩ := h
  subst hA
  have hl : cs.length = xs.length * 3 := hrow.1
  have hst := World.ownsRow.stored (w := w) hrow (k * 3 + 2) (.int .u32 m)
  refine ⟨cs.set (k * 3 + 2) (.int .u32 m), by rw [List.length_set]; exact hst.1, fun i hi => ?_⟩
  rw [List.length_set] at hi
  have hr := hrd i hi
  obtain ⟨r0, r1, r2⟩ := hr
  simp only [GoT.size] at r0 r1 r2
  by_cases hik : k = i
  · subst hik
    rw [List.getElem_set_self]
    refine ⟨?_, ?_, ?_⟩
    · simp only [GoT.size, List.getD_eq_getElem?_getD] at r0 ⊢
      rw [List.getElem?_set_ne (by omega)]; exact r0
    · simp only [GoT.size, List.getD_eq_getElem?_getD] at r1 ⊢
      rw [List.getElem?_set_ne (by omega)]; exact r1
    · simp only [GoT.size, List.getD_eq_getElem?_getD]
      rw [List.getElem?_set_self (by omega)]; rfl
  · rw [List.getElem_set_ne hik]
    refine ⟨?_, ?_, ?_⟩
    · simp only [GoT.size, List.getD_eq_getElem?_getD] at r0 ⊢
      rw [List.getElem?_set_ne (by omega)]; exact r0
    · simp only [GoT.size, List.getD_eq_getElem?_getD] at r1 ⊢
      rw [List.getElem?_set_ne (by omega)]; exact r1
    · simp only [GoT.size, List.getD_eq_getElem?_getD] at r2 ⊢
      rw [List.getElem?_set_ne (by omega)]; exact r2
end

/-- Fold's variable out, in block b. -/
def OutAt (w : World) (base b : Nat) (A : Option Addr) (c : Nat) (out : List Opn) : Prop :=
  w.heap[b]? = some (.cells #[.slice A out.length c] 26 (0, 0)) ∧ Own w (fun _ => False) base 50 A c out

def isNum (out : List Opn) (back : Nat) : Bool := decide (back ≤ out.length) && (out.getD (out.length - back) default).kind == 1

set_option maxHeartbeats 1000000 in
theorem fold1_any (base b : Nat) (A : Option Addr) (c : Nat) (out : List Opn) (back : Nat) (bi : Int) (hbi : bi = back) (h1 : 1 ≤ back) (h2 : back ≤ 2) (w : World) (h : OutAt w base b A c out) :
    Calls Try.prog 55 #[.int .i64 bi, .pointer (some ⟨b, 0, none⟩)] w fun e w' => e = .returned (.bool (isNum out back)) ∧ w = w' := by
  obtain ⟨hb, ho⟩ := h
  have c0 := cell_blk hb 0
  simp only [List.getElem?_toArray, List.getElem?_cons_zero] at c0
  have hcap := ho.cap
  obtain ⟨v, hv⟩ : ∃ v, v = isNum out back := ⟨_, rfl⟩
  rw [← hv]
  unfold isNum at hv
  have hbl : 1 ≤ bi ∧ bi ≤ 2 := by omega
  obtain ⟨hb1, hb2⟩ := hbl
  by_cases hle : back ≤ out.length
  · have hk : out.length - back < out.length := by omega
    obtain ⟨g, rfl, hg1, hg2, hfz, k0, k1, k2⟩ := ho.opn hk
    have hgd : out.getD (out.length - back) default = out[out.length - back] := by simp [hk]
    rw [hgd, decide_eq_true hle, Bool.true_and] at hv
    generalize out[out.length - back] = op at *
    have Hv := Lib.hid hv; clear hv hgd ho hb hfz
    have hle2 : bi ≤ out.length := by omega
    have hidx : ((out.length : Int) - bi).toNat = out.length - back := by omega
    rw [← hidx] at k0
    have hcapm := hcap.2
    have hcapn := hcap.1
    clear hcap hidx hk h1 h2 hle hbi k1 k2
    go_enter Try.func55, Try.ntmps55
    go_wp2
    go_ret
    exact ⟨ret_bool Hv.out, rfl⟩
  · have hv2 : v = false := by rw [hv, decide_eq_false hle, Bool.false_and]
    have Hv := Lib.hid hv2; clear hv hv2 ho hb
    have hle2 : (out.length : Int) < bi := by omega
    have hle3 := hcap.1
    have hle4 := hcap.2
    clear hcap h1 h2 hle hbi
    go_enter Try.func55, Try.ntmps55
    go_wp2
    go_ret
    exact ⟨ret_bool Hv.out, rfl⟩

theorem fold1_int (base b : Nat) (A : Option Addr) (c : Nat) (out : List Opn) (bi : Int) (h1 : 1 ≤ bi) (h2 : bi ≤ 2) (w : World) (h : OutAt w base b A c out) :
    Calls Try.prog 55 #[.int .i64 bi, .pointer (some ⟨b, 0, none⟩)] w fun e w' => e = .returned (.bool (isNum out bi.toNat)) ∧ w = w' :=
  fold1_any base b A c out bi.toNat bi (by omega) (by omega) (by omega) w h

theorem OutAt.below {w w' : World} {base b : Nat} {A : Option Addr} {c : Nat} {out : List Opn} (h : OutAt w base b A c out) (hb : Below w.heap.size w w') : OutAt w' base b A c out := ⟨keptBlk hb h.1, h.2.below hb⟩
theorem OutAt.alloc {w : World} {base b : Nat} {A : Option Addr} {c : Nat} {out : List Opn} (h : OutAt w base b A c out) (o : Obj) : OutAt (w.alloc o) base b A c out := h.below ((Below.refl _ _).alloc (Nat.le_refl _) _)
def OkN (out : List Opn) : Prop := ∀ o ∈ out, 0 ≤ o.n ∧ o.n ≤ 4294967295

theorem foldGo_6 {o : Opn} {r out : List Opn} (hk : o.kind = 6) (h1 : isNum out 1 = true) : foldGo (o :: r) out = foldGo r (out.set (out.length - 1) { out.getD (out.length - 1) default with n := (unS o.text (out.getD (out.length - 1) default).n).1 }) := by
  unfold isNum at h1
  simp only [Bool.and_eq_true, decide_eq_true_eq, beq_iff_eq] at h1
  rw [foldGo, if_pos ⟨hk, h1⟩]
theorem foldGo_7 {o : Opn} {r out : List Opn} (hk : o.kind = 7) (h1 : isNum out 1 = true) (h2 : isNum out 2 = true) : foldGo (o :: r) out = foldGo r ((out.set (out.length - 2) { out.getD (out.length - 2) default with n := (binS o.text (out.getD (out.length - 2) default).n (out.getD (out.length - 1) default).n).1 }).take (out.length - 1)) := by
  unfold isNum at h1 h2
  simp only [Bool.and_eq_true, decide_eq_true_eq, beq_iff_eq] at h1 h2
  rw [foldGo, if_neg (by rw [hk]; simp), if_pos ⟨hk, h2.1, h1.2, h2.2⟩]
theorem foldGo_else {o : Opn} {r out : List Opn} (h6 : ¬ (o.kind = 6 ∧ isNum out 1 = true)) (h7 : ¬ (o.kind = 7 ∧ isNum out 1 = true ∧ isNum out 2 = true)) : foldGo (o :: r) out = foldGo r (out ++ [o]) := by
  unfold isNum at h6 h7
  simp only [Bool.and_eq_true, decide_eq_true_eq, beq_iff_eq] at h6 h7
  rw [foldGo, if_neg h6, if_neg (fun h => h7 ⟨h.1, ⟨by omega, h.2.2.1⟩, h.2.1, h.2.2.2⟩)]

theorem fold_push {w wr w2 : World} {b : Nat} {A A' : Option Addr} {c c' : Nat} {out : List Opn} {op : Opn} {o1 o2 : Obj} (hout : OutAt wr (b + 1) b A c out) (hb : Below w.heap.size w wr) (hwb : w.heap.size ≤ b)
    (hown : Own w2 (fun _ => False) (b + 1) 50 A' c' (out ++ [op])) (hg : ((wr.alloc o1).alloc o2).grownBy w2 (A.map Addr.block)) :
    OutAt (w2.setCell ⟨b, 0, none⟩ (.slice A' (out.length + 1) c')) (b + 1) b A' c' (out ++ [op]) ∧ Below w.heap.size w (w2.setCell ⟨b, 0, none⟩ (.slice A' (out.length + 1) c')) := by
  have hbk := grownBlk hg (blkOld (blkOld hout.1 o1) o2) (hout.2.ne_lt (Nat.lt_succ_self _))
  have hlt : b < wr.heap.size := (Array.getElem?_eq_some_iff.1 hout.1).1
  refine ⟨⟨by rw [Blk.set w2 hbk 0]; simp, hown.keep fun k _ hk => set_other _ _ _ _ _ (by rcases hk with hk | hk; exact hk.elim; have := (hown.lt k hk).1; omega)⟩, ?_⟩
  exact (Own.gr ((hb.alloc (by omega) _).alloc (by simp; omega) _) ((hout.2.alloc o1).alloc o2) hg (by omega) (by simp; omega)).setCell (p := ⟨b, 0, none⟩) hwb _
theorem OkN.push {out : List Opn} {op : Opn} (h : OkN out) (h0 : 0 ≤ op.n) (h1 : op.n ≤ 4294967295) : OkN (out ++ [op]) := by
  intro o ho
  rcases List.mem_append.1 ho with ho | ho
  · exact h o ho
  · simp only [List.mem_cons, List.not_mem_nil, or_false] at ho; subst ho; exact ⟨h0, h1⟩
theorem OkN.set {out : List Opn} (h : OkN out) (k : Nat) (op : Opn) (h0 : 0 ≤ op.n) (h1 : op.n ≤ 4294967295) : OkN (out.set k op) := by
  intro o ho
  rcases List.mem_or_eq_of_mem_set ho with ho | rfl
  · exact h o ho
  · exact ⟨h0, h1⟩
theorem OkN.take {out : List Opn} (h : OkN out) (k : Nat) : OkN (out.take k) := fun o ho => h o (List.mem_of_mem_take ho)
end Go.Proofs.Ytchdpjgncojhaaa
