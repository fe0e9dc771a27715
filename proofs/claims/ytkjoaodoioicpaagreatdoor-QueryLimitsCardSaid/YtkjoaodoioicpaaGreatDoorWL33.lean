/- Query (package licitlaw54): a part of the proofs of its laws; see the law's own text, which comes last in 'order'. No conditions of its own. -/
import Derived.Test.YtkjoaodoioicpaaGreatDoorWL03
import Derived.Test.YtkjoaodoioicpaaGreatDoorWL06
import Derived.Test.YtkjoaodoioicpaaGreatDoorWL10
import Derived.Test.YtkjoaodoioicpaaGreatDoorWL32
set_option linter.unusedVariables false
set_option linter.unusedSimpArgs false
namespace Go.Proofs.YtkjoaodoioicpaaGreatDoor
open Go.RowKit
end Go.Proofs.YtkjoaodoioicpaaGreatDoor
namespace Go.Proofs.YtkjoaodoioicpaaGreatDoor
open Go.RowKit
end Go.Proofs.YtkjoaodoioicpaaGreatDoor
namespace Go.Proofs.YtkjoaodoioicpaaGreatDoor
open Go.RowKit
def sameAs : List Arg → List Arg → Bool
  | a :: r, b :: t => decide (a = b) && sameAs r t
  | _, _ => true
theorem sameAs_eq (l : List Arg) : ∀ t, l.length = t.length → sameAs l t = decide (l = t) := by
  induction l with
  | nil => intro t h; cases t with
    | nil => rfl
    | cons b t => simp at h
  | cons a r ih => intro t h; cases t with
    | nil => simp at h
    | cons b t =>
      simp only [List.length_cons, Nat.add_right_cancel_iff] at h
      simp only [sameAs, ih t h, List.cons.injEq, Bool.decide_and]
set_option maxRecDepth 100000 in
set_option maxHeartbeats 4000000 in
theorem sameAtom_any (x y : Atm) (A : Option Addr) (n c : Nat) (B : Option Addr) (m d : Nat) (w : World) (S T : Nat → Prop) (hl : Sl w S A n c x.args) (hr : Sl w T B m d y.args) :
    Calls Tryz.prog 29 #[.agg #[.string ⟨x.name.toArray⟩, .slice A n c], .agg #[.string ⟨y.name.toArray⟩, .slice B m d]] w fun e w' => e = .returned (.bool (decide (x = y))) ∧ Below w.heap.size w w' := by
  obtain ⟨v, hv⟩ : ∃ v, v = decide (x = y) := ⟨_, rfl⟩
  rw [← hv]
  obtain ⟨xn, xa⟩ := x
  obtain ⟨yn, ya⟩ := y
  simp only at hl hr hv ⊢
  have hn := hl.len; have hm := hr.len
  subst hn hm
  have hle := hl.le; have hle2 := hr.le
  by_cases hne : xn = yn
  · subst hne
    by_cases hlen : xa.length = ya.length
    · replace hv : v = sameAs (xa.drop 0) (ya.drop 0) := by rw [hv]; simp [sameAs_eq _ _ hlen]
      rw [← hlen] at hr hle2
      rw [← hlen]
      have hk0 : ya.length = xa.length := hlen.symm
      have HF := Lib.hid hv; have HL := Lib.hid hl; have HR := Lib.hid hr; have HK := Lib.hid hk0
      clear hv hl hr hlen hk0
      go_enter Tryz.func29, Tryz.ntmps29
      go_wp2_with fail
      have hB0 : ((w.alloc (.cells #[.string ⟨xn.toArray⟩, .slice A xa.length c] 31)).alloc (.cells #[.string ⟨xn.toArray⟩, .slice B xa.length d] 31)).heap[w.heap.size]? = some (.cells #[.string ⟨xn.toArray⟩, .slice A xa.length c] 31 (0, 0)) := blkOld (blkAt w _ rfl) _
      have hB1 : ((w.alloc (.cells #[.string ⟨xn.toArray⟩, .slice A xa.length c] 31)).alloc (.cells #[.string ⟨xn.toArray⟩, .slice B xa.length d] 31)).heap[w.heap.size + 1]? = some (.cells #[.string ⟨xn.toArray⟩, .slice B xa.length d] 31 (0, 0)) := blkAt2 (by simp) rfl
      have hbl : Below w.heap.size w ((w.alloc (.cells #[.string ⟨xn.toArray⟩, .slice A xa.length c] 31)).alloc (.cells #[.string ⟨xn.toArray⟩, .slice B xa.length d] 31)) := boxed.alloc (by simp) _
      generalize (w.alloc (.cells #[.string ⟨xn.toArray⟩, .slice A xa.length c] 31)).alloc (.cells #[.string ⟨xn.toArray⟩, .slice B xa.length d] 31) = W at *
      have HB0 := Lib.hid hB0; have HB1 := Lib.hid hB1; have HBL := Lib.hid hbl
      clear hB0 hB1 hbl
      go_loopw [5] (fun i wr => ∃ k : Nat, k ≤ xa.length ∧ i = .int .i64 k ∧ Below W.heap.size W wr ∧ Hid (v = sameAs (xa.drop k) (ya.drop k))) (fun i _ => xa.length - (intOf i).toNat)
      case atStart => exact ⟨0, by omega, rfl, Below.refl _ _, HF⟩
      case round =>
        obtain ⟨k, hk, rfl, hb, hf⟩ := hrel
        have hbw : Below w.heap.size w wr := HBL.out.trans (hb.mono HBL.out.size)
        have k1 := (cell_blk (keptBlk hb HB0.out) 1).trans rfl; have k2 := (cell_blk (keptBlk hb HB1.out) 1).trans rfl
        by_cases hlt : k < xa.length
        · obtain ⟨b1, o1, rfl, -, hbs1, h1, h2, h3⟩ := (HL.out.below hbw).arg hlt
          obtain ⟨b2, o2, rfl, -, hbs2, g1, g2, g3⟩ := (HR.out.below hbw).arg (k := k) (by have := HK.out; omega)
          have hd := hf.out
          rw [drop_get hlt, drop_get (l := ya) (k := k) (by have := HK.out; omega), sameAs] at hd
          generalize xa[k] = p at *
          generalize ya[k]'_ = q at *
          obtain ⟨pk, pt, pn⟩ := p
          obtain ⟨qk, qt, qn⟩ := q
          simp only at h1 h2 h3 g1 g2 g3
          have HD := Lib.hid hd
          have HX := Lib.hid (fun (x : World) (hx : Below wr.heap.size wr x) => And.intro (cell_later hx k1) (And.intro (cell_later hx k2) (And.intro (cell_later hx h1) (And.intro (cell_later hx h2) (And.intro (cell_later hx h3) (And.intro (cell_later hx g1) (And.intro (cell_later hx g2) (cell_later hx g3))))))))
          have HBW := Lib.hid hb
          clear hd hf
          go_wp2_with fail
          refine wpH_region (fun x => Below wr.heap.size wr x) (by kernel_rfl) ?_
          have hS : Below wr.heap.size wr wr.drew := (Below.refl _ _).drew
          clear h1 h2 h3 g1 g2 g3 k1 k2 hb
          (refine tkW 0 (v := ?_) hS ?_ ?_; rotate_left; (focus (intro x hx; have fx := HX.out x hx; go_simp; (try with_reducible rfl); done)); (try simp only [Act.put, lsa, lsz, lss]))
          (refine tkW 1 (v := ?_) hS ?_ ?_; rotate_left; (focus (intro x hx; have fx := HX.out x hx; go_simp; (try with_reducible rfl); done)); (try simp only [Act.put, lsa, lsz, lss]))
          (refine tkW 2 (v := ?_) hS ?_ ?_; rotate_left; (focus (intro x hx; have fx := HX.out x hx; go_simp; (try with_reducible rfl); done)); (try simp only [Act.put, lsa, lsz, lss]))
          (refine tkW 3 (v := ?_) hS ?_ ?_; rotate_left; (focus (intro x hx; have fx := HX.out x hx; go_simp; (try with_reducible rfl); done)); (try simp only [Act.put, lsa, lsz, lss]))
          (refine tkW 4 (v := ?_) hS ?_ ?_; rotate_left; (focus (intro x hx; have fx := HX.out x hx; go_simp; (try with_reducible rfl); done)); (try simp only [Act.put, lsa, lsz, lss]))
          (refine tkW 5 (v := ?_) hS ?_ ?_; rotate_left; (focus (intro x hx; have fx := HX.out x hx; go_simp; (try with_reducible rfl); done)); (try simp only [Act.put, lsa, lsz, lss]))
          (refine tkW 6 (v := ?_) hS ?_ ?_; rotate_left; (focus (intro x hx; have fx := HX.out x hx; go_simp; (try with_reducible rfl); done)); (try simp only [Act.put, lsa, lsz, lss]))
          (refine tkW 7 (v := ?_) hS ?_ ?_; rotate_left; (focus (intro x hx; have fx := HX.out x hx; go_simp; (try with_reducible rfl); done)); (try simp only [Act.put, lsa, lsz, lss]))
          (refine tkW 8 (v := ?_) hS ?_ ?_; rotate_left; (focus (intro x hx; have fx := HX.out x hx; go_simp; (try with_reducible rfl); done)); (try simp only [Act.put, lsa, lsz, lss]))
          (refine tkW 9 (v := ?_) hS ?_ ?_; rotate_left; (focus (intro x hx; have fx := HX.out x hx; go_simp; (try with_reducible rfl); done)); (try simp only [Act.put, lsa, lsz, lss]))
          by_cases hpq : pk = qk ∧ pt = qt ∧ pn = qn
          · obtain ⟨rfl, rfl, rfl⟩ := hpq
            (refine tkW 10 (v := ?_) hS ?_ ?_; rotate_left; (focus (intro x hx; have fx := HX.out x hx; go_simp; (try with_reducible rfl); done)); (try simp only [Act.put, lsa, lsz, lss]))
            refine wpAnyH_done (by kernel_rfl) ?_ _
            go_wp2_with fail
            go_roundw
            case rel =>
              have hd := HD.out
              rw [decide_eq_true rfl, Bool.true_and] at hd
              exact ⟨k + 1, by omega, by go_num, HBW.out.trans (hS.mono HBW.out.size), hd⟩
            case measure => simp [intOf]; omega
          · refine wpAnyH_takeW 10 rfl rfl (by kernel_rfl) (by kernel_rfl) (by kernel_rfl) (fun _ _ _ h => h) (v := .bool true) (by kernel_rfl) hS (fun x hx => by have fx := HX.out x hx; go_simp; exact fun a b c => hpq ⟨a, b, c⟩) ?_
            simp only [Act.put, lsa, lsz, lss]
            refine wpAnyH_done (by kernel_rfl) ?_ _
            have hd := HD.out
            rw [decide_eq_false (fun e => hpq (by injection e with e1 e2 e3; exact ⟨e1, e2, e3⟩)), Bool.false_and] at hd
            have HV := Lib.hid hd; clear hd hpq
            go_wp2_with fail
            go_ret
            exact ⟨ret_bool HV.out, hbw.trans (hS.mono hbw.size)⟩
        · have hd := hf.out
          rw [drop_end hlt] at hd
          have HD := Lib.hid (show v = true by rw [hd]; cases ya.drop k <;> rfl)
          clear hd hf hb
          go_wp2_with fail
          go_ret
          exact ⟨ret_bool HD.out, hbw⟩
    · replace hv : v = false := by rw [hv]; simp; intro h; exact hlen (by rw [h])
      have hlI : ¬ (xa.length : Int) = (ya.length : Int) := by omega
      have HV := Lib.hid hv; clear hv hl hr hlen
      go_enter Tryz.func29, Tryz.ntmps29
      go_wp2_with fail
      go_ret
      exact ⟨ret_bool HV.out, boxed.alloc (by simp) _⟩
  · replace hv : v = false := by rw [hv]; simp [hne]
    have hneb : (xn == yn) = false := by simpa using hne
    have HV := Lib.hid hv; clear hv hl hr
    go_enter Tryz.func29, Tryz.ntmps29
    go_wp2_with fail
    go_ret
    exact ⟨ret_bool HV.out, boxed.alloc (by simp) _⟩
end Go.Proofs.YtkjoaodoioicpaaGreatDoor
namespace Go.Proofs.YtkjoaodoioicpaaGreatDoor
open Go.RowKit
set_option maxRecDepth 100000 in
set_option maxHeartbeats 4000000 in
theorem sameR_any (l r : List Atm) (A : Option Addr) (n c : Nat) (B : Option Addr) (m d : Nat) (w : World) (S T : Nat → Prop) (hl : Sl w S A n c l) (hr : Sl w T B m d r) :
    Calls Tryz.prog 12 #[.slice A n c, .slice B m d] w fun e w' => e = .returned (.bool (decide (l = r))) ∧ Below w.heap.size w w' := by
  obtain ⟨v, hv⟩ : ∃ v, v = decide (l = r) := ⟨_, rfl⟩
  rw [← hv]
  have hn := hl.len; have hm := hr.len
  subst hn hm
  have hle := hl.le; have hle2 := hr.le
  by_cases hlen : l.length = r.length
  · have hlb : ((l.length : Int) == (r.length : Int)) = true := by simp [hlen]
    have hlI : (l.length : Int) = (r.length : Int) := by omega
    have HV : Hid (v = decide (l.drop 0 = r.drop 0)) := hv
    have HL := Lib.hid hl; have HR := Lib.hid hr; have HLEN := Lib.hid hlen
    clear hv hl hr
    go_enter Tryz.func12, Tryz.ntmps12
    go_wp2_with fail
    clear hlb hlen hlI
    go_loopw [5] (fun i wr => ∃ k : Nat, k ≤ l.length ∧ i = .int .i64 k ∧ Below w.heap.size w wr ∧ Hid (v = decide (l.drop k = r.drop k))) (fun i _ => l.length - (intOf i).toNat)
    case atStart => exact ⟨0, by omega, rfl, Below.refl _ _, HV⟩
    case round =>
      obtain ⟨k, hk, rfl, hb, hf⟩ := hrel
      have hwr := hb.size
      by_cases hlt : k < l.length
      · have hlt2 : k < r.length := by have := HLEN.out; omega
        obtain ⟨b, o, rfl, -, hbs, A1, n1, c1, h1, h2, hs1⟩ := (HL.out.below hb).atm hlt
        obtain ⟨b', o', rfl, -, hbs', B1, m1, d1, g1, g2, ht1⟩ := (HR.out.below hb).atm hlt2
        have hd := hf.out
        rw [drop_get hlt, drop_get hlt2] at hd
        generalize l[k] = x at *
        generalize r[k] = y at *
        have hsm := fun w' (hb' : Below wr.heap.size wr w') => sameAtom_any x y A1 n1 c1 B1 m1 d1 w' _ _ (hs1.below hb') (ht1.below hb')
        have HX := Lib.hid (fun (z : World) (hz : Below wr.heap.size wr z) => And.intro (cell_later hz h1) (And.intro (cell_later hz h2) (And.intro (cell_later hz g1) (cell_later hz g2))))
        have HD := Lib.hid hd; have HSM := Lib.hid hsm; have HB := Lib.hid hb
        clear hd hf hsm hs1 ht1
        have k0 : (0 : Int) ≤ (k : Int) := by omega
        have k1 : (k : Int) < (l.length : Int) := by omega
        have k2 : (k : Int) < (r.length : Int) := by omega
        go_wp2_with fail
        refine wpH_region (fun z => Below wr.heap.size wr z) (by kernel_rfl) ?_
        have hS : Below wr.heap.size wr wr.drew := (Below.refl _ _).drew
        clear h1 h2 g1 g2 hb
        (refine tkW 0 (v := ?_) hS ?_ ?_; rotate_left; (focus (intro x hx; have fx := HX.out x hx; go_simp; (try with_reducible rfl); done)); (try simp only [Act.put, lsa, lsz, lss]))
        (refine tkW 1 (v := ?_) hS ?_ ?_; rotate_left; (focus (intro x hx; have fx := HX.out x hx; go_simp; (try with_reducible rfl); done)); (try simp only [Act.put, lsa, lsz, lss]))
        (refine tkW 2 (v := ?_) hS ?_ ?_; rotate_left; (focus (intro x hx; have fx := HX.out x hx; go_simp; (try with_reducible rfl); done)); (try simp only [Act.put, lsa, lsz, lss]))
        (refine tkW 3 (v := ?_) hS ?_ ?_; rotate_left; (focus (intro x hx; have fx := HX.out x hx; go_simp; (try with_reducible rfl); done)); (try simp only [Act.put, lsa, lsz, lss]))
        (refine tkW 4 (v := ?_) hS ?_ ?_; rotate_left; (focus (intro x hx; have fx := HX.out x hx; go_simp; (try with_reducible rfl); done)); (try simp only [Act.put, lsa, lsz, lss]))
        (refine tkW 5 (v := ?_) hS ?_ ?_; rotate_left; (focus (intro x hx; have fx := HX.out x hx; go_simp; (try with_reducible rfl); done)); (try simp only [Act.put, lsa, lsz, lss]))
        (refine tkW 6 (v := ?_) hS ?_ ?_; rotate_left; (focus (intro x hx; have fx := HX.out x hx; go_simp; (try with_reducible rfl); done)); (try simp only [Act.put, lsa, lsz, lss]))
        (refine tkW 7 (v := ?_) hS ?_ ?_; rotate_left; (focus (intro x hx; have fx := HX.out x hx; go_simp; (try with_reducible rfl); done)); (try simp only [Act.put, lsa, lsz, lss]))
        (refine wpAnyH_one 8 (by kernel_rfl) rfl ?_; intro K' hK'; go_simp; refine (HSM.out _ hS).mono ?_; rintro e w5 ⟨rfl, hb5⟩; have hS := hS.trans (hb5.mono hS.size); refine hK'.out _ _ hS ?_; clear hK' K')
        have HX := Lib.hid (fun (z : World) (hz : Below wr.heap.size wr z) => True.intro)
        by_cases hxy : x = y
        · rw [decide_eq_true hxy]
          (refine tkW 9 (v := ?_) hS ?_ ?_; rotate_left; (focus (intro x hx; have fx := HX.out x hx; go_simp; (try with_reducible rfl); done)); (try simp only [Act.put, lsa, lsz, lss]))
          refine wpAnyH_done (by kernel_rfl) ?_ _
          have HV := Lib.hid (show v = decide (l.drop (k + 1) = r.drop (k + 1)) by rw [HD.out, hxy, Bool.eq_iff_iff]; simp)
          have HB6 := Lib.hid (HB.out.trans (hS.mono HB.out.size))
          clear hS hxy
          go_wp2_with fail
          go_roundw
          case rel => exact ⟨k + 1, by omega, by go_num, HB6.out, HV⟩
          case measure => simp [intOf]; omega
        · rw [decide_eq_false hxy]
          (refine tkW 9 (v := ?_) hS ?_ ?_; rotate_left; (focus (intro x hx; have fx := HX.out x hx; go_simp; (try with_reducible rfl); done)); (try simp only [Act.put, lsa, lsz, lss]))
          refine wpAnyH_done (by kernel_rfl) ?_ _
          have HV := Lib.hid (show v = false by rw [HD.out]; simp [hxy])
          have HB6 := Lib.hid (HB.out.trans (hS.mono HB.out.size))
          clear hS hxy
          go_wp2_with fail
          go_ret
          exact ⟨ret_bool HV.out, HB6.out⟩
      · have hd := hf.out
        rw [drop_end hlt, drop_end (by have := HLEN.out; omega : ¬ k < r.length)] at hd
        have HD := Lib.hid (show v = true by rw [hd]; rfl)
        have HB := Lib.hid hb
        clear hd hf hb
        go_wp2_with fail
        go_ret
        exact ⟨ret_bool HD.out, HB.out⟩
  · have hlb : ((l.length : Int) == (r.length : Int)) = false := by simp; omega
    have hlI : ¬ (l.length : Int) = (r.length : Int) := by omega
    have HV := Lib.hid (show v = false by rw [hv]; simp; intro h; exact hlen (by rw [h]))
    clear hv hl hr hlen
    go_enter Tryz.func12, Tryz.ntmps12
    go_wp2_with fail
    go_ret
    exact ⟨ret_bool HV.out, Below.refl _ _⟩
end Go.Proofs.YtkjoaodoioicpaaGreatDoor
namespace Go.Proofs.YtkjoaodoioicpaaGreatDoor
open Go.RowKit
set_option maxHeartbeats 1000000 in
theorem rhas_any (A : Option Addr) (n c : Nat) (l : List Bs) (s : Bs) (w : World) (S : Nat → Prop) (hl : Sl w S A n c l) :
    Calls Tryz.prog 153 #[.slice A n c, .string ⟨s.toArray⟩] w fun e w' => e = .returned (.bool (l.contains s)) ∧ w' = w := by
  obtain ⟨v, hv⟩ : ∃ v, v = l.contains s := ⟨_, rfl⟩
  rw [← hv]
  have hn := hl.len
  subst hn
  have hle := hl.le
  have Hf : Hid (v = (l.drop 0).contains s) := hv
  have HL := Lib.hid hl; clear hv hl
  go_enter Tryz.func153, Tryz.ntmps153
  go_wp2_with fail
  go_loop [5] (fun i => ∃ k : Nat, k ≤ l.length ∧ i = .int .i64 k ∧ Hid (v = (l.drop k).contains s)) (fun i => l.length - (intOf i).toNat)
  case atStart => exact ⟨0, by omega, rfl, Hf⟩
  case round =>
    obtain ⟨k, hk, rfl, hf⟩ := hrel
    by_cases hlt : k < l.length
    · obtain ⟨b, o, rfl, -, hbs, h1⟩ := HL.out.str hlt
      have hd := hf.out
      rw [drop_get hlt, List.contains_cons] at hd
      generalize l[k] = x at *
      by_cases hx : s = x
      · have hxb : (x == s) = true := by simp [hx]
        have HD := Lib.hid (show v = true by rw [hd, hx]; simp); clear hd hf hx
        go_wp2_with fail
        go_ret
        exact ⟨ret_bool HD.out, rfl⟩
      · have hxb : (x == s) = false := by rw [beq_eq_false_iff_ne]; exact fun e => hx e.symm
        have HD := Lib.hid (show v = (l.drop (k + 1)).contains s by rw [hd]; simp [hx]); clear hd hf hx
        go_wp2_with fail
        go_round
        case rel => exact ⟨k + 1, by omega, by go_num, HD.out⟩
        case measure => simp [intOf]; omega
    · have hd := hf.out
      rw [drop_end hlt] at hd
      have HD := Lib.hid (show v = false from hd); clear hd hf
      go_wp2_with fail
      go_ret
      exact ⟨ret_bool HD.out, rfl⟩
theorem grown_trans {w w1 w2 : World} {A A1 : Option Nat} (h : w.grownBy w1 A) (h1 : w1.grownBy w2 A1) (ha : A1 = A ∨ ∃ k, A1 = some k ∧ w.heap.size ≤ k) : w.grownBy w2 A :=
  ⟨h1.os.trans h.os, h1.tape.trans h.tape, h1.output.trans h.output, Nat.le_trans h.size h1.size, fun k hk hne => (h1.block k (Nat.lt_of_lt_of_le hk h.size) (fun e => by
    rcases ha with ha | ⟨q, ha, hq⟩
    · exact hne (e.trans ha)
    · rw [ha] at e; injection e with e; omega)).trans (h.block k hk hne)⟩
theorem grown_alloc {w w1 : World} {A : Option Nat} (o : Obj) (h : (w.alloc o).grownBy w1 A) : w.grownBy w1 A :=
  ⟨h.os, h.tape, h.output, Nat.le_trans (by simp) h.size, fun k hk hne => (h.block k (by simp; omega) hne).trans (Below.heap_alloc _ _ k hk)⟩
theorem grown_refl (w : World) (A : Option Nat) : w.grownBy w A := ⟨rfl, rfl, rfl, Nat.le_refl _, fun _ _ _ => rfl⟩
def AdPost (w : World) (base : Nat) (A : Option Addr) (r : List Bs) (e : Ending) (w' : World) : Prop :=
  ∃ A' c', e = .returned (.slice A' r.length c') ∧ Own w' (fun _ => False) base 9 A' c' r ∧ w.grownBy w' (A.map Addr.block) ∧ (A'.map Addr.block = A.map Addr.block ∨ ∃ k, A'.map Addr.block = some k ∧ w.heap.size ≤ k)
set_option maxRecDepth 100000 in
set_option maxHeartbeats 4000000 in
theorem added_any (base : Nat) (A : Option Addr) (c : Nat) (out : List Bs) (B : Option Addr) (m d : Nat) (l : List Arg) (w : World) (S : Nat → Prop) (ho : Own w (fun _ => False) base 9 A c out) (hl : Sl w S B m d l)
    (hS : ∀ k, S k → A.map Addr.block ≠ some k) (hb : base ≤ w.heap.size) (hlen : out.length + l.length ≤ 1000000) :
    Calls Tryz.prog 135 #[.slice A out.length c, .slice B m d] w (AdPost w base A (addV out l)) := by
  obtain ⟨v, hv⟩ : ∃ v, v = addV out l := ⟨_, rfl⟩
  rw [← hv]
  have hn := hl.len
  subst hn
  have Hf : Hid (v = addV out (l.drop 0)) := hv
  have HL := Lib.hid (hl.wide (S' := fun k => k < w.heap.size ∧ A.map Addr.block ≠ some k) (fun k hk hs => ⟨hk, hS k hs⟩) (by decide)); have HO := Lib.hid ho; clear hv hl hS ho
  go_enter Tryz.func135, Tryz.ntmps135
  go_wp2_with fail
  go_loopw [0, 5] (fun o i wr => ∃ k : Nat, k ≤ l.length ∧ i = .int .i64 k ∧ ∃ (out' : List Bs) (A' : Option Addr) (c' : Nat), o = .slice A' out'.length c' ∧ Own wr (fun _ => False) base 9 A' c' out' ∧ w.grownBy wr (A.map Addr.block) ∧ (A'.map Addr.block = A.map Addr.block ∨ ∃ k, A'.map Addr.block = some k ∧ w.heap.size ≤ k) ∧ out'.length ≤ out.length + k ∧ Hid (v = addV out' (l.drop k))) (fun _ i _ => l.length - (intOf i).toNat)
  case atStart => exact ⟨0, by omega, rfl, out, A, c, rfl, HO.out, grown_refl _ _, .inl rfl, by omega, Hf⟩
  case round =>
    obtain ⟨k, hk, rfl, out', A', c', rfl, hown, hgr, hat, hol, hf⟩ := hrel
    have hsz := hgr.size
    by_cases hlt : k < l.length
    · obtain ⟨b, o, rfl, -, hbs, h1, h2, h3⟩ := (HL.out.keep (w' := wr) (fun z hz hs => hgr.block z hz (fun e => hs.2 e.symm))).arg hlt
      have hd := hf.out
      rw [drop_get hlt, addV] at hd
      have hha := fun t => rhas_any A' out'.length c' out' t wr _ (hown.sl (by decide))
      generalize l[k] = x at *
      obtain ⟨xk, xt, xn⟩ := x
      simp only at h1 h2 h3 hd
      have hha := hha xt
      by_cases hk1 : xk = 1
      · subst hk1
        cases hcn : out'.contains xt
        · rw [hcn] at hha hd
          rw [if_pos (by simp)] at hd
          have HD := Lib.hid hd; have HHA := Lib.hid hha; have HOW := Lib.hid hown; have HGR := Lib.hid hgr; have HAT := Lib.hid hat; clear hd hha hown hgr hat hcn hf
          go_wp2_with fail
          refine HHA.out.mono ?_
          rintro e w' ⟨rfl, rfl⟩
          go_wp2_with (first | (at_builtin; go_loud (refine wpList_app1 rfl _ _ eltStr rfl (by decide) rfl rfl rfl (HOW.out.alloc _) rfl [.string ⟨xt.toArray⟩] xt (blkAt _ _ rfl) rfl rfl (by omega) (by omega) (by simp; omega) ?_); intro A2 c2 w3 hown' hg hat2))
          go_roundw
          case rel => exact ⟨k + 1, by omega, by go_num, out' ++ [xt], A2, c2, by simp, hown', grown_trans HGR.out (grown_alloc _ hg) HAT.out, by
            rcases hat2 with hat2 | hat2
            · rw [hat2]; exact HAT.out
            · exact .inr ⟨_, hat2, by simp; omega⟩, by simp; omega, HD.out⟩
          case measure => simp [intOf]; omega
        · rw [hcn] at hha hd
          rw [if_neg (by simp)] at hd
          have HD := Lib.hid hd; have HHA := Lib.hid hha; have HOW := Lib.hid hown; have HGR := Lib.hid hgr; have HAT := Lib.hid hat; clear hd hha hown hgr hat hcn hf
          go_wp2_with fail
          refine HHA.out.mono ?_
          rintro e w' ⟨rfl, rfl⟩
          go_wp2_with fail
          go_roundw
          case rel => exact ⟨k + 1, by omega, by go_num, out', A', c', rfl, HOW.out, HGR.out, HAT.out, by omega, HD.out⟩
          case measure => simp [intOf]; omega
      · have hkb : (xk == 1) = false := by simpa using hk1
        rw [if_neg (by simp [hk1])] at hd
        have HD := Lib.hid hd; have HOW := Lib.hid hown; have HGR := Lib.hid hgr; have HAT := Lib.hid hat; clear hd hha hown hgr hat hf hk1
        go_wp2_with fail
        go_roundw
        case rel => exact ⟨k + 1, by omega, by go_num, out', A', c', rfl, HOW.out, HGR.out, HAT.out, by omega, HD.out⟩
        case measure => simp [intOf]; omega
    · have hd := hf.out
      rw [drop_end hlt] at hd
      have hd : v = out' := hd
      have HOW := Lib.hid hown; have HGR := Lib.hid hgr; have HAT := Lib.hid hat; have HD := Lib.hid hd; clear hown hgr hat hd hf
      go_wp2_with fail
      go_ret
      rw [HD.out]
      exact ⟨A', c', rfl, HOW.out, HGR.out, HAT.out⟩
set_option maxRecDepth 100000 in
set_option maxHeartbeats 4000000 in
theorem rvariables_any (r : Rul) (A1 : Option Addr) (n1 c1 : Nat) (A2 : Option Addr) (n2 c2 : Nat) (w : World) (S : Nat → Prop) (h1 : Sl w S A1 n1 c1 r.head.args) (h2 : Sl w S A2 n2 c2 r.body) (hlen : r.head.args.length + cntB r.body ≤ 1000000) :
    Calls Tryz.prog 106 #[.agg #[.string ⟨r.head.name.toArray⟩, .slice A1 n1 c1, .slice A2 n2 c2]] w fun e w' => ∃ A c, e = .returned (.slice A (varsS r).length c) ∧ Sl w' (fun b => w.heap.size ≤ b) A (varsS r).length c (varsS r) ∧ Below w.heap.size w w' := by
  obtain ⟨v, hv⟩ : ∃ v, v = varsS r := ⟨_, rfl⟩
  rw [← hv]
  unfold varsS at hv
  have hn2 := h2.len
  have hle := h2.le
  subst hn2
  have ha1 := addV_len r.head.args []
  have H1 := Lib.hid (h1.wide (S' := fun b => b < w.heap.size) (fun k hk _ => hk) (by decide)); have H2 := Lib.hid (h2.wide (S' := fun b => b < w.heap.size) (fun k hk _ => hk) (by decide)); clear h1 h2
  generalize r.head.args = args at *
  generalize r.head.name = nm at *
  generalize r.body = body at *
  simp only [List.length_nil, Nat.zero_add] at ha1
  have HV := Lib.hid hv; clear hv
  go_enter Tryz.func106, Tryz.ntmps106
  go_wp2_with fail
  refine (added_any w.heap.size none 0 [] A1 n1 c1 args _ _ (Own.nil _ _ _ _) (H1.out.alloc _) (fun k _ e => by cases e) (by simp) (by simp; omega)).mono ?_
  rintro e w1 ⟨B1, d1, rfl, hown1, hg1, hat1⟩
  have hg10 := grown_alloc _ hg1
  have hX := grownBlk hg1 (blkAt w (.cells #[.string ⟨nm.toArray⟩, .slice A1 n1 c1, .slice A2 body.length c2] 34) rfl) (fun e => by cases e)
  have hb1 : Below w.heap.size w w1 := (Below.refl _ _).grown hg10 (Nat.le_refl _) (fun k e => by cases e)
  have k2 := (cell_blk hX 2).trans rfl
  have hlb1 := hown1.lt
  have HO1 := Lib.hid hown1; have HB1 := Lib.hid hb1; have HX := Lib.hid hX
  have Hf : Hid (v = addB (addV [] args) (body.drop 0)) := HV
  have hxl := (Array.getElem?_eq_some_iff.1 hX).1
  have hne1 : B1.map Addr.block ≠ some w.heap.size := fun e => by
    rcases hat1 with h | ⟨k, h, hk⟩
    · rw [h] at e; cases e
    · rw [h] at e; injection e with e; simp at hk; omega
  clear hown1 hg1 hat1 hg10 hX hb1 hlb1
  go_wp2_with fail
  go_loopw [3, 4] (fun o i wr => ∃ k : Nat, k ≤ body.length ∧ i = .int .i64 k ∧ ∃ (out : List Bs) (B : Option Addr) (d : Nat), o = .slice B out.length d ∧ Own wr (fun _ => False) w.heap.size 9 B d out ∧ Below w.heap.size w wr ∧ wr.heap[w.heap.size]? = some (.cells #[.string ⟨nm.toArray⟩, .slice A1 n1 c1, .slice A2 body.length c2] 34 (0, 0)) ∧ B.map Addr.block ≠ some w.heap.size ∧ out.length + cntB (body.drop k) ≤ args.length + cntB body ∧ Hid (v = addB out (body.drop k))) (fun _ i _ => body.length - (intOf i).toNat)
  case atStart => exact ⟨0, by omega, rfl, _, B1, d1, rfl, HO1.out, HB1.out, HX.out, hne1, by simp; omega, Hf⟩
  case round =>
    obtain ⟨k, hk, rfl, out, B, d, rfl, hown, hb, hX, hne, hol, hf⟩ := hrel
    have hwr := hb.size
    have k2 := (cell_blk hX 2).trans rfl
    have hxl := (Array.getElem?_eq_some_iff.1 hX).1
    by_cases hlt : k < body.length
    · obtain ⟨b, o, rfl, hbn, hbs, A3, n3, c3, g1, g2, g3, g4, hs⟩ := (H2.out.below hb).ltl hlt
      have hd := hf.out
      rw [drop_get hlt, addB] at hd
      rw [cntB_drop hlt] at hol
      generalize body[k] = x at *
      have hlen2 := addV_len x.atom.args out
      have had := added_any w.heap.size B d out A3 n3 c3 x.atom.args wr _ hown hs (fun q hq e => by have := (hown.lt q e).1; omega) (by omega) (by omega)
      have HAD := Lib.hid had; have HD := Lib.hid hd; have HB := Lib.hid hb; have HX := Lib.hid hX; have HOW := Lib.hid hown
      clear had hd hb hX hown hf hs
      go_wp2_with fail
      refine HAD.out.mono ?_
      rintro e w2 ⟨B2, d2, rfl, hown2, hg2, hat2⟩
      have hX2 := grownBlk hg2 HX.out hne
      go_wp2_with fail
      go_roundw
      case rel => exact ⟨k + 1, by omega, by go_num, _, B2, d2, rfl, hown2, HB.out.grown hg2 (by omega) (fun q hq => (HOW.out.lt q hq).1), hX2, by
        rcases hat2 with h | ⟨q, h, hq⟩
        · rw [h]; exact hne
        · rw [h]; intro e; injection e with e; omega, by omega, HD.out⟩
      case measure => simp [intOf]; omega
    · have hd := hf.out
      rw [drop_end hlt] at hd
      have hd : v = out := hd
      have HOW := Lib.hid hown; have HB := Lib.hid hb; have HD := Lib.hid hd; clear hown hb hd hf hX
      go_wp2_with fail
      go_ret
      rw [HD.out]
      exact ⟨B, d, rfl, (HOW.out.sl (by decide)).wide (fun q _ hq => hq.elim False.elim (fun hq => (HOW.out.lt q hq).1)) (by decide), HB.out⟩
end Go.Proofs.YtkjoaodoioicpaaGreatDoor
namespace Go.Proofs.YtkjoaodoioicpaaGreatDoor
open Go.RowKit
end Go.Proofs.YtkjoaodoioicpaaGreatDoor
namespace Go.Proofs.YtkjoaodoioicpaaGreatDoor
open Go.RowKit
def RB (P : Bool → Prop) (e : Ending) : Prop := ∃ q, e = .returned (.bool q) ∧ P q
theorem RB.mk {P : Bool → Prop} {e : Ending} (q : Bool) (h : e = .returned (.bool q)) (hp : P q) : RB P e := ⟨q, h, hp⟩
end Go.Proofs.YtkjoaodoioicpaaGreatDoor
