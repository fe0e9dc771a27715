/- Query (package licitlaw54): a part of the proofs of its laws; see the law's own text, which comes last in 'order'. No conditions of its own. -/
import Derived.Maps.RangeRun
import Derived.Test.YtkjoaodoioicpaaGreatDoorWC16
set_option linter.unusedVariables false
set_option linter.unusedSimpArgs false
namespace Go.Proofs.YtkjoaodoioicpaaGreatDoor
open Go.RowKit Go.ChangeShapes Go.WideShapes Go.MapKept Go.ChangeMaps
section
variable {κ : Type} (T : KeyT κ)
def RangeV (w : World) (b r : Nat) (m left : List (κ × Value)) : Prop :=
  ∃ es clock since seen c0, w.heap[b]? = some (.map es clock) ∧ Stamped es clock ∧ es.toList.map (fun e => (e.key, e.val)) = m.map (fun p => (T.kv p.1, p.2)) ∧ (∀ p ∈ m, T.ok p.1) ∧
    w.heap[r]? = some (.mapIter (some b) since seen c0) ∧ (∀ x ∈ es.toList, x.born < since) ∧ since ≤ c0 ∧ since ≤ clock ∧ (leftOf es seen).toList.map (fun e => (e.key, e.val)) = left.map (fun p => (T.kv p.1, p.2)) ∧ r ≠ b
variable {T}
theorem RangeV.keep {w w' : World} {b r : Nat} {m left : List (κ × Value)} (h : RangeV T w b r m left) (hb : w'.heap[b]? = w.heap[b]?) (hr : w'.heap[r]? = w.heap[r]?) : RangeV T w' b r m left := by
  obtain ⟨es, clock, since, seen, c0, h1, h2, h3, h4, h5, h6⟩ := h
  exact ⟨es, clock, since, seen, c0, hb.trans h1, h2, h3, h4, hr.trans h5, h6⟩
theorem RangeV.lt {w : World} {b r : Nat} {m left : List (κ × Value)} (h : RangeV T w b r m left) : b < w.heap.size ∧ r < w.heap.size ∧ r ≠ b := by
  obtain ⟨es, clock, since, seen, c0, h1, h2, h3, h4, h5, h6, h7, h8, h9, h10⟩ := h
  exact ⟨(Array.getElem?_eq_some_iff.1 h1).1, (Array.getElem?_eq_some_iff.1 h5).1, h10⟩
theorem RangeV.below {w w' : World} {b r : Nat} {m left : List (κ × Value)} (h : RangeV T w b r m left) (hb : Below w.heap.size w w') : RangeV T w' b r m left :=
  h.keep (hb.block _ h.lt.1) (hb.block _ h.lt.2.1)
theorem MapV.range {w : World} {b : Nat} {m : List (κ × Value)} {t e : TypeId} (h : MapV T w b m) (ht : Tryz.prog.underlying t = some (.map T.K e)) :
    ∃ w', (Instr.range t (.map (some b))).run Tryz.prog w = .ok (.pointer (some ⟨w.heap.size, 0, none⟩)) w' ∧ RangeV T w' b w.heap.size m m ∧ Below w.heap.size w w' ∧ w'.heap.size = w.heap.size + 1 := by
  have hlt := h.lt
  obtain ⟨es, clock, hb, hs, hm, hok⟩ := h
  refine ⟨_, run_range_map w t T.K e b es clock ht hb, ⟨es, clock, clock, #[], clock, blkOld hb _, hs, hm, hok, blkAt _ _ rfl, hs.1, Nat.le_refl _, Nat.le_refl _, ?_, by omega⟩, (Below.refl _ _).alloc (Nat.le_refl _) _, by simp⟩
  have : (leftOf es #[]).toList = es.toList := by
    unfold leftOf
    rw [Array.toList_filter]
    exact List.filter_eq_self.2 (fun _ _ => by simp)
  rw [this]
  exact hm
theorem RangeV.next {w : World} {b r : Nat} {m left : List (κ × Value)} (h : RangeV T w b r m left) (ty : TypeId) :
    (left = [] ∧ (Instr.next (.pointer (some ⟨r, 0, none⟩)) false ty).run Tryz.prog w = .ok (.tuple #[.bool false]) w) ∨
    ∃ l1 p l2 w', left = l1 ++ p :: l2 ∧ (Instr.next (.pointer (some ⟨r, 0, none⟩)) false ty).run Tryz.prog w = .ok (.tuple #[.bool true, T.kv p.1, p.2]) w' ∧ RangeV T w' b r m (l1 ++ l2) ∧ w.grownBy w' (some r) ∧ w'.heap.size = w.heap.size ∧
      (Instr.entry (.pointer (some ⟨r, 0, none⟩))).run Tryz.prog w' = .ok (.tuple #[T.kv p.1, p.2]) w' := by
  obtain ⟨es, clock, since, seen, c0, hb, hs, hm, hok, hr, hold, hsc, hsk, hl, hne⟩ := h
  rcases run_next_at (P := Tryz.prog) w ty r b since c0 seen es clock hr hb hold hsc with ⟨h0, hrun⟩ | ⟨e, he, w1, hal, hrun⟩
  · left
    refine ⟨?_, hrun⟩
    have : (leftOf es seen).toList = [] := by
      have : (leftOf es seen) = #[] := Array.eq_empty_of_size_eq_zero h0
      rw [this]
    rw [this] at hl
    cases left with
    | nil => rfl
    | cons a r => cases hl
  · right
    have hr1 : w1.heap[r]? = some (.mapIter (some b) since seen c0) := by rcases hal with rfl | rfl <;> exact hr
    have hb1 : w1.heap[b]? = some (.map es clock) := by rcases hal with rfl | rfl <;> exact hb
    have hset : (setBlock w1 r (.mapIter (some b) since (seen.push e.born) clock)).heap[r]? = some (.mapIter (some b) since (seen.push e.born) clock) ∧ ∀ i, i ≠ r → (setBlock w1 r (.mapIter (some b) since (seen.push e.born) clock)).heap[i]? = w1.heap[i]? := by
      have hlt := (Array.getElem?_eq_some_iff.1 hr1).1
      refine ⟨?_, fun i hi => ?_⟩
      · simp [setBlock, Array.getElem?_setIfInBounds, hlt]
      · simp [setBlock, Array.getElem?_setIfInBounds, Ne.symm hi]
    have hb' := (hset.2 b (fun e1 => hne e1.symm)).trans hb1
    obtain ⟨l1', l2', hsp⟩ := List.append_of_mem he
    have hnd : ((leftOf es seen).toList.map (·.born)).Nodup := by
      have h1 : (leftOf es seen).toList.Sublist es.toList := by
        unfold leftOf
        rw [Array.toList_filter]
        exact List.filter_sublist
      exact (h1.map (fun e : MapEntry => e.born)).nodup hs.2.1
    have hnew : (leftOf es (seen.push e.born)).toList = l1' ++ l2' := by
      have h1 : (leftOf es (seen.push e.born)).toList = (leftOf es seen).toList.filter (fun x => !(x.born == e.born)) := by
        unfold leftOf
        rw [Array.toList_filter, Array.toList_filter, List.filter_filter]
        refine List.filter_congr fun x _ => ?_
        rw [Bool.eq_iff_iff]
        simp only [Bool.not_eq_true', Bool.and_eq_true, Bool.eq_false_iff, ne_eq, beq_iff_eq]
        rw [Array.contains_iff_mem, Array.contains_iff_mem, Array.mem_push]
        constructor
        · intro h; exact ⟨fun e => h (.inr e), fun e => h (.inl e)⟩
        · rintro ⟨h1, h2⟩ (h | h)
          · exact h2 h
          · exact h1 h
      rw [h1, hsp]
      rw [hsp, List.map_append, List.map_cons, List.nodup_append] at hnd
      obtain ⟨n1, n2, n3⟩ := hnd
      rw [List.nodup_cons] at n2
      rw [List.filter_append, List.filter_cons]
      simp only [BEq.rfl, Bool.not_true, Bool.false_eq_true, if_false]
      rw [List.filter_eq_self.2, List.filter_eq_self.2]
      · intro x hx
        have : x.born ≠ e.born := fun h => n2.1 (List.mem_map.2 ⟨x, hx, h⟩)
        simpa using this
      · intro x hx
        have : x.born ≠ e.born := fun h => n3 _ (List.mem_map.2 ⟨x, hx, rfl⟩) _ List.mem_cons_self h
        simpa using this
    rw [hsp, List.map_append, List.map_cons] at hl
    obtain ⟨l1, lr, hle, e1, e2⟩ := List.map_eq_append_iff.1 hl.symm
    obtain ⟨p, l2, rfl, e3, e4⟩ := List.map_eq_cons_iff.1 e2
    injection e3 with e3 e5
    refine ⟨l1, p, l2, _, hle, ?_, ⟨es, clock, since, seen.push e.born, clock, hb', hs, hm, hok, hset.1, hold, hsk, hsk, ?_, hne⟩, ?_, ?_, ?_⟩
    · rw [e3, e5]; exact hrun
    · rw [hnew, List.map_append, List.map_append, e1, e4]
    · rcases hal with rfl | rfl <;> exact ⟨rfl, rfl, rfl, by simp [setBlock], fun i _ hi => hset.2 i (fun e1 => hi (by rw [e1]))⟩
    · rcases hal with rfl | rfl <;> simp [setBlock]
    · have hem : e ∈ es.toList := by
        have := he
        unfold leftOf at this
        rw [Array.toList_filter, List.mem_filter] at this
        exact this.1
      rw [e3, e5]
      exact run_entry_at _ r b since seen es clock e hset.1 hb' hem hs.2.1
end
section
variable {κ : Type} {T : KeyT κ} {ops : Array Oper} {rest : List Oper} {o : Oper} {a : Act} {Q : Exit → Act → World → Prop} {w : World} {b r : Nat} {m left : List (κ × Value)} {t e : TypeId}
theorem wpList_rangeV (hg : o.guard = none) (x : Operand) (hop : o.op = Op.range t x) (ht : Tryz.prog.underlying t = some (.map T.K e)) (hx : a.eval x = .map (some b)) (hm : MapV T w b m)
    (h : ∀ w', RangeV T w' b w.heap.size m m → Below w.heap.size w w' → w'.heap.size = w.heap.size + 1 → wpList Tryz.prog ops Q rest (a.put o.dst (.pointer (some ⟨w.heap.size, 0, none⟩))) w') : wpList Tryz.prog ops Q (o :: rest) a w := by
  refine wpList_plain hg fun K' hK' => ?_
  obtain ⟨w', hrun, r1, r2, r3⟩ := hm.range ht
  unfold Oper.wp
  simp [execOp, hop, hx, hrun, Result.andThen]
  exact hK' _ _ (h w' r1 r2 r3)
theorem wpList_nextV (hg : o.guard = none) (it : Operand) (hop : o.op = Op.next it false) (hit : a.eval it = .pointer (some ⟨r, 0, none⟩)) (hr : RangeV T w b r m left)
    (hDone : left = [] → wpList Tryz.prog ops Q rest (a.put o.dst (.tuple #[.bool false])) w)
    (hMore : ∀ l1 p l2 w', left = l1 ++ p :: l2 → RangeV T w' b r m (l1 ++ l2) → w.grownBy w' (some r) → w'.heap.size = w.heap.size →
      (Instr.entry (.pointer (some ⟨r, 0, none⟩))).run Tryz.prog w' = .ok (.tuple #[T.kv p.1, p.2]) w' → wpList Tryz.prog ops Q rest (a.put o.dst (.tuple #[.bool true, T.kv p.1, p.2])) w') : wpList Tryz.prog ops Q (o :: rest) a w := by
  refine wpList_plain hg fun K' hK' => ?_
  unfold Oper.wp
  rcases hr.next o.type with ⟨h0, hrun⟩ | ⟨l1, p, l2, w', h1, hrun, h2, h3, h4, h5⟩
  · simp [execOp, hop, hit, hrun, Result.andThen]
    exact hK' _ _ (hDone h0)
  · simp [execOp, hop, hit, hrun, Result.andThen]
    exact hK' _ _ (hMore l1 p l2 w' h1 h2 h3 h4 h5)
end
end Go.Proofs.YtkjoaodoioicpaaGreatDoor
namespace Go.Proofs.YtkjoaodoioicpaaGreatDoor
open Go.RowKit
structure Gwn (w w' : World) : Prop where
  below : Below w.heap.size w w'
  drawn : w.drawn ≤ w'.drawn
theorem Gwn.refl (w : World) : Gwn w w := ⟨Below.refl _ _, Nat.le_refl _⟩
theorem Gwn.drew {a w : World} (h : Gwn a w) : Gwn a w.drew := ⟨h.below.drew, Nat.le_trans h.drawn (Nat.le_succ _)⟩
theorem Gwn.alloc {a w : World} (h : Gwn a w) (o : Obj) : Gwn a (w.alloc o) := ⟨h.below.alloc h.below.size o, h.drawn⟩
theorem Gwn.trans {a b c : World} (h : Gwn a b) (k : Gwn b c) : Gwn a c := ⟨h.below.trans (k.below.mono h.below.size), Nat.le_trans h.drawn k.drawn⟩
set_option maxRecDepth 100000 in
set_option maxHeartbeats 4000000 in
theorem compareArgsD_any (a b : Arg) (w : World) :
    Calls Tryz.prog 99 #[vArg a, vArg b] w fun e w' => e = .returned (.int .i64 (cmpArg a b)) ∧ Gwn w w' := by
  obtain ⟨v, hv⟩ : ∃ v, v = cmpArg a b := ⟨_, rfl⟩
  rw [← hv]
  unfold cmpArg at hv
  obtain ⟨ak, at_, an⟩ := a
  obtain ⟨bk, bt, bn⟩ := b
  simp only at hv
  unfold vArg
  simp only
  have HV := Lib.hid hv; clear hv
  go_enter Tryz.func99, Tryz.ntmps99
  go_wp2_with fail
  have hB0 : ((w.alloc (.cells #[.int .i64 ak, .string ⟨at_.toArray⟩, .int .i64 an] 46)).alloc (.cells #[.int .i64 bk, .string ⟨bt.toArray⟩, .int .i64 bn] 46)).heap[w.heap.size]? = some (.cells #[.int .i64 ak, .string ⟨at_.toArray⟩, .int .i64 an] 46 (0, 0)) := blkOld (blkAt w _ rfl) _
  have hB1 : ((w.alloc (.cells #[.int .i64 ak, .string ⟨at_.toArray⟩, .int .i64 an] 46)).alloc (.cells #[.int .i64 bk, .string ⟨bt.toArray⟩, .int .i64 bn] 46)).heap[w.heap.size + 1]? = some (.cells #[.int .i64 bk, .string ⟨bt.toArray⟩, .int .i64 bn] 46 (0, 0)) := blkAt2 (by simp) rfl
  have hbl : Gwn w ((w.alloc (.cells #[.int .i64 ak, .string ⟨at_.toArray⟩, .int .i64 an] 46)).alloc (.cells #[.int .i64 bk, .string ⟨bt.toArray⟩, .int .i64 bn] 46)) := ((Gwn.refl _).alloc _).alloc _
  generalize (w.alloc (.cells #[.int .i64 ak, .string ⟨at_.toArray⟩, .int .i64 an] 46)).alloc (.cells #[.int .i64 bk, .string ⟨bt.toArray⟩, .int .i64 bn] 46) = W at *
  refine wpH_region (fun x => Gwn W x) (by kernel_rfl) ?_
  have hS : Gwn W W.drew := (Gwn.refl _).drew
  have HX := Lib.hid (fun (x : World) (hx : Gwn W x) => And.intro ((cell_blk (keptBlk hx.below hB0) 0).trans rfl) (And.intro ((cell_blk (keptBlk hx.below hB0) 1).trans rfl) (And.intro ((cell_blk (keptBlk hx.below hB0) 2).trans rfl) (And.intro ((cell_blk (keptBlk hx.below hB1) 0).trans rfl) (And.intro ((cell_blk (keptBlk hx.below hB1) 1).trans rfl) ((cell_blk (keptBlk hx.below hB1) 2).trans rfl))))))
  have HBL := Lib.hid hbl
  clear hB0 hB1 hbl
  (refine tkW 0 (v := ?_) hS ?_ ?_; rotate_left; (focus (intro x hx; have fx := HX.out x hx; go_simp; (try with_reducible rfl); done)); (try simp only [Act.put, lsa, lsz, lss]))
  (refine tkW 1 (v := ?_) hS ?_ ?_; rotate_left; (focus (intro x hx; have fx := HX.out x hx; go_simp; (try with_reducible rfl); done)); (try simp only [Act.put, lsa, lsz, lss]))
  (refine tkW 3 (v := ?_) hS ?_ ?_; rotate_left; (focus (intro x hx; have fx := HX.out x hx; go_simp; (try with_reducible rfl); done)); (try simp only [Act.put, lsa, lsz, lss]))
  (refine tkW 4 (v := ?_) hS ?_ ?_; rotate_left; (focus (intro x hx; have fx := HX.out x hx; go_simp; (try with_reducible rfl); done)); (try simp only [Act.put, lsa, lsz, lss]))
  (refine tkW 7 (v := ?_) hS ?_ ?_; rotate_left; (focus (intro x hx; have fx := HX.out x hx; go_simp; (try with_reducible rfl); done)); (try simp only [Act.put, lsa, lsz, lss]))
  (refine tkW 8 (v := ?_) hS ?_ ?_; rotate_left; (focus (intro x hx; have fx := HX.out x hx; go_simp; (try with_reducible rfl); done)); (try simp only [Act.put, lsa, lsz, lss]))
  (refine tkW 9 (v := ?_) hS ?_ ?_; rotate_left; (focus (intro x hx; have fx := HX.out x hx; go_simp; (try with_reducible rfl); done)); (try simp only [Act.put, lsa, lsz, lss]))
  (refine tkW 10 (v := ?_) hS ?_ ?_; rotate_left; (focus (intro x hx; have fx := HX.out x hx; go_simp; (try with_reducible rfl); done)); (try simp only [Act.put, lsa, lsz, lss]))
  (refine tkW 12 (v := ?_) hS ?_ ?_; rotate_left; (focus (intro x hx; have fx := HX.out x hx; go_simp; (try with_reducible rfl); done)); (try simp only [Act.put, lsa, lsz, lss]))
  (refine tkW 13 (v := ?_) hS ?_ ?_; rotate_left; (focus (intro x hx; have fx := HX.out x hx; go_simp; (try with_reducible rfl); done)); (try simp only [Act.put, lsa, lsz, lss]))
  (refine tkW 14 (v := ?_) hS ?_ ?_; rotate_left; (focus (intro x hx; have fx := HX.out x hx; go_simp; (try with_reducible rfl); done)); (try simp only [Act.put, lsa, lsz, lss]))
  (refine tkW 15 (v := ?_) hS ?_ ?_; rotate_left; (focus (intro x hx; have fx := HX.out x hx; go_simp; (try with_reducible rfl); done)); (try simp only [Act.put, lsa, lsz, lss]))
  (refine wpAnyH_one 2 (by kernel_rfl) rfl ?_; intro K' hK'; go_simp; refine (rank_any ak _).mono ?_; rintro e w1 ⟨rfl, rfl⟩; refine hK'.out _ _ hS ?_; clear hK' K')
  (refine wpAnyH_one 5 (by kernel_rfl) rfl ?_; intro K' hK'; go_simp; refine (rank_any bk _).mono ?_; rintro e w1 ⟨rfl, rfl⟩; refine hK'.out _ _ hS ?_; clear hK' K')
  (refine wpAnyH_one 6 (by kernel_rfl) rfl ?_; intro K' hK'; go_simp; refine (cmpI_any _ _ _).mono ?_; rintro e w1 ⟨rfl, rfl⟩; refine hK'.out _ _ hS ?_; clear hK' K')
  (refine wpAnyH_one 11 (by kernel_rfl) rfl ?_; intro K' hK'; go_simp; refine (cmpI_any _ _ _).mono ?_; rintro e w1 ⟨rfl, rfl⟩; refine hK'.out _ _ hS ?_; clear hK' K')
  (refine wpAnyH_one 16 (by kernel_rfl) rfl ?_; intro K' hK'; go_simp; refine (cmpS_any at_ bt _).mono ?_; rintro e w1 ⟨rfl, rfl⟩; refine hK'.out _ _ hS ?_; clear hK' K')
  (refine wpAnyH_one 17 (by kernel_rfl) rfl ?_; intro K' hK'; go_simp; refine hK'.out _ _ (hS.alloc _) ?_; clear hK' K')
  have hS := hS.alloc (.cells #[.int .i64 (cmpI (rankS ak) (rankS bk)), .int .i64 (cmpI an bn), .int .i64 (cmpB at_ bt)] 3)
  (refine wpAnyH_one 18 (by kernel_rfl) rfl ?_; intro K' hK'; go_simp; (first | refine (or_any _ _ _ _ _ _ _ (blkAt _ _ rfl)).mono ?_ | refine (or_any _ _ _ _ _ _ _ (blkDrw (blkAt _ _ rfl))).mono ?_); rintro e w1 ⟨rfl, rfl⟩; refine hK'.out _ _ hS ?_; clear hK' K')
  (refine tkW 19 (v := ?_) hS ?_ ?_; rotate_left; (focus (intro x hx; have fx := HX.out x hx; go_simp; (try with_reducible rfl); done)); (try simp only [Act.put, lsa, lsz, lss]))
  refine wpAnyH_done (by kernel_rfl) ?_ _
  go_wp2_with fail
  go_ret
  exact ⟨ret_int HV.out, HBL.out.trans hS⟩
set_option maxRecDepth 100000 in
set_option maxHeartbeats 4000000 in
theorem compareFuncD_any (A : Option Addr) (n c : Nat) (l : List Arg) (B : Option Addr) (m d : Nat) (r : List Arg) (w : World) (S T : Nat → Prop) (hl : Sl w S A n c l) (hr : Sl w T B m d r) :
    Calls Tryz.prog 98 #[.slice A n c, .slice B m d, .func (.func 99) #[] #[]] w fun e w' => e = .returned (.int .i64 (cmpArgs l r)) ∧ Gwn w w' := by
  obtain ⟨v, hv⟩ : ∃ v, v = cmpArgs l r := ⟨_, rfl⟩
  rw [← hv]
  have hn := hl.len; have hm := hr.len
  subst hn hm
  have hle := hl.le; have hle2 := hr.le
  have Hf : Hid (v = cmpArgs (l.drop 0) (r.drop 0)) := hv
  have HL := Lib.hid hl; have HR := Lib.hid hr
  clear hv hl hr
  go_enter Tryz.func98, Tryz.ntmps98
  go_wp2_with fail
  go_loopw [13] (fun i wr => ∃ k : Nat, k ≤ l.length ∧ i = .int .i64 k ∧ k ≤ r.length ∧ Gwn w wr ∧ Hid (v = cmpArgs (l.drop k) (r.drop k))) (fun i _ => l.length - (intOf i).toNat)
  case atStart => exact ⟨0, by omega, rfl, by omega, Gwn.refl _, Hf⟩
  case round =>
    obtain ⟨k, hk, rfl, hkr, hb, hf⟩ := hrel
    have hwr := hb.below.size
    by_cases hlt : k < l.length
    · obtain ⟨b1, o1, hA, -, hbs1, h1, h2, h3⟩ := (HL.out.below hb.below).arg hlt
      by_cases hlt2 : k < r.length
      · obtain ⟨b2, o2, hB, -, hbs2, g1, g2, g3⟩ := (HR.out.below hb.below).arg hlt2
        have hd := hf.out
        rw [drop_get hlt, drop_get hlt2, cmpArgs] at hd
        subst hA hB
        have hca := fun w => compareArgsD_any l[k] r[k] w
        have hlt2I : ¬ (r.length : Int) ≤ (k : Int) := by omega
        generalize l[k] = x at *
        generalize r[k] = y at *
        unfold vArg at hca
        generalize cmpArg x y = cv at *
        have HD := Lib.hid hd; have HCA := Lib.hid hca; have HB := Lib.hid hb
        clear hd hca hb hf
        by_cases hc0 : cv = 0
        · have hcb : (cv == 0) = true := by simpa using hc0
          have HC0 := Lib.hid hc0; clear hc0
          go_wp2_with fail
          refine (HCA.out _).mono ?_
          rintro e w2 ⟨rfl, hb2⟩
          have hsz2 := hb2.below.size
          simp at hsz2
          go_wp2_with fail
          go_roundw
          case rel =>
            have hd := HD.out
            rw [if_neg (by simp [HC0.out])] at hd
            exact ⟨k + 1, by omega, by go_num, by omega, ((HB.out.alloc _).alloc _).trans hb2, hd⟩
          case measure => simp [intOf]; omega
        · have hcb : (cv == 0) = false := by simpa using hc0
          have HC0 := Lib.hid hc0; clear hc0
          go_wp2_with fail
          refine (HCA.out _).mono ?_
          rintro e w2 ⟨rfl, hb2⟩
          have hsz2 := hb2.below.size
          simp at hsz2
          go_wp2_with fail
          go_ret
          have hd := HD.out
          rw [if_pos HC0.out] at hd
          exact ⟨ret_int hd, ((HB.out.alloc _).alloc _).trans hb2⟩
      · have hd := hf.out
        rw [drop_get hlt, drop_end hlt2, cmpArgs] at hd
        subst hA
        have hlt2I : (r.length : Int) ≤ (k : Int) := by omega
        have HD := Lib.hid hd; have HB := Lib.hid hb; clear hd hb hf
        go_wp2_with fail
        go_ret
        exact ⟨ret_int HD.out, HB.out.alloc _⟩
    · have hd := hf.out
      rw [drop_end hlt] at hd
      by_cases hlt2 : k < r.length
      · rw [drop_get hlt2, cmpArgs] at hd
        have HD := Lib.hid hd; have HB := Lib.hid hb; clear hd hb hf
        have hlI : (l.length : Int) < (r.length : Int) := by omega
        go_wp2_with fail
        go_ret
        exact ⟨ret_int HD.out, HB.out⟩
      · rw [drop_end hlt2, cmpArgs] at hd
        have HD := Lib.hid hd; have HB := Lib.hid hb; clear hd hb hf
        have hlI : ¬ (l.length : Int) < (r.length : Int) := by omega
        go_wp2_with fail
        go_ret
        exact ⟨ret_int HD.out, HB.out⟩
set_option maxRecDepth 100000 in
set_option maxHeartbeats 4000000 in
theorem OrderD_any (x y : Atm) (A : Option Addr) (n c : Nat) (B : Option Addr) (m d : Nat) (w : World) (S T : Nat → Prop) (hl : Sl w S A n c x.args) (hr : Sl w T B m d y.args) :
    Calls Tryz.prog 64 #[.agg #[.string ⟨x.name.toArray⟩, .slice A n c], .agg #[.string ⟨y.name.toArray⟩, .slice B m d]] w fun e w' => e = .returned (.int .i64 (ordS x y)) ∧ Gwn w w' := by
  obtain ⟨v, hv⟩ : ∃ v, v = ordS x y := ⟨_, rfl⟩
  rw [← hv]
  unfold ordS at hv
  have hcf := fun w hl hr => compareFuncD_any A n c x.args B m d y.args w S T hl hr
  obtain ⟨xn, xa⟩ := x
  obtain ⟨yn, ya⟩ := y
  simp only at hl hr hv hcf ⊢
  have hn := hl.len; have hm := hr.len
  subst hn hm
  have hle := hl.le; have hle2 := hr.le
  generalize cmpArgs xa ya = ca at *
  have HV := Lib.hid hv; have HCF := Lib.hid hcf; have HL := Lib.hid hl; have HR := Lib.hid hr
  clear hv hcf hl hr
  go_enter Tryz.func64, Tryz.ntmps64
  go_wp2_with fail
  have hB0 : ((w.alloc (.cells #[.string ⟨xn.toArray⟩, .slice A xa.length c] 31)).alloc (.cells #[.string ⟨yn.toArray⟩, .slice B ya.length d] 31)).heap[w.heap.size]? = some (.cells #[.string ⟨xn.toArray⟩, .slice A xa.length c] 31 (0, 0)) := blkOld (blkAt w _ rfl) _
  have hB1 : ((w.alloc (.cells #[.string ⟨xn.toArray⟩, .slice A xa.length c] 31)).alloc (.cells #[.string ⟨yn.toArray⟩, .slice B ya.length d] 31)).heap[w.heap.size + 1]? = some (.cells #[.string ⟨yn.toArray⟩, .slice B ya.length d] 31 (0, 0)) := blkAt2 (by simp) rfl
  have hbl : Gwn w ((w.alloc (.cells #[.string ⟨xn.toArray⟩, .slice A xa.length c] 31)).alloc (.cells #[.string ⟨yn.toArray⟩, .slice B ya.length d] 31)) := ((Gwn.refl _).alloc _).alloc _
  generalize (w.alloc (.cells #[.string ⟨xn.toArray⟩, .slice A xa.length c] 31)).alloc (.cells #[.string ⟨yn.toArray⟩, .slice B ya.length d] 31) = W at *
  refine wpH_region (fun x => Gwn W x) (by kernel_rfl) ?_
  have hS : Gwn W W.drew := (Gwn.refl _).drew
  have HX := Lib.hid (fun (x : World) (hx : Gwn W x) => And.intro ((cell_blk (keptBlk hx.below hB0) 0).trans rfl) (And.intro ((cell_blk (keptBlk hx.below hB0) 1).trans rfl) (And.intro ((cell_blk (keptBlk hx.below hB1) 0).trans rfl) ((cell_blk (keptBlk hx.below hB1) 1).trans rfl))))
  have HBL := Lib.hid hbl
  clear hB0 hB1 hbl
  (refine tkW 0 (v := ?_) hS ?_ ?_; rotate_left; (focus (intro x hx; have fx := HX.out x hx; go_simp; (try with_reducible rfl); done)); (try simp only [Act.put, lsa, lsz, lss]))
  (refine tkW 1 (v := ?_) hS ?_ ?_; rotate_left; (focus (intro x hx; have fx := HX.out x hx; go_simp; (try with_reducible rfl); done)); (try simp only [Act.put, lsa, lsz, lss]))
  (refine tkW 2 (v := ?_) hS ?_ ?_; rotate_left; (focus (intro x hx; have fx := HX.out x hx; go_simp; (try with_reducible rfl); done)); (try simp only [Act.put, lsa, lsz, lss]))
  (refine tkW 3 (v := ?_) hS ?_ ?_; rotate_left; (focus (intro x hx; have fx := HX.out x hx; go_simp; (try with_reducible rfl); done)); (try simp only [Act.put, lsa, lsz, lss]))
  (refine tkW 5 (v := ?_) hS ?_ ?_; rotate_left; (focus (intro x hx; have fx := HX.out x hx; go_simp; (try with_reducible rfl); done)); (try simp only [Act.put, lsa, lsz, lss]))
  (refine tkW 6 (v := ?_) hS ?_ ?_; rotate_left; (focus (intro x hx; have fx := HX.out x hx; go_simp; (try with_reducible rfl); done)); (try simp only [Act.put, lsa, lsz, lss]))
  (refine tkW 7 (v := ?_) hS ?_ ?_; rotate_left; (focus (intro x hx; have fx := HX.out x hx; go_simp; (try with_reducible rfl); done)); (try simp only [Act.put, lsa, lsz, lss]))
  (refine tkW 8 (v := ?_) hS ?_ ?_; rotate_left; (focus (intro x hx; have fx := HX.out x hx; go_simp; (try with_reducible rfl); done)); (try simp only [Act.put, lsa, lsz, lss]))
  (refine tkW 9 (v := ?_) hS ?_ ?_; rotate_left; (focus (intro x hx; have fx := HX.out x hx; go_simp; (try with_reducible rfl); done)); (try simp only [Act.put, lsa, lsz, lss]))
  (refine tkW 10 (v := ?_) hS ?_ ?_; rotate_left; (focus (intro x hx; have fx := HX.out x hx; go_simp; (try with_reducible rfl); done)); (try simp only [Act.put, lsa, lsz, lss]))
  (refine tkW 12 (v := ?_) hS ?_ ?_; rotate_left; (focus (intro x hx; have fx := HX.out x hx; go_simp; (try with_reducible rfl); done)); (try simp only [Act.put, lsa, lsz, lss]))
  (refine tkW 13 (v := ?_) hS ?_ ?_; rotate_left; (focus (intro x hx; have fx := HX.out x hx; go_simp; (try with_reducible rfl); done)); (try simp only [Act.put, lsa, lsz, lss]))
  (refine tkW 14 (v := ?_) hS ?_ ?_; rotate_left; (focus (intro x hx; have fx := HX.out x hx; go_simp; (try with_reducible rfl); done)); (try simp only [Act.put, lsa, lsz, lss]))
  (refine tkW 15 (v := ?_) hS ?_ ?_; rotate_left; (focus (intro x hx; have fx := HX.out x hx; go_simp; (try with_reducible rfl); done)); (try simp only [Act.put, lsa, lsz, lss]))
  (refine wpAnyH_one 4 (by kernel_rfl) rfl ?_; intro K' hK'; go_simp; refine (cmpS_any xn yn _).mono ?_; rintro e w1 ⟨rfl, rfl⟩; refine hK'.out _ _ hS ?_; clear hK' K')
  (refine wpAnyH_one 11 (by kernel_rfl) rfl ?_; intro K' hK'; go_simp; refine (cmpI_any _ _ _).mono ?_; rintro e w1 ⟨rfl, rfl⟩; refine hK'.out _ _ hS ?_; clear hK' K')
  (refine wpAnyH_one 16 (by kernel_rfl) rfl ?_; intro K' hK'; go_simp; refine (HCF.out _ (HL.out.below (HBL.out.trans hS).below) (HR.out.below (HBL.out.trans hS).below)).mono ?_; rintro e w5 ⟨rfl, hb5⟩; have hS := hS.trans hb5; refine hK'.out _ _ hS ?_; clear hK' K')
  (refine wpAnyH_one 17 (by kernel_rfl) rfl ?_; intro K' hK'; go_simp; refine hK'.out _ _ (hS.alloc _) ?_; clear hK' K')
  have hS := hS.alloc (.cells #[.int .i64 (cmpB xn yn), .int .i64 (cmpI xa.length ya.length), .int .i64 ca] 3)
  (refine wpAnyH_one 18 (by kernel_rfl) rfl ?_; intro K' hK'; go_simp; (first | refine (or_any _ _ _ _ _ _ _ (blkAt _ _ rfl)).mono ?_ | refine (or_any _ _ _ _ _ _ _ (blkDrw (blkAt _ _ rfl))).mono ?_); rintro e w1 ⟨rfl, rfl⟩; refine hK'.out _ _ hS ?_; clear hK' K')
  (refine tkW 19 (v := ?_) hS ?_ ?_; rotate_left; (focus (intro x hx; have fx := HX.out x hx; go_simp; (try with_reducible rfl); done)); (try simp only [Act.put, lsa, lsz, lss]))
  refine wpAnyH_done (by kernel_rfl) ?_ _
  go_wp2_with fail
  go_ret
  exact ⟨ret_int HV.out, HBL.out.trans hS⟩
end Go.Proofs.YtkjoaodoioicpaaGreatDoor
namespace Go.Proofs.YtkjoaodoioicpaaGreatDoor
open Go.RowKit
def BaseX (w : World) (F I : Nat → Prop) (p fb ib : Nat) (L : List Atm) (lst : Plc → List Atm) : Prop :=
  ∃ fm im, w.heap[p]? = some (.cells #[.map (some fb), .map (some ib)] 91 (0, 0)) ∧ F fb ∧ F ib ∧ fb < p ∧ ib < p ∧ fb ≠ ib ∧
    MapV TS w fb fm ∧ MapV TP w ib im ∧ fm.map (·.1) = L.map (fun a => (printAtomS a).1) ∧ (∀ i (h : i < fm.length) (h' : i < L.length), FactV w I fm[i].2 L[i]) ∧
    (∀ q, OkP q → ∃ B c, (getM im q).getD (.slice none 0 0) = .slice B (lst q).length c ∧ Own w I (p + 1) 31 B c (lst q) ∧ ∀ k, B.map Addr.block = some k → F k) ∧
    (∀ q q' B B' n n' c c', OkP q → OkP q' → q ≠ q' → (getM im q).getD (.slice none 0 0) = .slice B n c → (getM im q').getD (.slice none 0 0) = .slice B' n' c' → ∀ k, B.map Addr.block = some k → B'.map Addr.block ≠ some k)
structure BaseW (w : World) (F I : Nat → Prop) (p fb ib : Nat) (L : List Atm) (lst : Plc → List Atm) : Prop where
  ex : BaseX w F I p fb ib L lst
  nf : ¬ F p ∧ ¬ I p
  apart : ∀ k, F k → ¬ I k
  bd : ∀ k, F k ∨ I k → k < w.heap.size
  gr : Gr L
section
variable {w w' : World} {F I : Nat → Prop} {p fb ib : Nat} {L : List Atm} {lst : Plc → List Atm}
theorem BaseR.toW (h : BaseR w F I p L) (hb : ∀ k, F k ∨ I k → k < w.heap.size) : ∃ fb ib, BaseW w F I p fb ib L (idxL L) := by
  obtain ⟨fb, ib, fm, im, hx⟩ := h.ex
  exact ⟨fb, ib, ⟨⟨fm, im, hx⟩, h.nf, h.apart, hb, h.gr⟩⟩
theorem BaseW.toR (h : BaseW w F I p fb ib L lst) (hl : ∀ q, OkP q → lst q = idxL L q) (hn : L.Nodup) : BaseR w F I p L := by
  obtain ⟨fm, im, h0, h1, h2, h3, h3', h4, h5, h6, h7, h8, h9, h10⟩ := h.ex
  refine ⟨⟨fb, ib, fm, im, h0, h1, h2, h3, h3', h4, h5, h6, h7, h8, fun q hq => ?_, h10⟩, h.nf, h.apart, h.gr, hn⟩
  rw [← hl q hq]
  exact h9 q hq
theorem BaseW.lt (h : BaseW w F I p fb ib L lst) : p < w.heap.size := by
  obtain ⟨fm, im, h0, _⟩ := h.ex
  exact (Array.getElem?_eq_some_iff.1 h0).1
theorem BaseW.blk (h : BaseW w F I p fb ib L lst) : w.heap[p]? = some (.cells #[.map (some fb), .map (some ib)] 91 (0, 0)) := by
  obtain ⟨fm, im, h0, _⟩ := h.ex
  exact h0
theorem BaseW.maps (h : BaseW w F I p fb ib L lst) : F fb ∧ F ib ∧ fb < p ∧ ib < p ∧ fb ≠ ib := by
  obtain ⟨fm, im, h0, h1, h2, h3, h3', h4, _⟩ := h.ex
  exact ⟨h1, h2, h3, h3', h4⟩
theorem BaseW.wider (h : BaseW w F I p fb ib L lst) (hb : Below w.heap.size w w') {J : Nat → Prop} (hJ : ∀ k, J k → w.heap.size ≤ k ∧ k < w'.heap.size) : BaseW w' F (fun k => I k ∨ J k) p fb ib L lst := by
  have hlt := h.lt
  obtain ⟨fm, im, h0, h1, h2, h3, h3', h4, h5, h6, h7, h8, h9, h10⟩ := h.ex
  refine ⟨⟨fm, im, keptBlk hb h0, h1, h2, h3, h3', h4, h5.below hb, h6.below hb, h7, ?_, ?_, h10⟩, ⟨h.nf.1, fun e => e.elim h.nf.2 fun e => by have := hJ _ e; omega⟩, fun k hk e => e.elim (h.apart k hk) fun e => by have := hJ _ e; have := h.bd k (.inl hk); omega, ?_, h.gr⟩
  · intro i hi hi'
    obtain ⟨A, n, c, e, hs⟩ := h8 i hi hi'
    exact ⟨A, n, c, e, (hs.below hb).wide (fun k _ hk => .inl hk) (by decide)⟩
  · intro q hq
    obtain ⟨B, c, e, ho, hF⟩ := h9 q hq
    exact ⟨B, c, e, (ho.below hb).wide (fun k _ hk => .inl hk), hF⟩
  · intro k hk
    have := hb.size
    rcases hk with hk | hk | hk
    · have := h.bd k (.inl hk); omega
    · have := h.bd k (.inr hk); omega
    · exact (hJ k hk).2
theorem BaseW.below (h : BaseW w F I p fb ib L lst) (hb : Below w.heap.size w w') : BaseW w' F I p fb ib L lst := by
  obtain ⟨fm, im, h0, h1, h2, h3, h3', h4, h5, h6, h7, h8, h9, h10⟩ := h.ex
  refine ⟨⟨fm, im, keptBlk hb h0, h1, h2, h3, h3', h4, h5.below hb, h6.below hb, h7, ?_, ?_, h10⟩, h.nf, h.apart, fun k hk => Nat.lt_of_lt_of_le (h.bd k hk) hb.size, h.gr⟩
  · intro i hi hi'
    obtain ⟨A, n, c, e, hs⟩ := h8 i hi hi'
    exact ⟨A, n, c, e, hs.below hb⟩
  · intro q hq
    obtain ⟨B, c, e, ho, hF⟩ := h9 q hq
    exact ⟨B, c, e, ho.below hb, hF⟩
theorem BaseW.facts (h : BaseW w F I p fb ib L lst) : ∃ fm, MapV TS w fb fm ∧ (∀ x, (getM fm (printAtomS x).1).isSome = L.contains x) ∧
    (∀ s, ∃ s' A' n' c', (getM fm s).getD (.agg #[.string ⟨#[]⟩, .slice none 0 0]) = .agg #[.string s', .slice A' n' c']) ∧
    ∀ x v (w' : World), groundP x = true → x ∉ L → FactV w I v x → MapV TS w' fb (setM fm (printAtomS x).1 v) → w.grownBy w' (some fb) → BaseW w' F I p fb ib (L ++ [x]) lst := by
  have hlt := h.lt
  have hap := h.apart
  have hnf := h.nf
  obtain ⟨fm, im, h0, h1, h2, h3, h3', h4, h5, h6, h7, h8, h9, h10⟩ := h.ex
  refine ⟨fm, h5, fun x => has_key' h.gr h7 x, fun s => fact_at h7 h8 s, fun x v w' hx hn hv hm hg => ?_⟩
  have hk : ∀ k, k ≠ fb → k < w.heap.size → w'.heap[k]? = w.heap[k]? := fun k hne hk => hg.block k hk (fun e => hne (by injection e))
  have hnew : ∀ q ∈ fm, q.1 ≠ (printAtomS x).1 := by
    intro q hq e
    have h1 := has_key' h.gr h7 x
    have h2 : (getM fm (printAtomS x).1).isSome = true := getM_mem.2 (List.mem_map.2 ⟨q, hq, e⟩)
    rw [h2] at h1
    exact hn (List.contains_iff_mem.1 h1.symm)
  have hFI : ∀ k, I k → k ≠ fb := fun k hk e => hap fb h1 (by rw [← e]; exact hk)
  rw [setM_none v hnew] at hm
  refine ⟨⟨_, im, (hk p (by omega) hlt).trans h0, h1, h2, h3, h3', h4, hm, h6.keep (hk _ (fun e => h4 e.symm) h6.lt), by rw [List.map_append, List.map_append, h7]; rfl, ?_, ?_, h10⟩, hnf, hap, fun k hk => Nat.lt_of_lt_of_le (h.bd k hk) hg.size, ?_⟩
  · have hl : fm.length = L.length := by have := congrArg List.length h7; simpa using this
    intro i hi hi'
    by_cases hlt : i < L.length
    · rw [List.getElem_append_left (by omega), List.getElem_append_left hlt]
      obtain ⟨A, n, c, e, hs⟩ := h8 i (by omega) hlt
      exact ⟨A, n, c, e, hs.keep fun k hk' hI => hk k (hFI k hI) hk'⟩
    · rw [List.length_append, List.length_singleton] at hi hi'
      have : i = L.length := by omega
      subst this
      rw [List.getElem_append_right (by omega), List.getElem_append_right (Nat.le_refl _)]
      simp only [hl, Nat.sub_self, List.getElem_cons_zero]
      obtain ⟨A, n, c, e, hs⟩ := hv
      exact ⟨A, n, c, e, hs.keep fun k hk' hI => hk k (hFI k hI) hk'⟩
  · intro q hq
    obtain ⟨B, c, e, ho, hF⟩ := h9 q hq
    refine ⟨B, c, e, ho.keep fun k hk' hI => hk k ?_ hk', hF⟩
    rcases hI with hI | hI
    · exact hFI k hI
    · have := (ho.lt k hI).1; omega
  · intro a ha
    rcases List.mem_append.1 ha with ha | ha
    · exact h.gr a ha
    · rw [List.mem_singleton.1 ha]; exact hx
theorem BaseW.place (h : BaseW w F I p fb ib L lst) (q : Plc) (hq : OkP q) : ∃ im B c, MapV TP w ib im ∧ (getM im q).getD (.slice none 0 0) = .slice B (lst q).length c ∧ Own w I (p + 1) 31 B c (lst q) ∧ (∀ k, B.map Addr.block = some k → F k) ∧
    ∀ x (w' : World) B' c', MapV TP w' ib (setM im q (.slice B' ((lst q).length + 1) c')) → Own w' I (p + 1) 31 B' c' (lst q ++ [x]) → (B'.map Addr.block = B.map Addr.block ∨ ∀ k, B'.map Addr.block = some k → w.heap.size ≤ k) → w.heap.size ≤ w'.heap.size →
      (∀ k, k < w.heap.size → k ≠ ib → B.map Addr.block ≠ some k → w'.heap[k]? = w.heap[k]?) → BaseW w' (fun k => F k ∨ B'.map Addr.block = some k) I p fb ib L (fun q' => if q' = q then lst q ++ [x] else lst q') := by
  have hlt := h.lt
  have hap := h.apart
  have hnf := h.nf
  obtain ⟨fm, im, h0, h1, h2, h3, h3', h4, h5, h6, h7, h8, h9, h10⟩ := h.ex
  obtain ⟨B, c, e, ho, hF⟩ := h9 q hq
  refine ⟨im, B, c, h6, e, ho, hF, fun x w' B' c' hm ho' hat hsz hk => ?_⟩
  have hIi : ∀ k, I k → k ≠ ib := fun k hk e => hap ib h2 (by rw [← e]; exact hk)
  have hIB : ∀ k, I k → B.map Addr.block ≠ some k := fun k hk e => hap k (hF k e) hk
  have hlow : ∀ k, k ≤ p → B.map Addr.block ≠ some k := fun k hk e => by have := (ho.lt k e).1; omega
  have hF' : ∀ k, B'.map Addr.block = some k → F k ∨ w.heap.size ≤ k := fun k hk => by
    rcases hat with hat | hat
    · exact .inl (hF k (by rw [← hat]; exact hk))
    · exact .inr (hat k hk)
  refine ⟨⟨fm, _, (hk p hlt (by omega) (hlow p (Nat.le_refl _))).trans h0, .inl h1, .inl h2, h3, h3', h4, h5.keep (hk fb h5.lt h4 (hlow fb (by omega))), hm, h7, ?_, ?_, ?_⟩, ⟨fun e => e.elim hnf.1 fun e => by have := (ho'.lt p e).1; omega, hnf.2⟩, fun k hk' hI => ?_, fun k hk' => ?_, h.gr⟩
  · intro i hi hi'
    obtain ⟨A, n, c, e, hs⟩ := h8 i hi hi'
    exact ⟨A, n, c, e, hs.keep fun k hk' hI => hk k hk' (hIi k hI) (hIB k hI)⟩
  · intro q' hq'
    show ∃ B2 c2, (getM (setM im q (.slice B' ((lst q).length + 1) c')) q').getD (.slice none 0 0) = .slice B2 (if q' = q then lst q ++ [x] else lst q').length c2 ∧ Own w' I (p + 1) 31 B2 c2 (if q' = q then lst q ++ [x] else lst q') ∧ ∀ k, B2.map Addr.block = some k → F k ∨ B'.map Addr.block = some k
    by_cases hqq : q' = q
    · subst hqq
      rw [if_pos rfl, getM_set, if_pos rfl]
      exact ⟨B', c', by rw [List.length_append]; rfl, ho', fun k hk => .inr hk⟩
    · rw [if_neg hqq, getM_set, if_neg (fun e => hqq e.symm)]
      obtain ⟨B2, c2, e2, ho2, hF2⟩ := h9 q' hq'
      refine ⟨B2, c2, e2, ho2.keep fun k hk' hI => ?_, fun k hk => .inl (hF2 k hk)⟩
      rcases hI with hI | hI
      · exact hk k hk' (hIi k hI) (hIB k hI)
      · exact hk k hk' (by have := (ho2.lt k hI).1; omega) (fun e3 => h10 q q' B B2 _ _ c c2 hq hq' (fun e => hqq e.symm) e e2 k e3 hI)
  · intro q1 q2 B1 B2 n1 n2 c1 c2 hq1 hq2 hne g1 g2 k hb1 hb2
    rw [getM_set] at g1 g2
    by_cases e1 : q = q1
    · rw [if_pos e1] at g1
      rw [if_neg (fun e => hne (e1.symm.trans e))] at g2
      injection g1 with g1 _ _
      obtain ⟨B3, c3, e3, ho3, hF3⟩ := h9 q2 hq2
      rw [e3] at g2
      injection g2 with g2 _ _
      subst g1 g2
      rcases hat with hat | hat
      · exact h10 q q2 B B3 _ _ c c3 hq hq2 (by rw [e1]; exact hne) e e3 k (by rw [← hat]; exact hb1) hb2
      · have := hat k hb1
        have := (ho3.lt k hb2).2
        omega
    · rw [if_neg e1] at g1
      by_cases e2 : q = q2
      · rw [if_pos e2] at g2
        injection g2 with g2 _ _
        obtain ⟨B3, c3, e3, ho3, hF3⟩ := h9 q1 hq1
        rw [e3] at g1
        injection g1 with g1 _ _
        subst g1 g2
        rcases hat with hat | hat
        · exact h10 q1 q B3 B _ _ c3 c hq1 hq (by rw [e2]; exact hne) e3 e k hb1 (by rw [← hat]; exact hb2)
        · have := hat k hb2
          have := (ho3.lt k hb1).2
          omega
      · rw [if_neg e2] at g2
        exact h10 q1 q2 B1 B2 n1 n2 c1 c2 hq1 hq2 hne g1 g2 k hb1 hb2
  · rcases hk' with hk' | hk'
    · exact hap k hk' hI
    · rcases hF' k hk' with h' | h'
      · exact hap k h' hI
      · have := h.bd k (.inr hI); omega
  · rcases hk' with (hk' | hk') | hk'
    · have := h.bd k (.inl hk'); omega
    · exact (ho'.lt k hk').2
    · have := h.bd k (.inr hk'); omega
theorem BaseW.congr {lst' : Plc → List Atm} (h : BaseW w F I p fb ib L lst) (hl : ∀ q, OkP q → lst q = lst' q) : BaseW w F I p fb ib L lst' := by
  obtain ⟨fm, im, h0, h1, h2, h3, h3', h4, h5, h6, h7, h8, h9, h10⟩ := h.ex
  refine ⟨⟨fm, im, h0, h1, h2, h3, h3', h4, h5, h6, h7, h8, fun q hq => ?_, h10⟩, h.nf, h.apart, h.bd, h.gr⟩
  rw [← hl q hq]
  exact h9 q hq
end
def lstK (L : List Atm) (x : Atm) (k : Int) (q : Plc) : List Atm := idxL L q ++ (if matchP q x && decide (q.at_ < k) then [x] else [])
theorem match_at {q : Plc} {x : Atm} (h : matchP q x = true) : (q.at_ = -1 ∧ q = basePl x) ∨ ∃ (i : Nat) (y : Arg), q.at_ = i ∧ x.args[i]? = some y ∧ q = argPl x i y := by
  obtain ⟨nm, ar, at_, kd, nu, tx⟩ := q
  unfold matchP at h
  simp only [Bool.and_eq_true, beq_iff_eq] at h
  obtain ⟨⟨h1, h2⟩, h3⟩ := h
  by_cases ha : at_ = -1
  · left
    rw [if_pos ha] at h3
    simp only [Bool.and_eq_true, beq_iff_eq, List.isEmpty_iff] at h3
    refine ⟨ha, ?_⟩
    unfold basePl
    rw [← h1, ← h2, ha, h3.1.1, h3.1.2, h3.2]
  · right
    rw [if_neg ha] at h3
    simp only [Bool.and_eq_true, decide_eq_true_eq] at h3
    obtain ⟨h3, h4⟩ := h3
    refine ⟨at_.toNat, ?_⟩
    cases hg : x.args[at_.toNat]? with
    | none => rw [hg] at h4; cases h4
    | some y =>
      rw [hg] at h4
      have h4 : y = ⟨kd, tx, nu⟩ := by simpa using h4
      refine ⟨y, by simp only; omega, rfl, ?_⟩
      unfold argPl
      rw [← h1, ← h2, h4, Int.toNat_of_nonneg h3]
theorem match_base (x : Atm) : matchP (basePl x) x = true := by simp [matchP, basePl]
theorem match_arg {x : Atm} {i : Nat} {y : Arg} (h : x.args[i]? = some y) : matchP (argPl x i y) x = true := by
  have : ¬ ((i : Int) = -1) := by omega
  simp [matchP, argPl, h, this]
theorem lstK_start (L : List Atm) (x : Atm) (q : Plc) : idxL L q = lstK L x (-1) q := by
  unfold lstK
  cases hm : matchP q x
  · simp
  · have : ¬ q.at_ < -1 := by
      rcases match_at hm with ⟨h, _⟩ | ⟨i, y, h, _⟩ <;> omega
    simp [this]
theorem lstK_base (L : List Atm) (x : Atm) (q : Plc) : (if q = basePl x then lstK L x (-1) (basePl x) ++ [x] else lstK L x (-1) q) = lstK L x 0 q := by
  by_cases h : q = basePl x
  · rw [if_pos h, h]
    unfold lstK
    rw [match_base]
    simp [basePl]
  · rw [if_neg h]
    unfold lstK
    cases hm : matchP q x
    · rfl
    · rcases match_at hm with ⟨h1, h2⟩ | ⟨i, y, h1, h2, h3⟩
      · exact absurd h2 h
      · have e1 : ¬ q.at_ < -1 := by omega
        have e2 : ¬ q.at_ < 0 := by omega
        simp [e1, e2]
theorem lstK_arg (L : List Atm) {x : Atm} {i : Nat} {y : Arg} (hi : x.args[i]? = some y) (q : Plc) : (if q = argPl x i y then lstK L x i (argPl x i y) ++ [x] else lstK L x i q) = lstK L x ((i : Int) + 1) q := by
  by_cases h : q = argPl x i y
  · rw [if_pos h, h]
    unfold lstK
    rw [match_arg hi]
    have e1 : (argPl x i y).at_ = i := rfl
    rw [e1]
    have e2 : ¬ ((i : Int) < i) := by omega
    have e3 : ((i : Int) < (i : Int) + 1) := by omega
    simp [e2, e3]
  · rw [if_neg h]
    unfold lstK
    cases hm : matchP q x
    · rfl
    · rcases match_at hm with ⟨h1, h2⟩ | ⟨j, z, h1, h2, h3⟩
      · have e1 : q.at_ < i := by omega
        have e2 : q.at_ < (i : Int) + 1 := by omega
        simp [e1, e2]
      · have hne : j ≠ i := by
          intro e
          subst e
          rw [hi] at h2
          injection h2 with h2
          exact h (by rw [h3, h2])
        have : (q.at_ < (i : Int) + 1) ↔ q.at_ < i := by omega
        simp [this]
theorem lstK_end (L : List Atm) (x : Atm) (q : Plc) : lstK L x x.args.length q = idxL (L ++ [x]) q := by
  unfold lstK idxL
  rw [List.filter_append, List.filter_cons, List.filter_nil]
  cases hm : matchP q x
  · simp
  · have : q.at_ < (x.args.length : Int) := by
      rcases match_at hm with ⟨h1, h2⟩ | ⟨j, z, h1, h2, h3⟩
      · omega
      · have := (List.getElem?_eq_some_iff.1 h2).1; omega
    simp [this]
end Go.Proofs.YtkjoaodoioicpaaGreatDoor
