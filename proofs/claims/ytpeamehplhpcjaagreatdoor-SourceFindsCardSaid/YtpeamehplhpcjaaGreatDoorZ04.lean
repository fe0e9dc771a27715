/- A part of the proofs of the laws of one package; see the law's own text, which comes last in 'order'. No conditions of its own. -/
import Derived.Maps.RangeRun
import Derived.Test.YtpeamehplhpcjaaGreatDoorZ02
import Derived.Test.YtpeamehplhpcjaaGreatDoorZ03
set_option linter.unusedVariables false
set_option linter.unusedSimpArgs false
namespace Go.Proofs.YtpeamehplhpcjaaGreatDoor
open Go.RowKit Go.ChangeShapes Go.WideShapes Go.MapKept Go.ChangeMaps
section
variable {κ : Type} (T : KeyT κ)
def RangeV (w : World) (b r : Nat) (m left : List (κ × Value)) : Prop :=
  ∃ es clock since seen c0, w.heap[b]? = some (.map es clock) ∧ Stamped es clock ∧ es.toList.map (fun e => (e.key, e.val)) = m.map (fun p => (T.kv p.1, p.2)) ∧ (∀ p ∈ m, T.ok p.1) ∧
    w.heap[r]? = some (.mapIter (some b) since seen c0) ∧ (∀ x ∈ es.toList, x.born < since) ∧ since ≤ c0 ∧ since ≤ clock ∧ (leftOf es seen).toList.map (fun e => (e.key, e.val)) = left.map (fun p => (T.kv p.1, p.2)) ∧ r ≠ b
variable {T}
theorem RangeV.keep {w w' : World} {b r : Nat} {m left : List (κ × Value)} (h : RangeV T w b r m left) (hb : w'.heap[b]? = w.heap[b]?) (hr : w'.heap[r]? = w.heap[r]?) : RangeV T w' b r m left := by
  obtain ⟨es, clock, since, seen, c0, h1, h2, h3, h4, h5, h6⟩ := h
  exact ⟨es, clock, since, seen, c0, hb.trans h1, h2, h3, h4, hr.trans h5, h6⟩
theorem RangeV.lt {w : World} {b r : Nat} {m left : List (κ × Value)} (h : RangeV T w b r m left) : b < w.heap.size ∧ r < w.heap.size ∧ r ≠ b := by
  obtain ⟨es, clock, since, seen, c0, h1, h2, h3, h4, h5, h6, h7, h8, h9, h10⟩ := h
  exact ⟨(Array.getElem?_eq_some_iff.1 h1).1, (Array.getElem?_eq_some_iff.1 h5).1, h10⟩
theorem RangeV.below {w w' : World} {b r : Nat} {m left : List (κ × Value)} (h : RangeV T w b r m left) (hb : Below w.heap.size w w') : RangeV T w' b r m left :=
  h.keep (hb.block _ h.lt.1) (hb.block _ h.lt.2.1)
theorem MapV.range {w : World} {b : Nat} {m : List (κ × Value)} {t e : TypeId} (h : MapV T w b m) (ht : Tryz.prog.underlying t = some (.map T.K e)) :
    ∃ w', (Instr.range t (.map (some b))).run Tryz.prog w = .ok (.pointer (some ⟨w.heap.size, 0, none⟩)) w' ∧ RangeV T w' b w.heap.size m m ∧ Below w.heap.size w w' ∧ w'.heap.size = w.heap.size + 1 := by
  have hlt := h.lt
  obtain ⟨es, clock, hb, hs, hm, hok⟩ := h
  refine ⟨_, run_range_map w t T.K e b es clock ht hb, ⟨es, clock, clock, #[], clock, blkOld hb _, hs, hm, hok, blkAt _ _ rfl, hs.1, Nat.le_refl _, Nat.le_refl _, ?_, by omega⟩, (Below.refl _ _).alloc (Nat.le_refl _) _, by simp⟩
  have : (leftOf es #[]).toList = es.toList := by
    unfold leftOf
    rw [Array.toList_filter]
    exact List.filter_eq_self.2 (fun _ _ => by simp)
  rw [this]
  exact hm
theorem RangeV.next {w : World} {b r : Nat} {m left : List (κ × Value)} (h : RangeV T w b r m left) (ty : TypeId) :
    (left = [] ∧ (Instr.next (.pointer (some ⟨r, 0, none⟩)) false ty).run Tryz.prog w = .ok (.tuple #[.bool false]) w) ∨
    ∃ l1 p l2 w', left = l1 ++ p :: l2 ∧ (Instr.next (.pointer (some ⟨r, 0, none⟩)) false ty).run Tryz.prog w = .ok (.tuple #[.bool true, T.kv p.1, p.2]) w' ∧ RangeV T w' b r m (l1 ++ l2) ∧ w.grownBy w' (some r) ∧ w'.heap.size = w.heap.size ∧
      (Instr.entry (.pointer (some ⟨r, 0, none⟩))).run Tryz.prog w' = .ok (.tuple #[T.kv p.1, p.2]) w' := by
  obtain ⟨es, clock, since, seen, c0, hb, hs, hm, hok, hr, hold, hsc, hsk, hl, hne⟩ := h
  rcases run_next_at (P := Tryz.prog) w ty r b since c0 seen es clock hr hb hold hsc with ⟨h0, hrun⟩ | ⟨e, he, w1, hal, hrun⟩
  · left
    refine ⟨?_, hrun⟩
    have : (leftOf es seen).toList = [] := by
      have : (leftOf es seen) = #[] := Array.eq_empty_of_size_eq_zero h0
      rw [this]
    rw [this] at hl
    cases left with
    | nil => rfl
    | cons a r => cases hl
  · right
    have hr1 : w1.heap[r]? = some (.mapIter (some b) since seen c0) := by rcases hal with rfl | rfl <;> exact hr
    have hb1 : w1.heap[b]? = some (.map es clock) := by rcases hal with rfl | rfl <;> exact hb
    have hset : (setBlock w1 r (.mapIter (some b) since (seen.push e.born) clock)).heap[r]? = some (.mapIter (some b) since (seen.push e.born) clock) ∧ ∀ i, i ≠ r → (setBlock w1 r (.mapIter (some b) since (seen.push e.born) clock)).heap[i]? = w1.heap[i]? := by
      have hlt := (Array.getElem?_eq_some_iff.1 hr1).1
      refine ⟨?_, fun i hi => ?_⟩
      · simp [setBlock, Array.getElem?_setIfInBounds, hlt]
      · simp [setBlock, Array.getElem?_setIfInBounds, Ne.symm hi]
    have hb' := (hset.2 b (fun e1 => hne e1.symm)).trans hb1
    obtain ⟨l1', l2', hsp⟩ := List.append_of_mem he
    have hnd : ((leftOf es seen).toList.map (·.born)).Nodup := by
      have h1 : (leftOf es seen).toList.Sublist es.toList := by
        unfold leftOf
        rw [Array.toList_filter]
        exact List.filter_sublist
      exact (h1.map (fun e : MapEntry => e.born)).nodup hs.2.1
    have hnew : (leftOf es (seen.push e.born)).toList = l1' ++ l2' := by
      have h1 : (leftOf es (seen.push e.born)).toList = (leftOf es seen).toList.filter (fun x => !(x.born == e.born)) := by
        unfold leftOf
        rw [Array.toList_filter, Array.toList_filter, List.filter_filter]
        refine List.filter_congr fun x _ => ?_
        rw [Bool.eq_iff_iff]
        simp only [Bool.not_eq_true', Bool.and_eq_true, Bool.eq_false_iff, ne_eq, beq_iff_eq]
        rw [Array.contains_iff_mem, Array.contains_iff_mem, Array.mem_push]
        constructor
        · intro h; exact ⟨fun e => h (.inr e), fun e => h (.inl e)⟩
        · rintro ⟨h1, h2⟩ (h | h)
          · exact h2 h
          · exact h1 h
      rw [h1, hsp]
      rw [hsp, List.map_append, List.map_cons, List.nodup_append] at hnd
      obtain ⟨n1, n2, n3⟩ := hnd
      rw [List.nodup_cons] at n2
      rw [List.filter_append, List.filter_cons]
      simp only [BEq.rfl, Bool.not_true, Bool.false_eq_true, if_false]
      rw [List.filter_eq_self.2, List.filter_eq_self.2]
      · intro x hx
        have : x.born ≠ e.born := fun h => n2.1 (List.mem_map.2 ⟨x, hx, h⟩)
        simpa using this
      · intro x hx
        have : x.born ≠ e.born := fun h => n3 _ (List.mem_map.2 ⟨x, hx, rfl⟩) _ List.mem_cons_self h
        simpa using this
    rw [hsp, List.map_append, List.map_cons] at hl
    obtain ⟨l1, lr, hle, e1, e2⟩ := List.map_eq_append_iff.1 hl.symm
    obtain ⟨p, l2, rfl, e3, e4⟩ := List.map_eq_cons_iff.1 e2
    injection e3 with e3 e5
    refine ⟨l1, p, l2, _, hle, ?_, ⟨es, clock, since, seen.push e.born, clock, hb', hs, hm, hok, hset.1, hold, hsk, hsk, ?_, hne⟩, ?_, ?_, ?_⟩
    · rw [e3, e5]; exact hrun
    · rw [hnew, List.map_append, List.map_append, e1, e4]
    · rcases hal with rfl | rfl <;> exact ⟨rfl, rfl, rfl, by simp [setBlock], fun i _ hi => hset.2 i (fun e1 => hi (by rw [e1]))⟩
    · rcases hal with rfl | rfl <;> simp [setBlock]
    · have hem : e ∈ es.toList := by
        have := he
        unfold leftOf at this
        rw [Array.toList_filter, List.mem_filter] at this
        exact this.1
      rw [e3, e5]
      exact run_entry_at _ r b since seen es clock e hset.1 hb' hem hs.2.1
end
section
variable {κ : Type} {T : KeyT κ} {ops : Array Oper} {rest : List Oper} {o : Oper} {a : Act} {Q : Exit → Act → World → Prop} {w : World} {b r : Nat} {m left : List (κ × Value)} {t e : TypeId}
theorem wpList_rangeV (hg : o.guard = none) (x : Operand) (hop : o.op = Op.range t x) (ht : Tryz.prog.underlying t = some (.map T.K e)) (hx : a.eval x = .map (some b)) (hm : MapV T w b m)
    (h : ∀ w', RangeV T w' b w.heap.size m m → Below w.heap.size w w' → w'.heap.size = w.heap.size + 1 → wpList Tryz.prog ops Q rest (a.put o.dst (.pointer (some ⟨w.heap.size, 0, none⟩))) w') : wpList Tryz.prog ops Q (o :: rest) a w := by
  refine wpList_plain hg fun K' hK' => ?_
  obtain ⟨w', hrun, r1, r2, r3⟩ := hm.range ht
  unfold Oper.wp
  simp [execOp, hop, hx, hrun, Result.andThen]
  exact hK' _ _ (h w' r1 r2 r3)
theorem wpList_nextV (hg : o.guard = none) (it : Operand) (hop : o.op = Op.next it false) (hit : a.eval it = .pointer (some ⟨r, 0, none⟩)) (hr : RangeV T w b r m left)
    (hDone : left = [] → wpList Tryz.prog ops Q rest (a.put o.dst (.tuple #[.bool false])) w)
    (hMore : ∀ l1 p l2 w', left = l1 ++ p :: l2 → RangeV T w' b r m (l1 ++ l2) → w.grownBy w' (some r) → w'.heap.size = w.heap.size →
      (Instr.entry (.pointer (some ⟨r, 0, none⟩))).run Tryz.prog w' = .ok (.tuple #[T.kv p.1, p.2]) w' → wpList Tryz.prog ops Q rest (a.put o.dst (.tuple #[.bool true, T.kv p.1, p.2])) w') : wpList Tryz.prog ops Q (o :: rest) a w := by
  refine wpList_plain hg fun K' hK' => ?_
  unfold Oper.wp
  rcases hr.next o.type with ⟨h0, hrun⟩ | ⟨l1, p, l2, w', h1, hrun, h2, h3, h4, h5⟩
  · simp [execOp, hop, hit, hrun, Result.andThen]
    exact hK' _ _ (hDone h0)
  · simp [execOp, hop, hit, hrun, Result.andThen]
    exact hK' _ _ (hMore l1 p l2 w' h1 h2 h3 h4 h5)
end
end Go.Proofs.YtpeamehplhpcjaaGreatDoor
namespace Go.Proofs.YtpeamehplhpcjaaGreatDoor
open Go.RowKit
instance : GoT Tok where
  size := 2
  rd := fun _ _ g x => g 0 = .int .i64 x.kind ∧ g 1 = .string ⟨x.text.toArray⟩
  keep := fun _ h => h
  wide := fun _ h => h
  same := fun hg h => ⟨(hg 0 (by omega)).trans h.1, (hg 1 (by omega)).trans h.2⟩
  one := fun h j hj => by match j, hj with
                          | 0, _ => rw [h.1]; rfl
                          | 1, _ => rw [h.2]; rfl
theorem uTok : Tryz.prog.underlying 140 = some (.struct (Tryz.prog.fieldsOf 140)) := by kernel_rfl
theorem pTok : Tryz.prog.stoodInHeld 140 = false := by kernel_rfl
@[go_sem] theorem gTok : Tryz.prog.eqGuardType Tryz.prog.depth 140 = false := by kernel_rfl
@[go_sem ↓] theorem eqlTok (k k' : Int) (s s' : List UInt8) (w : World) : (binOp .eql 140 (.agg #[.int .i64 k, .string ⟨s.toArray⟩]) (.agg #[.int .i64 k', .string ⟨s'.toArray⟩])).run Tryz.prog w = .ok (.bool (decide ((⟨k, s⟩ : Tok) = ⟨k', s'⟩))) w := by
  simp [run_eql_struct, run_equalIn_agg _ _ _ _ _ uTok pTok, go_sem, Tryz.underlying3, Tryz.underlying9]
  by_cases h : k = k' <;> by_cases h' : s = s' <;> simp [h, h']
@[go_sem ↓] theorem neqTok (k k' : Int) (s s' : List UInt8) (w : World) : (binOp .neq 140 (.agg #[.int .i64 k, .string ⟨s.toArray⟩]) (.agg #[.int .i64 k', .string ⟨s'.toArray⟩])).run Tryz.prog w = .ok (.bool (!decide ((⟨k, s⟩ : Tok) = ⟨k', s'⟩))) w := by
  simp [run_neq_struct, run_equalIn_agg _ _ _ _ _ uTok pTok, go_sem, Tryz.underlying3, Tryz.underlying9]
  by_cases h : k = k' <;> by_cases h' : s = s' <;> simp [h, h']
def TokRes (v : Tok × Int) : Value := .tuple #[.agg #[.int .i64 v.1.kind, .string ⟨v.1.text.toArray⟩], .int .i64 v.2]
end Go.Proofs.YtpeamehplhpcjaaGreatDoor
namespace Go.Proofs.YtpeamehplhpcjaaGreatDoor
open Go.RowKit
instance : GoT Fil where
  size := 2
  rd := fun _ _ g x => g 0 = .string ⟨x.path.toArray⟩ ∧ g 1 = .string ⟨x.data.toArray⟩
  keep := fun _ h => h
  wide := fun _ h => h
  same := fun hg h => ⟨(hg 0 (by omega)).trans h.1, (hg 1 (by omega)).trans h.2⟩
  one := fun h j hj => by
    match j, hj with
    | 0, _ => rw [h.1]; rfl
    | 1, _ => rw [h.2]; rfl
theorem Sl.fil {w : World} {S : Nat → Prop} {A : Option Addr} {n c k : Nat} {xs : List Fil} (h : Sl w S A n c xs) (hk : k < xs.length) : ∃ b o, A = some ⟨b, o, none⟩ ∧ S b ∧ b < w.heap.size ∧ w.cell? ⟨b, o + k * 2, none⟩ = some (.string ⟨xs[k].path.toArray⟩) ∧ w.cell? ⟨b, o + k * 2 + 1, none⟩ = some (.string ⟨xs[k].data.toArray⟩) := by
  obtain ⟨b, o, hA, hS, hb, g, hc, h0, h1⟩ := h.plain (by decide) hk
  have c0 := hc 0 (by decide)
  have c1 := hc 1 (by decide)
  rw [h0] at c0; rw [h1] at c1
  exact ⟨b, o, hA, hS, hb, c0, c1⟩
instance : GoT Ln where
  size := 2
  rd := fun _ _ g x => g 0 = .string ⟨x.path.toArray⟩ ∧ g 1 = .int .i64 x.n
  keep := fun _ h => h
  wide := fun _ h => h
  same := fun hg h => ⟨(hg 0 (by omega)).trans h.1, (hg 1 (by omega)).trans h.2⟩
  one := fun h j hj => by
    match j, hj with
    | 0, _ => rw [h.1]; rfl
    | 1, _ => rw [h.2]; rfl
theorem Sl.lne {w : World} {S : Nat → Prop} {A : Option Addr} {n c k : Nat} {xs : List Ln} (h : Sl w S A n c xs) (hk : k < xs.length) : ∃ b o, A = some ⟨b, o, none⟩ ∧ S b ∧ b < w.heap.size ∧ w.cell? ⟨b, o + k * 2, none⟩ = some (.string ⟨xs[k].path.toArray⟩) ∧ w.cell? ⟨b, o + k * 2 + 1, none⟩ = some (.int .i64 xs[k].n) := by
  obtain ⟨b, o, hA, hS, hb, g, hc, h0, h1⟩ := h.plain (by decide) hk
  have c0 := hc 0 (by decide)
  have c1 := hc 1 (by decide)
  rw [h0] at c0; rw [h1] at c1
  exact ⟨b, o, hA, hS, hb, c0, c1⟩
theorem eltLn : Elt 125 38 2 24 := .mk' (z := .agg #[.string ⟨#[]⟩, .int .i64 0]) (by kernel_rfl) (by kernel_rfl) rfl
instance : GoT Spn where
  size := 3
  rd := fun _ _ g x => g 0 = .string ⟨x.path.toArray⟩ ∧ g 1 = .int .i64 x.fr ∧ g 2 = .int .i64 x.tu
  keep := fun _ h => h
  wide := fun _ h => h
  same := fun hg h => ⟨(hg 0 (by omega)).trans h.1, (hg 1 (by omega)).trans h.2.1, (hg 2 (by omega)).trans h.2.2⟩
  one := fun h j hj => by
    match j, hj with
    | 0, _ => rw [h.1]; rfl
    | 1, _ => rw [h.2.1]; rfl
    | 2, _ => rw [h.2.2]; rfl
theorem Sl.spn {w : World} {S : Nat → Prop} {A : Option Addr} {n c k : Nat} {xs : List Spn} (h : Sl w S A n c xs) (hk : k < xs.length) : ∃ b o, A = some ⟨b, o, none⟩ ∧ S b ∧ b < w.heap.size ∧ w.cell? ⟨b, o + k * 3, none⟩ = some (.string ⟨xs[k].path.toArray⟩) ∧ w.cell? ⟨b, o + k * 3 + 1, none⟩ = some (.int .i64 xs[k].fr) ∧ w.cell? ⟨b, o + k * 3 + 2, none⟩ = some (.int .i64 xs[k].tu) := by
  obtain ⟨b, o, hA, hS, hb, g, hc, h0, h1, h2⟩ := h.plain (by decide) hk
  have c0 := hc 0 (by decide)
  have c1 := hc 1 (by decide)
  have c2 := hc 2 (by decide)
  rw [h0] at c0; rw [h1] at c1; rw [h2] at c2
  exact ⟨b, o, hA, hS, hb, c0, c1, c2⟩
theorem eltSpn : Elt 34 46 3 32 := .mk' (z := .agg #[.string ⟨#[]⟩, .int .i64 0, .int .i64 0]) (by kernel_rfl) (by kernel_rfl) rfl
instance : GoT Mac where
  size := 5
  rd := fun w S g x => g 0 = .string ⟨x.name.toArray⟩ ∧ g 2 = .string ⟨x.body.path.toArray⟩ ∧ g 3 = .int .i64 x.body.fr ∧ g 4 = .int .i64 x.body.tu ∧ ∃ A n c, g 1 = .slice A n c ∧ Sl w S A n c x.params
  keep := fun hk ⟨h0, h2, h3, h4, A, n, c, e, h⟩ => ⟨h0, h2, h3, h4, A, n, c, e, h.keep hk⟩
  wide := fun hk ⟨h0, h2, h3, h4, A, n, c, e, h⟩ => ⟨h0, h2, h3, h4, A, n, c, e, h.wide hk (by decide)⟩
  same := fun hg ⟨h0, h2, h3, h4, A, n, c, e, h⟩ => ⟨(hg 0 (by omega)).trans h0, (hg 2 (by omega)).trans h2, (hg 3 (by omega)).trans h3, (hg 4 (by omega)).trans h4, A, n, c, (hg 1 (by omega)).trans e, h⟩
  one := fun ⟨h0, h2, h3, h4, A, n, c, e, _⟩ j hj => by
    match j, hj with
    | 0, _ => rw [h0]; rfl
    | 1, _ => rw [e]; rfl
    | 2, _ => rw [h2]; rfl
    | 3, _ => rw [h3]; rfl
    | 4, _ => rw [h4]; rfl
theorem Sl.mac {w : World} {S : Nat → Prop} {A : Option Addr} {n c k : Nat} {xs : List Mac} (h : Sl w S A n c xs) (hk : k < xs.length) : ∃ b o, A = some ⟨b, o, none⟩ ∧ S b ∧ b < w.heap.size ∧ ∃ A1 n1 e1, w.cell? ⟨b, o + k * 5, none⟩ = some (.string ⟨xs[k].name.toArray⟩) ∧ w.cell? ⟨b, o + k * 5 + 1, none⟩ = some (.slice A1 n1 e1) ∧ w.cell? ⟨b, o + k * 5 + 2, none⟩ = some (.string ⟨xs[k].body.path.toArray⟩) ∧ w.cell? ⟨b, o + k * 5 + 3, none⟩ = some (.int .i64 xs[k].body.fr) ∧ w.cell? ⟨b, o + k * 5 + 4, none⟩ = some (.int .i64 xs[k].body.tu) ∧ Sl w S A1 n1 e1 xs[k].params := by
  obtain ⟨b, o, hA, hS, hb, g, hc, h0, h2, h3, h4, A1, n1, e1, h1, hs⟩ := h.plain (by decide) hk
  have c0 := hc 0 (by decide)
  have c1 := hc 1 (by decide)
  have c2 := hc 2 (by decide)
  have c3 := hc 3 (by decide)
  have c4 := hc 4 (by decide)
  rw [h0] at c0; rw [h1] at c1; rw [h2] at c2; rw [h3] at c3; rw [h4] at c4
  exact ⟨b, o, hA, hS, hb, A1, n1, e1, c0, c1, c2, c3, c4, hs⟩
theorem eltMac : Elt 31 63 5 72 := .mk' (z := .agg #[.string ⟨#[]⟩, .slice none 0 0, .string ⟨#[]⟩, .int .i64 0, .int .i64 0]) (by kernel_rfl) (by kernel_rfl) rfl
instance : GoT Itm where
  size := 7
  rd := fun w S g x => g 0 = .string ⟨x.name.toArray⟩ ∧ g 1 = .int .i64 x.kind ∧ g 2 = .int .i64 x.mode ∧ g 4 = .string ⟨x.body.path.toArray⟩ ∧ g 5 = .int .i64 x.body.fr ∧ g 6 = .int .i64 x.body.tu ∧ ∃ A n c, g 3 = .slice A n c ∧ Sl w S A n c x.params
  keep := fun hk ⟨h0, h1, h2, h4, h5, h6, A, n, c, e, h⟩ => ⟨h0, h1, h2, h4, h5, h6, A, n, c, e, h.keep hk⟩
  wide := fun hk ⟨h0, h1, h2, h4, h5, h6, A, n, c, e, h⟩ => ⟨h0, h1, h2, h4, h5, h6, A, n, c, e, h.wide hk (by decide)⟩
  same := fun hg ⟨h0, h1, h2, h4, h5, h6, A, n, c, e, h⟩ => ⟨(hg 0 (by omega)).trans h0, (hg 1 (by omega)).trans h1, (hg 2 (by omega)).trans h2, (hg 4 (by omega)).trans h4, (hg 5 (by omega)).trans h5, (hg 6 (by omega)).trans h6, A, n, c, (hg 3 (by omega)).trans e, h⟩
  one := fun ⟨h0, h1, h2, h4, h5, h6, A, n, c, e, _⟩ j hj => by
    match j, hj with
    | 0, _ => rw [h0]; rfl
    | 1, _ => rw [h1]; rfl
    | 2, _ => rw [h2]; rfl
    | 3, _ => rw [e]; rfl
    | 4, _ => rw [h4]; rfl
    | 5, _ => rw [h5]; rfl
    | 6, _ => rw [h6]; rfl
theorem Sl.itm {w : World} {S : Nat → Prop} {A : Option Addr} {n c k : Nat} {xs : List Itm} (h : Sl w S A n c xs) (hk : k < xs.length) : ∃ b o, A = some ⟨b, o, none⟩ ∧ S b ∧ b < w.heap.size ∧ ∃ A1 n1 e1, w.cell? ⟨b, o + k * 7, none⟩ = some (.string ⟨xs[k].name.toArray⟩) ∧ w.cell? ⟨b, o + k * 7 + 1, none⟩ = some (.int .i64 xs[k].kind) ∧ w.cell? ⟨b, o + k * 7 + 2, none⟩ = some (.int .i64 xs[k].mode) ∧ w.cell? ⟨b, o + k * 7 + 3, none⟩ = some (.slice A1 n1 e1) ∧ w.cell? ⟨b, o + k * 7 + 4, none⟩ = some (.string ⟨xs[k].body.path.toArray⟩) ∧ w.cell? ⟨b, o + k * 7 + 5, none⟩ = some (.int .i64 xs[k].body.fr) ∧ w.cell? ⟨b, o + k * 7 + 6, none⟩ = some (.int .i64 xs[k].body.tu) ∧ Sl w S A1 n1 e1 xs[k].params := by
  obtain ⟨b, o, hA, hS, hb, g, hc, h0, h1, h2, h4, h5, h6, A1, n1, e1, h3, hs⟩ := h.plain (by decide) hk
  have c0 := hc 0 (by decide)
  have c1 := hc 1 (by decide)
  have c2 := hc 2 (by decide)
  have c3 := hc 3 (by decide)
  have c4 := hc 4 (by decide)
  have c5 := hc 5 (by decide)
  have c6 := hc 6 (by decide)
  rw [h0] at c0; rw [h1] at c1; rw [h2] at c2; rw [h3] at c3; rw [h4] at c4; rw [h5] at c5; rw [h6] at c6
  exact ⟨b, o, hA, hS, hb, A1, n1, e1, c0, c1, c2, c3, c4, c5, c6, hs⟩
theorem eltItm : Elt 32 48 7 88 := .mk' (z := .agg #[.string ⟨#[]⟩, .int .i64 0, .int .i64 0, .slice none 0 0, .string ⟨#[]⟩, .int .i64 0, .int .i64 0]) (by kernel_rfl) (by kernel_rfl) rfl
theorem uSpn : Tryz.prog.underlying 46 = some (.struct (Tryz.prog.fieldsOf 46)) := by kernel_rfl
theorem pSpn : Tryz.prog.stoodInHeld 46 = false := by kernel_rfl
@[go_sem] theorem gSpn : Tryz.prog.eqGuardType Tryz.prog.depth 46 = false := by kernel_rfl
@[go_sem ↓] theorem eqlSpn (a0 : Bs) (a1 : Int) (a2 : Int) (b0 : Bs) (b1 : Int) (b2 : Int) (w : World) : (binOp .eql 46 (.agg #[.string ⟨a0.toArray⟩, .int .i64 a1, .int .i64 a2]) (.agg #[.string ⟨b0.toArray⟩, .int .i64 b1, .int .i64 b2])).run Tryz.prog w = .ok (.bool (decide ((⟨a0, a1, a2⟩ : Spn) = ⟨b0, b1, b2⟩))) w := by
  simp [run_eql_struct, run_equalIn_agg _ _ _ _ _ uSpn pSpn, go_sem, Tryz.underlying3, Tryz.underlying9]
  by_cases h0 : a0 = b0 <;> by_cases h1 : a1 = b1 <;> by_cases h2 : a2 = b2 <;> simp [h0, h1, h2]
@[go_sem ↓] theorem neqSpn (a0 : Bs) (a1 : Int) (a2 : Int) (b0 : Bs) (b1 : Int) (b2 : Int) (w : World) : (binOp .neq 46 (.agg #[.string ⟨a0.toArray⟩, .int .i64 a1, .int .i64 a2]) (.agg #[.string ⟨b0.toArray⟩, .int .i64 b1, .int .i64 b2])).run Tryz.prog w = .ok (.bool (!decide ((⟨a0, a1, a2⟩ : Spn) = ⟨b0, b1, b2⟩))) w := by
  simp [run_neq_struct, run_equalIn_agg _ _ _ _ _ uSpn pSpn, go_sem, Tryz.underlying3, Tryz.underlying9]
  by_cases h0 : a0 = b0 <;> by_cases h1 : a1 = b1 <;> by_cases h2 : a2 = b2 <;> simp [h0, h1, h2]
theorem uLn : Tryz.prog.underlying 38 = some (.struct (Tryz.prog.fieldsOf 38)) := by kernel_rfl
theorem pLn : Tryz.prog.stoodInHeld 38 = false := by kernel_rfl
@[go_sem] theorem gLn : Tryz.prog.eqGuardType Tryz.prog.depth 38 = false := by kernel_rfl
@[go_sem ↓] theorem eqlLn (a0 : Bs) (a1 : Int) (b0 : Bs) (b1 : Int) (w : World) : (binOp .eql 38 (.agg #[.string ⟨a0.toArray⟩, .int .i64 a1]) (.agg #[.string ⟨b0.toArray⟩, .int .i64 b1])).run Tryz.prog w = .ok (.bool (decide ((⟨a0, a1⟩ : Ln) = ⟨b0, b1⟩))) w := by
  simp [run_eql_struct, run_equalIn_agg _ _ _ _ _ uLn pLn, go_sem, Tryz.underlying3, Tryz.underlying9]
  by_cases h0 : a0 = b0 <;> by_cases h1 : a1 = b1 <;> simp [h0, h1]
@[go_sem ↓] theorem neqLn (a0 : Bs) (a1 : Int) (b0 : Bs) (b1 : Int) (w : World) : (binOp .neq 38 (.agg #[.string ⟨a0.toArray⟩, .int .i64 a1]) (.agg #[.string ⟨b0.toArray⟩, .int .i64 b1])).run Tryz.prog w = .ok (.bool (!decide ((⟨a0, a1⟩ : Ln) = ⟨b0, b1⟩))) w := by
  simp [run_neq_struct, run_equalIn_agg _ _ _ _ _ uLn pLn, go_sem, Tryz.underlying3, Tryz.underlying9]
  by_cases h0 : a0 = b0 <;> by_cases h1 : a1 = b1 <;> simp [h0, h1]
def OkB (s : Bs) : Prop := s.length ≤ 9223372036854775807
def OkF (f : Fil) : Prop := OkB f.path ∧ OkB f.data
end Go.Proofs.YtpeamehplhpcjaaGreatDoor
namespace Go.Proofs.YtpeamehplhpcjaaGreatDoor
theorem split_ne (c : UInt8) (s : Bs) : splitS c s ≠ [] := by
  cases s with
  | nil => simp [splitS]
  | cons x r =>
    unfold splitS
    split
    · simp
    · split <;> simp
theorem split_len (c : UInt8) (s : Bs) : (splitS c s).length = s.count c + 1 := by
  induction s with
  | nil => rfl
  | cons x r ih =>
    unfold splitS
    by_cases h : x = c
    · rw [if_pos h, List.length_cons, ih, List.count_cons, h]
      simp
    · rw [if_neg h, List.count_cons]
      have : (x == c) = false := by simpa using h
      rw [this]
      have hn := split_ne c r
      cases hs : splitS c r with
      | nil => exact absurd hs hn
      | cons y t =>
        rw [hs] at ih
        simpa using ih
theorem split_no (c : UInt8) (s : Bs) (h : s.contains c = false) : splitS c s = [s] := by
  induction s with
  | nil => rfl
  | cons x r ih =>
    rw [List.contains_cons, Bool.or_eq_false_iff] at h
    unfold splitS
    have hx : x ≠ c := fun e => by subst e; simp at h
    rw [if_neg hx, ih h.2]
theorem contains_count (c : UInt8) (s : Bs) : s.contains c = decide (1 ≤ s.count c) := by
  rw [Bool.eq_iff_iff, List.contains_iff_mem, decide_eq_true_eq]
  exact List.count_pos_iff.symm
theorem part_no (s : Bs) (h : partS s = true) : s.contains 47 = false := by
  unfold partS at h
  simp only [Bool.and_eq_true, List.all_eq_true] at h
  rw [← Bool.not_eq_true, List.contains_iff_mem]
  intro hm
  have := h.2 47 hm
  exact absurd this (by decide)
theorem part_path (s : Bs) : partS s = (!s.contains 47 && pathS s) := by
  cases hc : s.contains 47 with
  | true =>
    cases hp : partS s with
    | false => rfl
    | true => rw [part_no s hp] at hc; cases hc
  | false =>
    unfold pathS
    rw [split_no 47 s hc]
    simp only [List.length_cons, List.length_nil, List.all_cons, List.all_nil, Bool.and_true, Bool.not_false, Bool.true_and]
    cases hp : partS s with
    | false => simp
    | true =>
      have : s.length ≤ 32 := by
        unfold partS at hp
        simp only [Bool.and_eq_true, decide_eq_true_eq] at hp
        exact hp.1.1.1.2
      have : decide (s.length ≤ 128) = true := by rw [decide_eq_true_eq]; omega
      rw [this]
      rfl
def risRef (s : Bs) : Bool := match s with | 64 :: r => pathS r && decide (1 < (splitS 47 r).length) | _ => pathS s
def rrefS (name ref : Bs) : Bs × Int :=
  if !partS name || !risRef ref then ([], 2)
  else match ref with
    | 64 :: r => (r, 0)
    | _ => if pathS (name ++ 47 :: ref) then (name ++ 47 :: ref, 0) else ([], 2)
theorem isRef_eq (s : Bs) : risRef s = isRefS s := by
  unfold risRef isRefS
  split
  · rename_i r
    show _ = (pathS r && r.contains 47)
    rw [split_len, contains_count]
    congr 1
    rw [Bool.eq_iff_iff, decide_eq_true_eq, decide_eq_true_eq]
    omega
  · rename_i h
    split
    · exact absurd rfl (h _)
    · rfl
theorem not_at {α : Type} (s : Bs) (X : Bs → α) (Y : α) : (∀ r, s = 64 :: r → False) → (match s with | 64 :: r => X r | _ => Y) = Y := by
  intro h
  split
  · exact absurd rfl (h _)
  · rfl
theorem rref_eq (name ref : Bs) : rrefS name ref = refS name ref := by
  unfold rrefS refS
  rw [part_path, isRef_eq]
  have e : (!(!name.contains 47 && pathS name) || !isRefS ref) = (name.contains 47 || !pathS name || !isRefS ref) := by
    cases name.contains 47 <;> cases pathS name <;> rfl
  rw [e]
  by_cases h : (name.contains 47 || !pathS name || !isRefS ref) = true
  · rw [if_pos h, if_pos h]
  · rw [if_neg h, if_neg h]
    split
    · rename_i r
      show _ = if pathS r then (r, (0 : Int)) else ([], 2)
      have : pathS r = true := by
        simp only [Bool.or_eq_true, not_or, Bool.not_eq_true, Bool.not_eq_false] at h
        have h2 := h.2
        simp only [Bool.not_eq_false'] at h2
        unfold isRefS at h2
        simp only [Bool.and_eq_true] at h2
        exact h2.1
      rw [if_pos this]
    · rename_i h
      exact (not_at ref _ _ h).symm
def rlinesS (d : Bs) : List Bs × Int := if 65536 < d.length then ([], 10) else if 1024 < (splitS 10 d).length then ([], 10) else (splitS 10 d, 0)
theorem rlines_eq (d : Bs) : rlinesS d = linesS d := by
  unfold rlinesS linesS
  rw [split_len]
  by_cases h : 65536 < d.length
  · rw [if_pos h, if_pos h]
  · rw [if_neg h, if_neg h]
    by_cases h2 : 1024 ≤ d.count 10
    · rw [if_pos h2, if_pos (by omega)]
    · rw [if_neg h2, if_neg (by omega)]
end Go.Proofs.YtpeamehplhpcjaaGreatDoor
namespace Go.Proofs.YtpeamehplhpcjaaGreatDoor
theorem all_take {p : UInt8 → Bool} {s : Bs} : s.take (s.takeWhile p).length = s ↔ s.all p = true := by
  induction s with
  | nil => simp
  | cons a r ih =>
    by_cases ha : p a = true
    · simp [ha, ih]
    · simp [ha]
theorem valid_1 (s : Bs) : validT ⟨1, s⟩ = form s := by
  unfold validT form nextOf
  cases hs : s with
  | nil => rfl
  | cons a r =>
    rw [← hs]
    have hne : s.isEmpty = false := by rw [hs]; rfl
    have hl : 1 ≤ s.length := by rw [hs]; simp
    rw [Bool.eq_iff_iff]
    by_cases h1 : letr (s.headD 0).toNat = true
    · simp only [h1, if_true, hne, Bool.not_false, Bool.true_and]
      by_cases h32 : 32 < (s.takeWhile nameB).length
      · simp only [h32, if_true]
        simp only [Bool.and_eq_true, beq_iff_eq, decide_eq_true_eq]
        constructor
        · rintro ⟨h, _⟩; cases h
        · rintro ⟨⟨⟨_, h⟩, _⟩, _⟩
          have := tw_le (p := nameB) (s := s)
          omega
      · simp only [h32, if_false]
        simp only [Bool.and_eq_true, beq_iff_eq, decide_eq_true_eq, Tok.mk.injEq, true_and]
        rw [all_take]
        constructor
        · intro h
          have h2 := all_take.2 h
          have h3 : (s.takeWhile nameB).length = s.length := by
            have := congrArg List.length h2
            rw [List.length_take] at this
            have := tw_le (p := nameB) (s := s)
            omega
          exact ⟨⟨⟨hl, by omega⟩, trivial⟩, h⟩
        · rintro ⟨_, h⟩; exact h
    · rw [Bool.not_eq_true] at h1
      simp only [h1, if_false, hne, Bool.not_false, Bool.true_and, Bool.and_false, Bool.false_and, Bool.false_eq_true, iff_false, Bool.not_eq_true]
      split
      · split
        · rename_i hx
          rw [Bool.and_eq_false_iff]
          refine .inl ?_
          simpa using hx
        · split
          · simp
          · simp
      · split
        · simp
        · simp
theorem name_eq (s : Bs) : nameT s = name5 s := by
  unfold nameT name5
  rw [valid_1, Bool.and_comm]
end Go.Proofs.YtpeamehplhpcjaaGreatDoor
