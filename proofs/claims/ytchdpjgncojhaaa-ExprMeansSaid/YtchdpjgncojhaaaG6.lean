/- (text).at, call. -/
import Derived.Test.YtchdpjgncojhaaaG5
set_option linter.unusedVariables false
set_option linter.unusedSimpArgs false
namespace Go.Proofs.Ytchdpjgncojhaaa
open Go.RowKit

theorem tokSl {w : World} {b : Nat} {k : Int} {s : Bs} (hb : w.heap[b]? = some (.cells #[.int .i64 k, .string ⟨s.toArray⟩] 54 (0, 0))) {S : Nat → Prop} (hS : S b) : Sl w S (some ⟨b, 0, none⟩) 1 1 [(⟨k, s⟩ : Tok)] := by
  refine ⟨rfl, Nat.le_refl _, by decide, fun i hi => ⟨_, rfl, hS, fun j => if j = 0 then .int .i64 k else .string ⟨s.toArray⟩, fun j hj => ?_, ?_⟩⟩
  · obtain rfl : i = 0 := by simpa using hi
    rw [add_plain, cell_blk hb]
    match j, hj with
    | 0, _ => rfl
    | 1, _ => rfl
  · obtain rfl : i = 0 := by simpa using hi
    exact ⟨rfl, rfl⟩
theorem sl3 {w : World} {b : Nat} {A1 A2 A3 : Option Addr} {n1 n2 n3 c1 c2 c3 : Nat} (hb : w.heap[b]? = some (.cells #[.slice A1 n1 c1, .slice A2 n2 c2, .slice A3 n3 c3] 22 (0, 0)))
    {S : Nat → Prop} (hS : S b) {x1 x2 x3 : List Tok} (h1 : Sl w S A1 n1 c1 x1) (h2 : Sl w S A2 n2 c2 x2) (h3 : Sl w S A3 n3 c3 x3) : Sl w S (some ⟨b, 0, none⟩) 3 3 [x1, x2, x3] := by
  refine ⟨rfl, Nat.le_refl _, by decide, fun i hi => ?_⟩
  have h0 : ∀ j, w.cell? ⟨b, j, none⟩ = #[Value.slice A1 n1 c1, .slice A2 n2 c2, .slice A3 n3 c3][j]? := fun j => cell_blk hb j
  match i, hi with
  | 0, _ => exact ⟨_, rfl, hS, fun _ => .slice A1 n1 c1, fun j hj => by obtain rfl : j = 0 := by { simp only [GoT.size] at hj; omega }
                                                                        rw [add_plain, h0]; rfl, A1, n1, c1, rfl, h1, by decide⟩
  | 1, _ => exact ⟨_, rfl, hS, fun _ => .slice A2 n2 c2, fun j hj => by obtain rfl : j = 0 := by { simp only [GoT.size] at hj; omega }
                                                                        rw [add_plain, h0]; rfl, A2, n2, c2, rfl, h2, by decide⟩
  | 2, _ => exact ⟨_, rfl, hS, fun _ => .slice A3 n3 c3, fun j hj => by obtain rfl : j = 0 := by { simp only [GoT.size] at hj; omega }
                                                                        rw [add_plain, h0]; rfl, A3, n3, c3, rfl, h3, by decide⟩

theorem blkAt2 {w : World} {o x : Obj} {k : Nat} (h : k = w.heap.size) (e : o = x) : (w.alloc o).heap[k]? = some x := by subst e; exact blkAt w o h
theorem blkDrw {w : World} {k : Nat} {x : Obj} (h : w.heap[k]? = some x) : w.drew.heap[k]? = some x := h
theorem belowA {w W : World} (h : Below w.heap.size w W) (o : Obj) : Below w.heap.size w (W.alloc o) := h.alloc h.size o
theorem belowD {w W : World} (h : Below w.heap.size w W) : Below w.heap.size w W.drew := h.drew
theorem Sl.any {α : Type} [GoT α] {w : World} {S : Nat → Prop} {A : Option Addr} {n c : Nat} {xs : List α} (h : Sl w S A n c xs) (hz : 0 < GoT.size α := by decide) : Sl w (fun _ => True) A n c xs := h.wide (fun _ _ _ => trivial) hz

set_option maxRecDepth 100000 in
set_option maxHeartbeats 2000000 in
theorem at_any (t : Txt) (A : Option Addr) (n c : Nat) (l : Int) (w : World) (S : Nat → Prop) (hl : Sl w S A n c t.toks) (hn : t.toks.length ≤ 10000) :
    Calls Try.prog 46 #[.agg #[.slice A n c, .int .i64 t.lev], .int .i64 l] w fun e w' => ∃ A' n' c', e = .returned (.slice A' n' c') ∧ Sl w' (fun b => S b ∨ w.heap.size ≤ b) A' n' c' (atS t l) ∧ Below w.heap.size w w' := by
  obtain ⟨v, hv⟩ : ∃ v, v = atS t l := ⟨_, rfl⟩
  rw [← hv]
  unfold atS at hv
  have HL := Lib.hid hl; clear hl
  by_cases hle : l ≤ t.lev
  · rw [if_pos hle] at hv
    have Hv := Lib.hid hv; clear hv
    go_enter Try.func46, Try.ntmps46
    go_wp2
    go_ret
    exact ⟨A, n, c, rfl, by rw [Hv.out]; exact (HL.out.wide (fun k _ hk => .inl hk) (by decide)).alloc _, boxed⟩
  · rw [if_neg hle] at hv
    have Hv := Lib.hid hv; clear hv
    go_enter Try.func46, Try.ntmps46
    go_wp2
    go_region_held3 (fun w' => w'.cell? ⟨w.heap.size, 0, none⟩ = some (.slice A n c))
      (first | go_keep | exact cell_later hb1 ‹_›) (first | (go_at_call 45; refine (symT_any _ _).mono ?_; rintro e w1 ⟨rfl, hb1⟩) | (go_at_call 48; refine (concat_any _ _ _ _ (fun _ => True) [[symK [40]], t.toks, [symK [41]]] ?_ ?_ (by decide)).mono ?_; (· exact sl3 (by ((repeat (first | (with_reducible assumption) | ((with_reducible refine blkAt2 ?_ ?_); (focus (simp; done)); rfl) | (with_reducible refine blkOld ?_ _) | (with_reducible refine keptBlk (by assumption) ?_) | (with_reducible refine grownBlk (by assumption) ?_ (by simp; omega)) | (with_reducible refine blkDrw ?_))); done)) trivial (tokSl (by ((repeat (first | (with_reducible assumption) | ((with_reducible refine blkAt2 ?_ ?_); (focus (simp; done)); rfl) | (with_reducible refine blkOld ?_ _) | (with_reducible refine keptBlk (by assumption) ?_) | (with_reducible refine grownBlk (by assumption) ?_ (by simp; omega)) | (with_reducible refine blkDrw ?_))); done)) trivial) ((HL.out.below (by ((repeat (first | (with_reducible exact Below.refl _ _) | (with_reducible refine belowA ?_ _) | (with_reducible refine belowD ?_) | (with_reducible refine belowS ?_ (Nat.le_refl _) _ _) | (with_reducible refine next ?_ (by assumption) (Nat.le_refl _)))); done))).any) (tokSl (by ((repeat (first | (with_reducible assumption) | ((with_reducible refine blkAt2 ?_ ?_); (focus (simp; done)); rfl) | (with_reducible refine blkOld ?_ _) | (with_reducible refine keptBlk (by assumption) ?_) | (with_reducible refine grownBlk (by assumption) ?_ (by simp; omega)) | (with_reducible refine blkDrw ?_))); done)) trivial)); (· unfold lenK; simp only [List.map_cons, List.map_nil, List.sum_cons, List.sum_nil, List.length_cons, List.length_nil]; omega); rintro e w3 ⟨A3, n3, c3, rfl, hs3, hb1⟩; have HS3 := Lib.hid hs3; clear hs3))
    all_goals go_wp2
    all_goals
      go_ret
      refine ⟨A3, n3, c3, rfl, ?_, (by ((repeat (first | (with_reducible exact Below.refl _ _) | (with_reducible refine belowA ?_ _) | (with_reducible refine belowD ?_) | (with_reducible refine belowS ?_ (Nat.le_refl _) _ _) | (with_reducible refine next ?_ (by assumption) (Nat.le_refl _)))); done))⟩
      rw [Hv.out]
      refine (HS3.out.wide (fun k _ hk => .inr (Nat.le_trans ?_ hk)) (by decide))
      exact Below.size (B := w.heap.size) (by ((repeat (first | (with_reducible exact Below.refl _ _) | (with_reducible refine belowA ?_ _) | (with_reducible refine belowD ?_) | (with_reducible refine belowS ?_ (Nat.le_refl _) _ _) | (with_reducible refine next ?_ (by assumption) (Nat.le_refl _)))); done))
end Go.Proofs.Ytchdpjgncojhaaa
