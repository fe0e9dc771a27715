/- licitref08: sym, within. -/
import Derived.Test.YtchdpjgncojhaaaR3
import Derived.Test.YtchdpjgncojhaaaG9
set_option linter.unusedVariables false
set_option linter.unusedSimpArgs false
namespace Go.Proofs.Ytchdpjgncojhaaa
open Go.RowKit
attribute [local go_sem ↓] Go.wp_at_zero Go.wp_at_succ

set_option maxRecDepth 100000 in
set_option maxHeartbeats 1000000 in
theorem sym8_any (s : Bs) (w : World) :
    Calls Try.prog 52 #[.string ⟨s.toArray⟩] w fun e w' => e = .returned (.agg #[.int .i64 3, .string ⟨s.toArray⟩]) ∧ Below w.heap.size w w' := by
  go_enter Try.func52, Try.ntmps52
  go_wp2
  refine bodyPost_ret (v := .agg #[.int .i64 3, .string ⟨s.toArray⟩]) ?_ rfl ⟨rfl, ?_⟩
  · simp [results, Try.results52, go_sem]
  · exact boxed

set_option maxRecDepth 100000 in
set_option maxHeartbeats 4000000 in
theorem within8_any (t : Txt) (A : Option Addr) (n c : Nat) (l : Int) (w : World) (S : Nat → Prop) (hl : Sl w S A n c t.toks) (hn : t.toks.length ≤ 10000) :
    Calls Try.prog 53 #[.agg #[.slice A n c, .int .i64 t.lev], .int .i64 l] w fun e w' => ∃ A' n' c', e = .returned (.slice A' n' c') ∧ Sl w' (fun b => S b ∨ w.heap.size ≤ b) A' n' c' (atS t l) ∧ Below w.heap.size w w' := by
  obtain ⟨v, hv⟩ : ∃ v, v = atS t l := ⟨_, rfl⟩
  rw [← hv]
  unfold atS at hv
  have HL := Lib.hid hl; clear hl
  by_cases hle : l ≤ t.lev
  · rw [if_pos hle] at hv
    have Hv := Lib.hid hv; clear hv
    go_enter Try.func53, Try.ntmps53
    go_wp2
    go_ret
    exact ⟨A, n, c, rfl, by rw [Hv.out]; exact (HL.out.wide (fun k _ hk => .inl hk) (by decide)).alloc _, boxed⟩
  · rw [if_neg hle] at hv
    have Hv := Lib.hid hv; clear hv
    have hnl := HL.out.len
    have hnn : n ≤ 10000 := by omega
    have HNL := Lib.hid hnl; clear hnl
    have HLT := Lib.hid (HL.out.wide (S' := fun b => b < w.heap.size) (fun k hk _ => hk) (by decide))
    go_enter Try.func53, Try.ntmps53
    go_wp2
    have hS0 : (w.alloc (.cells #[.slice A n c, .int .i64 t.lev] 78)).cell? ⟨w.heap.size, 0, none⟩ = some (.slice A n c) := (cell_blk (blkAt w _ rfl) 0).trans rfl
    have tokA : True := trivial
    go_region_held3 (fun w' => w'.cell? ⟨w.heap.size, 0, none⟩ = some (.slice A n c))
      (((try go_split_ands); (try dsimp only); first | ((repeat (first | (with_reducible assumption) | (with_reducible refine cell_alloc' ?_ _) | (with_reducible refine cell_drew' ?_) | (with_reducible refine cell_set ?_ (by assumption)) | (with_reducible refine cell_off (by decide) ?_) | (with_reducible refine cell_later (by assumption) ?_) | (with_reducible refine cell_grown (by assumption) ?_ (by simp; omega)))); done) | (with_reducible exact cell_grown hg8 ‹_› (fun e => by have := hlt6 _ e; omega))))
      (first | (go_at_call 52; refine (sym8_any _ _).mono ?_; rintro e w4 ⟨rfl, hbz⟩; have hz4 := hbz.size; (try simp at hz4)) | (have _t := tokA; refine (step_appN (T := fun _ => True) (base := w.heap.size + 1) (xs := [(⟨3, [40]⟩ : Tok)]) (ys := t.toks) rfl (.tmp 12) (.tmp 14) eltTok rfl (by decide) rfl rfl rfl ?hown rfl ?hsl ?h63 ?hby ?hbase ?_); (case hown => exact (lit1 (T := fun _ => True) (base := w.heap.size + 1) (k1 := 3) (s1 := [40]) (by ((repeat (first | (with_reducible assumption) | ((with_reducible refine blkAt2 ?_ ?_); (focus (simp; done)); rfl) | (with_reducible refine blkOld ?_ _) | (with_reducible refine keptBlk (by assumption) ?_) | (with_reducible refine grownBlk (by assumption) ?_ (by simp; omega)) | (with_reducible refine blkDrw ?_))); done)) (by omega))); (case hsl => exact ((HLT.out.wide (fun q hq _ => ⟨trivial, fun e => by simp at e; omega⟩) (by decide)).below (by ((repeat (first | (with_reducible exact Below.refl _ _) | (with_reducible refine belowA ?_ _) | (with_reducible refine belowD ?_) | (with_reducible refine belowS ?_ (Nat.le_refl _) _ _) | (with_reducible refine next ?_ (by assumption) (Nat.le_refl _)))); done)))); (case h63 => simp; omega); (case hby => simp; omega); (case hbase => (try simp); omega); intro A6 c6 w6 hown6 hg6 hat6; clear tokA; have hlt6 := hown6.lt; have hz6 := hg6.size; (try simp at hz6); have hb6 : Below w.heap.size w w6 := Below.grown (by ((repeat (first | (with_reducible exact Below.refl _ _) | (with_reducible refine belowA ?_ _) | (with_reducible refine belowD ?_) | (with_reducible refine belowS ?_ (Nat.le_refl _) _ _) | (with_reducible refine next ?_ (by assumption) (Nat.le_refl _)))); done)) hg6 (by (try simp); omega) (fun q hq => by simp at hq; omega); have HB6 := Lib.hid hb6; clear hb6; have HO6 := Lib.hid hown6; clear hown6; have tokB : True := trivial) | (have _t := tokB; (refine (step_app1 (T := fun _ => True) (base := w.heap.size + 1) (xs := [(⟨3, [40]⟩ : Tok)] ++ t.toks) (t0 := 54) (fz := (0, 0)) rfl (.tmp 15) (.tmp 17) eltTok rfl (by decide) rfl rfl ?hn ?hown rfl [.int .i64 3, .string ⟨[41].toArray⟩] (symK [41]) ?hb0 rfl ⟨rfl, rfl⟩ ?h63 ?hby ?hbase ?_)); (case hn => have := HNL.out; simp; omega); (case hown => exact HO6.out.below (by ((repeat (first | (with_reducible exact Below.refl _ _) | (with_reducible refine belowA ?_ _) | (with_reducible refine belowD ?_) | (with_reducible refine belowS ?_ (Nat.le_refl _) _ _) | (with_reducible refine next ?_ (by assumption) (Nat.le_refl _)))); done))); (case hb0 => ((repeat (first | (with_reducible assumption) | ((with_reducible refine blkAt2 ?_ ?_); (focus (simp; done)); rfl) | (with_reducible refine blkOld ?_ _) | (with_reducible refine keptBlk (by assumption) ?_) | (with_reducible refine grownBlk (by assumption) ?_ (by simp; omega)) | (with_reducible refine blkDrw ?_))); done)); (case h63 => rw [List.length_append, ← HNL.out]; simp; omega); (case hby => rw [List.length_append, ← HNL.out]; simp; omega); (case hbase => (try simp); omega); intro A8 c8 w8 hown8 hg8 hat8; have hb8 : Below w.heap.size w w8 := Below.grown (HB6.out.trans (Below.mono (B := w6.heap.size) (by ((repeat (first | (with_reducible exact Below.refl _ _) | (with_reducible refine belowA ?_ _) | (with_reducible refine belowD ?_) | (with_reducible refine belowS ?_ (Nat.le_refl _) _ _) | (with_reducible refine next ?_ (by assumption) (Nat.le_refl _)))); done)) HB6.out.size)) hg8 (by (try simp); omega) (fun q hq => by have := hlt6 q hq; omega); have HO8 := Lib.hid hown8; have HB8 := Lib.hid hb8; clear hown8 hb8))
    all_goals
      go_wp2
      go_ret
      refine ⟨A8, _, c8, rfl, ?_, HB8.out⟩
      rw [Hv.out]
      refine ((((HO8.out.tokT (T' := fun b => w.heap.size + 1 ≤ b)).res).cast ?_).wide (fun k _ hk => .inr (by omega)) (by decide))
      have := HNL.out
      simp
      omega
end Go.Proofs.Ytchdpjgncojhaaa
