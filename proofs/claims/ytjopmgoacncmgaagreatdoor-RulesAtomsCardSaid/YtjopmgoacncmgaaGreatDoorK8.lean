/- Rules: compares, positive, atoms, safe. -/
import Derived.Test.YtjopmgoacncmgaaGreatDoorK7
set_option linter.unusedVariables false
set_option linter.unusedSimpArgs false
namespace Go.Proofs.YtjopmgoacncmgaaGreatDoor
open Go.RowKit

theorem compares_any (l : Ltl) (A : Option Addr) (n c : Nat) (w : World) :
    Calls Tryz.prog 103 #[.agg #[.bool l.neg, .string ⟨l.op.toArray⟩, .string ⟨l.atom.name.toArray⟩, .slice A n c]] w fun e w' => e = .returned (.bool (compsS l)) ∧ Below w.heap.size w w' := by
  go_enter Tryz.func103, Tryz.ntmps103
  go_wp2
  go_ret
  refine ⟨ret_bool ?_, boxed⟩
  unfold compsS
  cases l.op <;> simp

theorem positive_any (l : Ltl) (A : Option Addr) (n c : Nat) (w : World) :
    Calls Tryz.prog 147 #[.agg #[.bool l.neg, .string ⟨l.op.toArray⟩, .string ⟨l.atom.name.toArray⟩, .slice A n c]] w fun e w' => e = .returned (.bool (posS l)) ∧ Below w.heap.size w w' := by
  have hc := fun w => compares_any l A n c w
  unfold posS
  generalize compsS l = b at *
  have HC := Lib.hid hc; clear hc
  obtain ⟨neg, op, nm, args⟩ := l
  simp only at HC ⊢
  go_enter Tryz.func147, Tryz.ntmps147
  go_wp2_with (go_at_call 103; refine (HC.out _).mono ?_; rintro e w1 ⟨rfl, hb1⟩; have h0 := cell_later hb1 ((cell_blk (blkAt w _ rfl) 0).trans rfl))
  all_goals go_ret
  all_goals (refine ⟨ret_bool (by simp_all), next boxed (by assumption) (Nat.le_refl _)⟩)
theorem atoms_spec (l : List Ltl) : ∀ out : List Atm, out ++ (l.filter fun l => !compsS l).map (·.atom) = match l with | [] => out | x :: r => (if compsS x then out else out ++ [x.atom]) ++ (r.filter fun l => !compsS l).map (·.atom) := by
  intro out
  cases l with
  | nil => simp
  | cons x r =>
    rw [List.filter_cons]
    cases h : compsS x <;> simp [h]

set_option maxRecDepth 100000 in
set_option maxHeartbeats 2000000 in
theorem atoms_any (r : Rul) (A1 : Option Addr) (n1 c1 : Nat) (A2 : Option Addr) (n2 c2 : Nat) (w : World) (S : Nat → Prop) (h1 : Sl w S A1 n1 c1 r.head.args) (h2 : Sl w S A2 n2 c2 r.body) (hlen : r.body.length ≤ 1000000) :
    Calls Tryz.prog 107 #[.agg #[.string ⟨r.head.name.toArray⟩, .slice A1 n1 c1, .slice A2 n2 c2]] w fun e w' => ∃ A c, e = .returned (.slice A (atomsS r).length c) ∧ Sl w' (fun b => S b ∨ w.heap.size ≤ b) A (atomsS r).length c (atomsS r) ∧ Below w.heap.size w w' := by
  obtain ⟨v, hv⟩ : ∃ v, v = atomsS r := ⟨_, rfl⟩
  rw [← hv]
  unfold atomsS at hv
  have hn2 := h2.len
  subst hn2
  have H1 := Lib.hid (h1.wide (S' := fun b => S b ∧ b < w.heap.size) (fun k hk hs => ⟨hs, hk⟩) (by decide)); have H2 := Lib.hid (h2.wide (S' := fun b => S b ∧ b < w.heap.size) (fun k hk hs => ⟨hs, hk⟩) (by decide)); clear h1 h2
  obtain ⟨⟨nm, args⟩, body⟩ := r
  simp only at H1 H2 hv hlen ⊢
  have HV := Lib.hid hv; clear hv
  go_enter Tryz.func107, Tryz.ntmps107
  go_wp2_with fail
  have hown0 : Own ((w.alloc (.cells #[.string ⟨nm.toArray⟩, .slice A1 n1 c1, .slice A2 body.length c2] 48)).alloc (.cells #[.string ⟨nm.toArray⟩, .slice A1 n1 c1] 45)) (fun b => S b ∧ b < w.heap.size) (w.heap.size + 1) 45 (some ⟨w.heap.size + 1, 0, none⟩) 1 [(⟨nm, args⟩ : Atm)] :=
    Own.lit (cs := [.string ⟨nm.toArray⟩, .slice A1 n1 c1]) (blkAt _ _ (by simp)) (Nat.le_refl _) rfl (by simp) (fun i h => by
      obtain rfl : i = 0 := by simp at h; omega
      exact ⟨rfl, A1, n1, c1, rfl, ((H1.out.alloc _).alloc _).wide (fun k _ hk => ⟨hk, by have := hk.2; omega⟩) (by decide)⟩)
  have HO0 := Lib.hid hown0; clear hown0
  have Hf : Hid (v = [(⟨nm, args⟩ : Atm)] ++ ((body.drop 0).filter fun l => !compsS l).map (·.atom)) := HV
  go_loopw [3, 12] (fun o i wr => ∃ k : Nat, k ≤ body.length ∧ i = .int .i64 k ∧ ∃ out A c, o = .slice A out.length c ∧ Own wr (fun b => S b ∧ b < w.heap.size) (w.heap.size + 1) 45 A c out ∧ out.length ≤ k + 1 ∧ Below w.heap.size w wr ∧ w.heap.size + 1 ≤ wr.heap.size ∧ Hid (v = out ++ ((body.drop k).filter fun l => !compsS l).map (·.atom))) (fun _ i _ => body.length - (intOf i).toNat)
  case atStart => exact ⟨0, by omega, rfl, _, _, _, rfl, HO0.out, by simp, boxed.alloc (by simp) _, by simp, Hf⟩
  case round =>
    obtain ⟨k, hk, rfl, out, A, c, rfl, hown, hol, hb, hsz, hf⟩ := hrel
    by_cases hlt : k < body.length
    · obtain ⟨b, o, rfl, hbn, hbs, A3, n3, c3, h1, h2, h3, h4, hs⟩ := (H2.out.below hb).ltl hlt
      have hd := hf.out
      rw [drop_get hlt, atoms_spec] at hd
      simp only at hd
      have hcm := fun w => compares_any body[k] A3 n3 c3 w
      generalize body[k] = x at *
      generalize compsS x = cb at *
      obtain ⟨neg, op, ⟨xnm, xargs⟩⟩ := x
      simp only at h1 h2 h3 h4 hs hd hcm
      have HO := Lib.hid hown; have HD := Lib.hid hd; have HS := Lib.hid hs; have HC := Lib.hid hcm; clear hown hd hf hs hcm
      go_wp2_with (first | (go_at_call 103; refine (HC.out _).mono ?_; rintro e w1 ⟨rfl, hb1⟩; have g2 : w1.cell? ⟨wr.heap.size, 2, none⟩ = some (.string ⟨xnm.toArray⟩) := cell_later hb1 ((cell_blk (blkAt wr _ rfl) 2).trans rfl); have g3 : w1.cell? ⟨wr.heap.size, 3, none⟩ = some (.slice A3 n3 c3) := cell_later hb1 ((cell_blk (blkAt wr _ rfl) 3).trans rfl)) | (at_builtin; refine wpList_app1 rfl _ _ eltAtm rfl (by decide) rfl rfl rfl (((HO.out.alloc _).below hb1).alloc _) rfl [.string ⟨xnm.toArray⟩, .slice A3 n3 c3] (⟨xnm, xargs⟩ : Atm) (blkAt _ _ (by simp)) rfl ⟨rfl, A3, n3, c3, rfl, (((HS.out.alloc _).below hb1).alloc _).wide (fun q _ hq => ⟨hq, HO.out.ne_lt (by have := hq.2; omega)⟩) (by decide)⟩ (by omega) (by omega) (by have := hb1.size; simp at this; simp; omega) ?_; intro A' c' w2 hown' hg hat))
      · refine ⟨⟨k + 1, by omega, by go_num, _, A', c', by simp, hown', by simp; omega, (((hb.alloc (by omega) _).trans (hb1.mono (by simp; omega))).alloc (by have := hb1.size; simp at this; omega) _).grown hg (by have := hb1.size; simp at this; simp; omega) (fun q hq => by have := (HO.out.lt q hq).1; omega), ?_, ?_⟩, by simp [intOf]; omega⟩
        · have := hb1.size; have := hg.size; simp at *; omega
        · show v = _
          rw [HD.out]; simp_all
      · refine ⟨⟨k + 1, by omega, by go_num, out, A, c, rfl, (HO.out.alloc _).below hb1, by omega, (hb.alloc (by omega) _).trans (hb1.mono (by simp; omega)), by have := hb1.size; simp at this; omega, ?_⟩, by simp [intOf]; omega⟩
        show v = _
        rw [HD.out]; simp_all
    · have hv2 : v = out := by rw [hf.out, drop_end hlt]; simp
      subst hv2
      go_wp2_with fail
      go_ret
      exact ⟨A, c, rfl, (hown.sl (by decide)).wide (fun q _ hq => hq.elim (fun x => .inl x.1) (fun x => .inr (by have := (hown.lt q x).1; omega))) (by decide), hb⟩
end Go.Proofs.YtjopmgoacncmgaaGreatDoor
