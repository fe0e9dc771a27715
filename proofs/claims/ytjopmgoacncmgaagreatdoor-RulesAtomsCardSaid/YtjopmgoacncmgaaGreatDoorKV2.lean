/- Rules, reference: Same, Ground. -/
import Derived.Test.YtjopmgoacncmgaaGreatDoorKV1
import Derived.Test.YtjopmgoacncmgaaGreatDoorKW3
import Derived.Test.YtjopmgoacncmgaaGreatDoorKZ2
import Derived.Test.YtjopmgoacncmgaaGreatDoorRegH
import Derived.Test.YtjopmgoacncmgaaGreatDoorK13
set_option linter.unusedVariables false
set_option linter.unusedSimpArgs false
namespace Go.Proofs.YtjopmgoacncmgaaGreatDoor
open Go.RowKit

theorem addV_any (l : List Arg) : ∀ out : List Bs, out ≠ [] → addV out l ≠ [] := by
  induction l with
  | nil => intro out h; exact h
  | cons a r ih => intro out h; rw [addV]; exact ih _ (by split <;> simp_all)
theorem addV_nil (l : List Arg) : (addV [] l = []) ↔ (l.any fun x => x.kind == 1) = false := by
  induction l with
  | nil => simp [addV]
  | cons a r ih =>
    rw [addV, List.any_cons]
    by_cases h : a.kind = 1
    · have := addV_any r [a.text] (by simp)
      simp [h, this]
    · rw [if_neg (by simp [h]), ih]
      simp [h]

set_option maxRecDepth 100000 in
set_option maxHeartbeats 1000000 in
theorem rGround_any (x : Atm) (A : Option Addr) (n c : Nat) (w : World) (S : Nat → Prop) (hs : Sl w S A n c x.args) (ho : OkT x) :
    Calls Tryz.prog 36 #[.agg #[.string ⟨x.name.toArray⟩, .slice A n c]] w fun e w' => e = .returned (.bool (groundS x)) ∧ Below w.heap.size w w' := by
  have h1 := fun w S (h : Sl w S A n c x.args) => ratomF_any x A n c w S h ho
  obtain ⟨v, hv⟩ : ∃ v, v = groundS x := ⟨_, rfl⟩
  rw [← hv]
  unfold groundS at hv
  have HS := Lib.hid hs; clear hs ho
  cases hf : atomS x
  · rw [hf] at h1 hv
    rw [Bool.false_and] at hv
    subst hv
    have H1 := Lib.hid h1; clear h1 hf
    go_enter Tryz.func36, Tryz.ntmps36
    go_wp2_with fail
    refine (H1.out _ _ (HS.out.alloc _)).mono ?_
    rintro e w1 ⟨rfl, hb1⟩
    go_wp2_with fail
    go_ret
    exact ⟨rfl, boxed.trans (hb1.mono (by simp))⟩
  · rw [hf] at h1 hv
    obtain ⟨p1, p2, p3⟩ := atomS_parts hf
    rw [Bool.true_and] at hv
    have H1 := Lib.hid h1; clear h1 hf
    have hz := addV_nil x.args
    have hln := addV_len x.args []
    have had := fun w S (h : Sl w S A n c x.args) => added_any w.heap.size none 0 [] A n c x.args w S (Own.nil _ _ _ _) h (fun k _ e => by cases e) (Nat.le_refl _) (by simp; omega)
    have hv2 : v = ((addV [] x.args).length == 0) := by
      rw [hv, Bool.eq_iff_iff]
      simp [← hz]
    generalize addV [] x.args = av at *
    have HAD := Lib.hid had; have HV := Lib.hid hv2
    clear hz hv hv2 had p3
    go_enter Tryz.func36, Tryz.ntmps36
    go_wp2_with fail
    refine (H1.out _ _ (HS.out.alloc _)).mono ?_
    rintro e w1 ⟨rfl, hb1⟩
    have k1 := (cell_blk (keptBlk hb1 (blkAt w (.cells #[.string ⟨x.name.toArray⟩, .slice A n c] 45) rfl)) 1).trans rfl
    go_wp2_with fail
    refine (HAD.out _ _ ((HS.out.alloc _).below hb1)).mono ?_
    rintro e w2 ⟨A2, c2, rfl, -, hg2, -⟩
    have hb2 : Below w1.heap.size w1 w2 := (Below.refl _ _).grown hg2 (Nat.le_refl _) (fun k e => by cases e)
    go_wp2_with fail
    go_ret
    exact ⟨ret_bool (by rw [HV.out, Bool.eq_iff_iff]; simp), (boxed.trans (hb1.mono (by simp))).trans (hb2.mono (by have := hb1.size; simp at this; omega))⟩

set_option maxRecDepth 100000 in
set_option maxHeartbeats 4000000 in
theorem same_any (A : Option Addr) (n c : Nat) (l : List Rul) (B : Option Addr) (m d : Nat) (r : List Rul) (w : World) (S T : Nat → Prop) (hl : Sl w S A n c l) (hr : Sl w T B m d r) :
    Calls Tryz.prog 15 #[.slice A n c, .slice B m d] w fun e w' => e = .returned (.bool (decide (l = r))) ∧ Below w.heap.size w w' := by
  obtain ⟨v, hv⟩ : ∃ v, v = decide (l = r) := ⟨_, rfl⟩
  rw [← hv]
  have hn := hl.len; have hm := hr.len
  subst hn hm
  have hle := hl.le; have hle2 := hr.le
  by_cases hlen : l.length = r.length
  · have hlb : ((l.length : Int) == (r.length : Int)) = true := by simp [hlen]
    have HV : Hid (v = decide (l.drop 0 = r.drop 0)) := hv
    have HL := Lib.hid (hl.wide (S' := fun b => b < w.heap.size) (fun k hk _ => hk) (by decide)); have HR := Lib.hid (hr.wide (S' := fun b => b < w.heap.size) (fun k hk _ => hk) (by decide))
    have HLEN := Lib.hid hlen
    clear hv hl hr
    go_enter Tryz.func15, Tryz.ntmps15
    go_wp2_with fail
    clear hlb hlen
    go_loopw [5] (fun i wr => ∃ k : Nat, k ≤ l.length ∧ i = .int .i64 k ∧ Below w.heap.size w wr ∧ Hid (v = decide (l.drop k = r.drop k))) (fun i _ => l.length - (intOf i).toNat)
    case atStart => exact ⟨0, by omega, rfl, Below.refl _ _, HV⟩
    case round =>
      obtain ⟨k, hk, rfl, hb, hf⟩ := hrel
      have hwr := hb.size
      by_cases hlt : k < l.length
      · have hlt2 : k < r.length := by have := HLEN.out; omega
        obtain ⟨b, o, rfl, -, hbs, A1, n1, c1, A2, n2, c2, h1, h2, h3, hs1, hs2⟩ := (HL.out.below hb).rul hlt
        obtain ⟨b', o', rfl, -, hbs', B1, m1, d1, B2, m2, d2, g1, g2, g3, ht1, ht2⟩ := (HR.out.below hb).rul hlt2
        have hd := hf.out
        rw [drop_get hlt, drop_get hlt2] at hd
        generalize l[k] = x at *
        generalize r[k] = y at *
        have hx2 := hs2.len; have hy2 := ht2.len
        subst hx2 hy2
        have hle3 := hs2.le; have hle4 := ht2.le
        have hsm := fun w' (hb' : Below wr.heap.size wr w') => sameAtom_any x.head y.head A1 n1 c1 B1 m1 d1 w' _ _ (hs1.below hb') (ht1.below hb')
        have hX := fun (z : World) (hz : Below wr.heap.size wr z) => And.intro (cell_later hz h1) (And.intro (cell_later hz h2) (And.intro (cell_later hz h3) (And.intro (cell_later hz g1) (And.intro (cell_later hz g2) (cell_later hz g3)))))
        have HX := Lib.hid hX; have HS2 := Lib.hid (hs2.wide (S' := fun b => b < wr.heap.size) (fun k hk _ => hk) (by decide)); have HT2 := Lib.hid (ht2.wide (S' := fun b => b < wr.heap.size) (fun k hk _ => hk) (by decide)); have HB := Lib.hid hb
        obtain ⟨⟨nm, args⟩, body⟩ := x
        obtain ⟨⟨nm', args'⟩, body'⟩ := y
        simp only at *
        have k0 : (0 : Int) ≤ (k : Int) := by omega
        have k1 : (k : Int) < (l.length : Int) := by omega
        have k2 : (k : Int) < (r.length : Int) := by omega
        by_cases hh : (⟨nm, args⟩ : Atm) = ⟨nm', args'⟩
        · rw [decide_eq_true hh] at hsm
          by_cases hbl : body.length = body'.length
          · have hblb : ((body.length : Int) == (body'.length : Int)) = true := by simp [hbl]
            have hd2 : v = (decide (body.drop 0 = body'.drop 0) && decide (l.drop (k + 1) = r.drop (k + 1))) := by
              rw [hd, Bool.eq_iff_iff]
              simp [hh]
            have HD := Lib.hid hd2; have HSM := Lib.hid hsm
            clear hd hd2 hsm hs1 hs2 ht1 ht2 h1 h2 h3 g1 g2 g3 hX hf hb
            go_wp2_with fail
            refine wpH_region (fun z => Below wr.heap.size wr z) (by kernel_rfl) ?_
            have hS : Below wr.heap.size wr wr.drew := (Below.refl _ _).drew
            (refine wpAnyH_takeW 0 rfl rfl (by kernel_rfl) (by kernel_rfl) (by kernel_rfl) (fun _ _ _ h => h) (v := ?_) (by kernel_rfl) hS ?_ ?_; rotate_left; (focus (intro x hx; have fx := HX.out x hx; go_simp; (try with_reducible rfl); done)); (try simp only [Act.put, List.setIfInBounds_toArray, List.set_cons_zero, List.set_cons_succ]))
            (refine wpAnyH_takeW 1 rfl rfl (by kernel_rfl) (by kernel_rfl) (by kernel_rfl) (fun _ _ _ h => h) (v := ?_) (by kernel_rfl) hS ?_ ?_; rotate_left; (focus (intro x hx; have fx := HX.out x hx; go_simp; (try with_reducible rfl); done)); (try simp only [Act.put, List.setIfInBounds_toArray, List.set_cons_zero, List.set_cons_succ]))
            (refine wpAnyH_takeW 2 rfl rfl (by kernel_rfl) (by kernel_rfl) (by kernel_rfl) (fun _ _ _ h => h) (v := ?_) (by kernel_rfl) hS ?_ ?_; rotate_left; (focus (intro x hx; have fx := HX.out x hx; go_simp; (try with_reducible rfl); done)); (try simp only [Act.put, List.setIfInBounds_toArray, List.set_cons_zero, List.set_cons_succ]))
            (refine wpAnyH_takeW 3 rfl rfl (by kernel_rfl) (by kernel_rfl) (by kernel_rfl) (fun _ _ _ h => h) (v := ?_) (by kernel_rfl) hS ?_ ?_; rotate_left; (focus (intro x hx; have fx := HX.out x hx; go_simp; (try with_reducible rfl); done)); (try simp only [Act.put, List.setIfInBounds_toArray, List.set_cons_zero, List.set_cons_succ]))
            (refine wpAnyH_takeW 4 rfl rfl (by kernel_rfl) (by kernel_rfl) (by kernel_rfl) (fun _ _ _ h => h) (v := ?_) (by kernel_rfl) hS ?_ ?_; rotate_left; (focus (intro x hx; have fx := HX.out x hx; go_simp; (try with_reducible rfl); done)); (try simp only [Act.put, List.setIfInBounds_toArray, List.set_cons_zero, List.set_cons_succ]))
            (refine wpAnyH_takeW 5 rfl rfl (by kernel_rfl) (by kernel_rfl) (by kernel_rfl) (fun _ _ _ h => h) (v := ?_) (by kernel_rfl) hS ?_ ?_; rotate_left; (focus (intro x hx; have fx := HX.out x hx; go_simp; (try with_reducible rfl); done)); (try simp only [Act.put, List.setIfInBounds_toArray, List.set_cons_zero, List.set_cons_succ]))
            (refine wpAnyH_takeW 6 rfl rfl (by kernel_rfl) (by kernel_rfl) (by kernel_rfl) (fun _ _ _ h => h) (v := ?_) (by kernel_rfl) hS ?_ ?_; rotate_left; (focus (intro x hx; have fx := HX.out x hx; go_simp; (try with_reducible rfl); done)); (try simp only [Act.put, List.setIfInBounds_toArray, List.set_cons_zero, List.set_cons_succ]))
            (refine wpAnyH_takeW 7 rfl rfl (by kernel_rfl) (by kernel_rfl) (by kernel_rfl) (fun _ _ _ h => h) (v := ?_) (by kernel_rfl) hS ?_ ?_; rotate_left; (focus (intro x hx; have fx := HX.out x hx; go_simp; (try with_reducible rfl); done)); (try simp only [Act.put, List.setIfInBounds_toArray, List.set_cons_zero, List.set_cons_succ]))
            (refine wpAnyH_takeW 8 rfl rfl (by kernel_rfl) (by kernel_rfl) (by kernel_rfl) (fun _ _ _ h => h) (v := ?_) (by kernel_rfl) hS ?_ ?_; rotate_left; (focus (intro x hx; have fx := HX.out x hx; go_simp; (try with_reducible rfl); done)); (try simp only [Act.put, List.setIfInBounds_toArray, List.set_cons_zero, List.set_cons_succ]))
            (refine wpAnyH_takeW 9 rfl rfl (by kernel_rfl) (by kernel_rfl) (by kernel_rfl) (fun _ _ _ h => h) (v := ?_) (by kernel_rfl) hS ?_ ?_; rotate_left; (focus (intro x hx; have fx := HX.out x hx; go_simp; (try with_reducible rfl); done)); (try simp only [Act.put, List.setIfInBounds_toArray, List.set_cons_zero, List.set_cons_succ]))
            (refine wpAnyH_one 10 (by kernel_rfl) rfl ?_; intro K' hK'; go_simp; refine (HSM.out _ hS).mono ?_; rintro e w5 ⟨rfl, hb5⟩; have hS := hS.trans (hb5.mono hS.size); refine hK'.out _ _ hS ?_; clear hK' K')
            (refine wpAnyH_takeW 11 rfl rfl (by kernel_rfl) (by kernel_rfl) (by kernel_rfl) (fun _ _ _ h => h) (v := ?_) (by kernel_rfl) hS ?_ ?_; rotate_left; (focus (intro x hx; have fx := HX.out x hx; go_simp; (try with_reducible rfl); done)); (try simp only [Act.put, List.setIfInBounds_toArray, List.set_cons_zero, List.set_cons_succ]))
            (refine wpAnyH_takeW 12 rfl rfl (by kernel_rfl) (by kernel_rfl) (by kernel_rfl) (fun _ _ _ h => h) (v := ?_) (by kernel_rfl) hS ?_ ?_; rotate_left; (focus (intro x hx; have fx := HX.out x hx; go_simp; (try with_reducible rfl); done)); (try simp only [Act.put, List.setIfInBounds_toArray, List.set_cons_zero, List.set_cons_succ]))
            (refine wpAnyH_takeW 13 rfl rfl (by kernel_rfl) (by kernel_rfl) (by kernel_rfl) (fun _ _ _ h => h) (v := ?_) (by kernel_rfl) hS ?_ ?_; rotate_left; (focus (intro x hx; have fx := HX.out x hx; go_simp; (try with_reducible rfl); done)); (try simp only [Act.put, List.setIfInBounds_toArray, List.set_cons_zero, List.set_cons_succ]))
            (refine wpAnyH_takeW 14 rfl rfl (by kernel_rfl) (by kernel_rfl) (by kernel_rfl) (fun _ _ _ h => h) (v := ?_) (by kernel_rfl) hS ?_ ?_; rotate_left; (focus (intro x hx; have fx := HX.out x hx; go_simp; (try with_reducible rfl); done)); (try simp only [Act.put, List.setIfInBounds_toArray, List.set_cons_zero, List.set_cons_succ]))
            (refine wpAnyH_takeW 15 rfl rfl (by kernel_rfl) (by kernel_rfl) (by kernel_rfl) (fun _ _ _ h => h) (v := ?_) (by kernel_rfl) hS ?_ ?_; rotate_left; (focus (intro x hx; have fx := HX.out x hx; go_simp; (try with_reducible rfl); done)); (try simp only [Act.put, List.setIfInBounds_toArray, List.set_cons_zero, List.set_cons_succ]))
            (refine wpAnyH_takeW 16 rfl rfl (by kernel_rfl) (by kernel_rfl) (by kernel_rfl) (fun _ _ _ h => h) (v := ?_) (by kernel_rfl) hS ?_ ?_; rotate_left; (focus (intro x hx; have fx := HX.out x hx; go_simp; (try with_reducible rfl); done)); (try simp only [Act.put, List.setIfInBounds_toArray, List.set_cons_zero, List.set_cons_succ]))
            (refine wpAnyH_takeW 17 rfl rfl (by kernel_rfl) (by kernel_rfl) (by kernel_rfl) (fun _ _ _ h => h) (v := ?_) (by kernel_rfl) hS ?_ ?_; rotate_left; (focus (intro x hx; have fx := HX.out x hx; go_simp; (try with_reducible rfl); done)); (try simp only [Act.put, List.setIfInBounds_toArray, List.set_cons_zero, List.set_cons_succ]))
            (refine wpAnyH_takeW 18 rfl rfl (by kernel_rfl) (by kernel_rfl) (by kernel_rfl) (fun _ _ _ h => h) (v := ?_) (by kernel_rfl) hS ?_ ?_; rotate_left; (focus (intro x hx; have fx := HX.out x hx; go_simp; (try with_reducible rfl); done)); (try simp only [Act.put, List.setIfInBounds_toArray, List.set_cons_zero, List.set_cons_succ]))
            (refine wpAnyH_takeW 19 rfl rfl (by kernel_rfl) (by kernel_rfl) (by kernel_rfl) (fun _ _ _ h => h) (v := ?_) (by kernel_rfl) hS ?_ ?_; rotate_left; (focus (intro x hx; have fx := HX.out x hx; go_simp; (try with_reducible rfl); done)); (try simp only [Act.put, List.setIfInBounds_toArray, List.set_cons_zero, List.set_cons_succ]))
            (refine wpAnyH_takeW 20 rfl rfl (by kernel_rfl) (by kernel_rfl) (by kernel_rfl) (fun _ _ _ h => h) (v := ?_) (by kernel_rfl) hS ?_ ?_; rotate_left; (focus (intro x hx; have fx := HX.out x hx; go_simp; (try with_reducible rfl); done)); (try simp only [Act.put, List.setIfInBounds_toArray, List.set_cons_zero, List.set_cons_succ]))
            (refine wpAnyH_takeW 21 rfl rfl (by kernel_rfl) (by kernel_rfl) (by kernel_rfl) (fun _ _ _ h => h) (v := ?_) (by kernel_rfl) hS ?_ ?_; rotate_left; (focus (intro x hx; have fx := HX.out x hx; go_simp; (try with_reducible rfl); done)); (try simp only [Act.put, List.setIfInBounds_toArray, List.set_cons_zero, List.set_cons_succ]))
            (refine wpAnyH_takeW 22 rfl rfl (by kernel_rfl) (by kernel_rfl) (by kernel_rfl) (fun _ _ _ h => h) (v := ?_) (by kernel_rfl) hS ?_ ?_; rotate_left; (focus (intro x hx; have fx := HX.out x hx; go_simp; (try with_reducible rfl); done)); (try simp only [Act.put, List.setIfInBounds_toArray, List.set_cons_zero, List.set_cons_succ]))
            (refine wpAnyH_takeW 23 rfl rfl (by kernel_rfl) (by kernel_rfl) (by kernel_rfl) (fun _ _ _ h => h) (v := ?_) (by kernel_rfl) hS ?_ ?_; rotate_left; (focus (intro x hx; have fx := HX.out x hx; go_simp; (try with_reducible rfl); done)); (try simp only [Act.put, List.setIfInBounds_toArray, List.set_cons_zero, List.set_cons_succ]))
            (refine wpAnyH_takeW 24 rfl rfl (by kernel_rfl) (by kernel_rfl) (by kernel_rfl) (fun _ _ _ h => h) (v := ?_) (by kernel_rfl) hS ?_ ?_; rotate_left; (focus (intro x hx; have fx := HX.out x hx; go_simp; (try with_reducible rfl); done)); (try simp only [Act.put, List.setIfInBounds_toArray, List.set_cons_zero, List.set_cons_succ]))
            (refine wpAnyH_takeW 25 rfl rfl (by kernel_rfl) (by kernel_rfl) (by kernel_rfl) (fun _ _ _ h => h) (v := ?_) (by kernel_rfl) hS ?_ ?_; rotate_left; (focus (intro x hx; have fx := HX.out x hx; go_simp; (try with_reducible rfl); done)); (try simp only [Act.put, List.setIfInBounds_toArray, List.set_cons_zero, List.set_cons_succ]))
            (refine wpAnyH_takeW 26 rfl rfl (by kernel_rfl) (by kernel_rfl) (by kernel_rfl) (fun _ _ _ h => h) (v := ?_) (by kernel_rfl) hS ?_ ?_; rotate_left; (focus (intro x hx; have fx := HX.out x hx; go_simp; (try with_reducible rfl); done)); (try simp only [Act.put, List.setIfInBounds_toArray, List.set_cons_zero, List.set_cons_succ]))
            refine wpAnyH_done (by kernel_rfl) ?_ _
            have h1 := HX.out _ hS
            obtain ⟨h1, h2, h3, g1, g2, g3⟩ := h1
            have hw5 := hS.size
            generalize hWX : w5 = WX at *
            go_wp2_with fail
            obtain ⟨wo, rfl⟩ : ∃ wo, wo = wr := ⟨_, rfl⟩
            go_loopw [6] (fun i wy => ∃ q : Nat, q ≤ body.length ∧ i = .int .i64 q ∧ Below wo.heap.size wo wy ∧ Hid (v = (decide (body.drop q = body'.drop q) && decide (l.drop (k + 1) = r.drop (k + 1))))) (fun i _ => body.length - (intOf i).toNat)
            case atStart => exact ⟨0, by omega, rfl, hS, HD⟩
            case round =>
              obtain ⟨q, hq, rfl, hbq, hfq⟩ := hrel
              have hwq := hbq.size
              obtain ⟨h1, h2, h3, g1, g2, g3⟩ := HX.out _ hbq
              by_cases hltq : q < body.length
              · obtain ⟨b3, o3, rfl, -, hbs3, A5, n5, c5, u0, u1, u2, u3, us⟩ := (HS2.out.below hbq).ltl hltq
                obtain ⟨b4, o4, rfl, -, hbs4, A6, n6, c6, t0, t1, t2, t3, ts⟩ := (HT2.out.below hbq).ltl (k := q) (by omega)
                have q0 : (0 : Int) ≤ (q : Int) := by omega
                have q1 : (q : Int) < (body.length : Int) := by omega
                have q2 : (q : Int) < (body'.length : Int) := by omega
                have hfo := hfq.out
                rw [drop_get hltq, drop_get (show q < body'.length by omega)] at hfo
                generalize body[q] = x at *
                generalize body'[q] = y at *
                have HX2 := Lib.hid (fun (z : World) (hz : Below wr.heap.size wr z) => And.intro (cell_later hz h3) (And.intro (cell_later hz g3) (And.intro (cell_later hz u0) (And.intro (cell_later hz u1) (And.intro (cell_later hz u2) (And.intro (cell_later hz u3) (And.intro (cell_later hz t0) (And.intro (cell_later hz t1) (And.intro (cell_later hz t2) (cell_later hz t3))))))))))
                have HUS := Lib.hid us; have HTS := Lib.hid ts; have HBQ := Lib.hid hbq
                obtain ⟨M, hM⟩ : ∃ M, M = wr.heap.size := ⟨_, rfl⟩
                rw [← hM] at HX2
                have HMM := Lib.hid hM
                clear us ts hbq hfq
                go_wp2_with fail
                clear h1 h2 h3 g1 g2 g3 u0 u1 u2 u3 t0 t1 t2 t3
                replace HX := HX2
                refine wpH_region (fun z => Below M wr z) (by kernel_rfl) ?_
                have hS : Below M wr wr.drew := (Below.refl _ _).drew
                have hw0 : wr.drew.heap.size = wr.heap.size := rfl
                (refine wpAnyH_takeW 0 rfl rfl (by kernel_rfl) (by kernel_rfl) (by kernel_rfl) (fun _ _ _ h => h) (v := ?_) (by kernel_rfl) hS ?_ ?_; rotate_left; (focus (intro x hx; have fx := HX.out x hx; go_simp; (try with_reducible rfl); done)); (try simp only [Act.put, List.setIfInBounds_toArray, List.set_cons_zero, List.set_cons_succ]))
                (refine wpAnyH_takeW 1 rfl rfl (by kernel_rfl) (by kernel_rfl) (by kernel_rfl) (fun _ _ _ h => h) (v := ?_) (by kernel_rfl) hS ?_ ?_; rotate_left; (focus (intro x hx; have fx := HX.out x hx; go_simp; (try with_reducible rfl); done)); (try simp only [Act.put, List.setIfInBounds_toArray, List.set_cons_zero, List.set_cons_succ]))
                (refine wpAnyH_takeW 2 rfl rfl (by kernel_rfl) (by kernel_rfl) (by kernel_rfl) (fun _ _ _ h => h) (v := ?_) (by kernel_rfl) hS ?_ ?_; rotate_left; (focus (intro x hx; have fx := HX.out x hx; go_simp; (try with_reducible rfl); done)); (try simp only [Act.put, List.setIfInBounds_toArray, List.set_cons_zero, List.set_cons_succ]))
                (refine wpAnyH_takeW 3 rfl rfl (by kernel_rfl) (by kernel_rfl) (by kernel_rfl) (fun _ _ _ h => h) (v := ?_) (by kernel_rfl) hS ?_ ?_; rotate_left; (focus (intro x hx; have fx := HX.out x hx; go_simp; (try with_reducible rfl); done)); (try simp only [Act.put, List.setIfInBounds_toArray, List.set_cons_zero, List.set_cons_succ]))
                (refine wpAnyH_takeW 4 rfl rfl (by kernel_rfl) (by kernel_rfl) (by kernel_rfl) (fun _ _ _ h => h) (v := ?_) (by kernel_rfl) hS ?_ ?_; rotate_left; (focus (intro x hx; have fx := HX.out x hx; go_simp; (try with_reducible rfl); done)); (try simp only [Act.put, List.setIfInBounds_toArray, List.set_cons_zero, List.set_cons_succ]))
                (refine wpAnyH_takeW 5 rfl rfl (by kernel_rfl) (by kernel_rfl) (by kernel_rfl) (fun _ _ _ h => h) (v := ?_) (by kernel_rfl) hS ?_ ?_; rotate_left; (focus (intro x hx; have fx := HX.out x hx; go_simp; (try with_reducible rfl); done)); (try simp only [Act.put, List.setIfInBounds_toArray, List.set_cons_zero, List.set_cons_succ]))
                (refine wpAnyH_takeW 6 rfl rfl (by kernel_rfl) (by kernel_rfl) (by kernel_rfl) (fun _ _ _ h => h) (v := ?_) (by kernel_rfl) hS ?_ ?_; rotate_left; (focus (intro x hx; have fx := HX.out x hx; go_simp; (try with_reducible rfl); done)); (try simp only [Act.put, List.setIfInBounds_toArray, List.set_cons_zero, List.set_cons_succ]))
                (refine wpAnyH_takeW 7 rfl rfl (by kernel_rfl) (by kernel_rfl) (by kernel_rfl) (fun _ _ _ h => h) (v := ?_) (by kernel_rfl) hS ?_ ?_; rotate_left; (focus (intro x hx; have fx := HX.out x hx; go_simp; (try with_reducible rfl); done)); (try simp only [Act.put, List.setIfInBounds_toArray, List.set_cons_zero, List.set_cons_succ]))
                (refine wpAnyH_takeW 8 rfl rfl (by kernel_rfl) (by kernel_rfl) (by kernel_rfl) (fun _ _ _ h => h) (v := ?_) (by kernel_rfl) hS ?_ ?_; rotate_left; (focus (intro x hx; have fx := HX.out x hx; go_simp; (try with_reducible rfl); done)); (try simp only [Act.put, List.setIfInBounds_toArray, List.set_cons_zero, List.set_cons_succ]))
                (refine wpAnyH_takeW 9 rfl rfl (by kernel_rfl) (by kernel_rfl) (by kernel_rfl) (fun _ _ _ h => h) (v := ?_) (by kernel_rfl) hS ?_ ?_; rotate_left; (focus (intro x hx; have fx := HX.out x hx; go_simp; (try with_reducible rfl); done)); (try simp only [Act.put, List.setIfInBounds_toArray, List.set_cons_zero, List.set_cons_succ]))
                (refine wpAnyH_takeW 10 rfl rfl (by kernel_rfl) (by kernel_rfl) (by kernel_rfl) (fun _ _ _ h => h) (v := ?_) (by kernel_rfl) hS ?_ ?_; rotate_left; (focus (intro x hx; have fx := HX.out x hx; go_simp; (try with_reducible rfl); done)); (try simp only [Act.put, List.setIfInBounds_toArray, List.set_cons_zero, List.set_cons_succ]))
                (refine wpAnyH_takeW 11 rfl rfl (by kernel_rfl) (by kernel_rfl) (by kernel_rfl) (fun _ _ _ h => h) (v := ?_) (by kernel_rfl) hS ?_ ?_; rotate_left; (focus (intro x hx; have fx := HX.out x hx; go_simp; (try with_reducible rfl); done)); (try simp only [Act.put, List.setIfInBounds_toArray, List.set_cons_zero, List.set_cons_succ]))
                (refine wpAnyH_takeW 12 rfl rfl (by kernel_rfl) (by kernel_rfl) (by kernel_rfl) (fun _ _ _ h => h) (v := ?_) (by kernel_rfl) hS ?_ ?_; rotate_left; (focus (intro x hx; have fx := HX.out x hx; go_simp; (try with_reducible rfl); done)); (try simp only [Act.put, List.setIfInBounds_toArray, List.set_cons_zero, List.set_cons_succ]))
                (refine wpAnyH_takeW 13 rfl rfl (by kernel_rfl) (by kernel_rfl) (by kernel_rfl) (fun _ _ _ h => h) (v := ?_) (by kernel_rfl) hS ?_ ?_; rotate_left; (focus (intro x hx; have fx := HX.out x hx; go_simp; (try with_reducible rfl); done)); (try simp only [Act.put, List.setIfInBounds_toArray, List.set_cons_zero, List.set_cons_succ]))
                (refine wpAnyH_takeW 14 rfl rfl (by kernel_rfl) (by kernel_rfl) (by kernel_rfl) (fun _ _ _ h => h) (v := ?_) (by kernel_rfl) hS ?_ ?_; rotate_left; (focus (intro x hx; have fx := HX.out x hx; go_simp; (try with_reducible rfl); done)); (try simp only [Act.put, List.setIfInBounds_toArray, List.set_cons_zero, List.set_cons_succ]))
                (refine wpAnyH_takeW 15 rfl rfl (by kernel_rfl) (by kernel_rfl) (by kernel_rfl) (fun _ _ _ h => h) (v := ?_) (by kernel_rfl) hS ?_ ?_; rotate_left; (focus (intro x hx; have fx := HX.out x hx; go_simp; (try with_reducible rfl); done)); (try simp only [Act.put, List.setIfInBounds_toArray, List.set_cons_zero, List.set_cons_succ]))
                refine wpAnyH_two 16 17 (by kernel_rfl) rfl rfl ?sx1 ?sx2
                case' sx1 =>
                  intro K' hK'
                  go_simp
                  refine hK'.out _ _ (by rw [hM]; exact belowD boxed) ?_
                  clear hK' K'
                  refine wpAnyH_one 17 (by kernel_rfl) rfl ?_
                  intro K' hK'
                  go_simp
                  refine hK'.out _ _ (by rw [hM]; exact belowD (belowA boxed _)) ?_
                  clear hK' K'
                  have hbw : Below wr.heap.size wr ((wr.alloc (.cells #[.bool false, .string ⟨#[]⟩, .string ⟨#[]⟩, .slice none 0 0] 54)).alloc (.cells #[.bool false, .string ⟨#[]⟩, .string ⟨#[]⟩, .slice none 0 0] 54)).drew := belowD (belowA boxed _)
                  have hB7 : ((wr.alloc (.cells #[.bool false, .string ⟨#[]⟩, .string ⟨#[]⟩, .slice none 0 0] 54)).alloc (.cells #[.bool false, .string ⟨#[]⟩, .string ⟨#[]⟩, .slice none 0 0] 54)).drew.heap[wr.heap.size]? = some (.cells #[.bool false, .string ⟨#[]⟩, .string ⟨#[]⟩, .slice none 0 0] 54 (0, 0)) := blkOld (blkAt _ _ rfl) _
                  have hB8 : ((wr.alloc (.cells #[.bool false, .string ⟨#[]⟩, .string ⟨#[]⟩, .slice none 0 0] 54)).alloc (.cells #[.bool false, .string ⟨#[]⟩, .string ⟨#[]⟩, .slice none 0 0] 54)).drew.heap[wr.heap.size + 1]? = some (.cells #[.bool false, .string ⟨#[]⟩, .string ⟨#[]⟩, .slice none 0 0] 54 (0, 0)) := blkAt _ _ (by simp)
                  generalize ((wr.alloc (.cells #[.bool false, .string ⟨#[]⟩, .string ⟨#[]⟩, .slice none 0 0] 54)).alloc (.cells #[.bool false, .string ⟨#[]⟩, .string ⟨#[]⟩, .slice none 0 0] 54)).drew = W2 at *
                  obtain ⟨b7, h7⟩ : ∃ b7, b7 = wr.heap.size := ⟨_, rfl⟩
                  obtain ⟨b8, h8⟩ : ∃ b8, b8 = wr.heap.size + 1 := ⟨_, rfl⟩
                  rw [← h8] at hB8
                  try rw [← h8]
                  rw [← h7] at hB7
                  try rw [← h7]
                case' sx2 =>
                  intro K' hK'
                  go_simp
                  refine hK'.out _ _ (by rw [hM]; exact belowD boxed) ?_
                  clear hK' K'
                  refine wpAnyH_one 16 (by kernel_rfl) rfl ?_
                  intro K' hK'
                  go_simp
                  refine hK'.out _ _ (by rw [hM]; exact belowD (belowA boxed _)) ?_
                  clear hK' K'
                  have hbw : Below wr.heap.size wr ((wr.alloc (.cells #[.bool false, .string ⟨#[]⟩, .string ⟨#[]⟩, .slice none 0 0] 54)).alloc (.cells #[.bool false, .string ⟨#[]⟩, .string ⟨#[]⟩, .slice none 0 0] 54)).drew := belowD (belowA boxed _)
                  have hB8 : ((wr.alloc (.cells #[.bool false, .string ⟨#[]⟩, .string ⟨#[]⟩, .slice none 0 0] 54)).alloc (.cells #[.bool false, .string ⟨#[]⟩, .string ⟨#[]⟩, .slice none 0 0] 54)).drew.heap[wr.heap.size]? = some (.cells #[.bool false, .string ⟨#[]⟩, .string ⟨#[]⟩, .slice none 0 0] 54 (0, 0)) := blkOld (blkAt _ _ rfl) _
                  have hB7 : ((wr.alloc (.cells #[.bool false, .string ⟨#[]⟩, .string ⟨#[]⟩, .slice none 0 0] 54)).alloc (.cells #[.bool false, .string ⟨#[]⟩, .string ⟨#[]⟩, .slice none 0 0] 54)).drew.heap[wr.heap.size + 1]? = some (.cells #[.bool false, .string ⟨#[]⟩, .string ⟨#[]⟩, .slice none 0 0] 54 (0, 0)) := blkAt _ _ (by simp)
                  generalize ((wr.alloc (.cells #[.bool false, .string ⟨#[]⟩, .string ⟨#[]⟩, .slice none 0 0] 54)).alloc (.cells #[.bool false, .string ⟨#[]⟩, .string ⟨#[]⟩, .slice none 0 0] 54)).drew = W2 at *
                  obtain ⟨b8, h8⟩ : ∃ b8, b8 = wr.heap.size := ⟨_, rfl⟩
                  obtain ⟨b7, h7⟩ : ∃ b7, b7 = wr.heap.size + 1 := ⟨_, rfl⟩
                  rw [← h7] at hB7
                  try rw [← h7]
                  rw [← h8] at hB8
                  try rw [← h8]
                all_goals
                  have hx7 : (wr.heap.size ≤ b7 ∧ wr.heap.size ≤ b8 ∧ b7 ≠ b8) := by omega
                  have H78 := Lib.hid hx7
                  have n78 : b7 ≠ b8 := hx7.2.2
                  clear h7 h8 hx7 hS hM
                  have u0 := (cell_blk hB7 0).trans rfl; have u1 := (cell_blk hB7 1).trans rfl; have u2 := (cell_blk hB7 2).trans rfl; have u3 := (cell_blk hB7 3).trans rfl
                  have t0 := (cell_blk hB8 0).trans rfl; have t1 := (cell_blk hB8 1).trans rfl; have t2 := (cell_blk hB8 2).trans rfl; have t3 := (cell_blk hB8 3).trans rfl
                  have v0 := frz_blk hB7 0; have v1 := frz_blk hB7 1; have v2 := frz_blk hB7 2; have v3 := frz_blk hB7 3
                  have s0 := frz_blk hB8 0; have s1 := frz_blk hB8 1; have s2 := frz_blk hB8 2; have s3 := frz_blk hB8 3
                  refine wpAnyH_one 18 (by kernel_rfl) rfl ?_
                  intro K' hK'
                  go_simp
                  have hb3w : Below wr.heap.size wr ((((W2.setCell ⟨b7, 0, none⟩ (.bool x.neg)).setCell ⟨b7, 1, none⟩ (.string ⟨x.op.toArray⟩)).setCell ⟨b7, 2, none⟩ (.string ⟨x.atom.name.toArray⟩)).setCell ⟨b7, 3, none⟩ (.slice A5 n5 c5)) := (belowS (belowS (belowS (belowS hbw H78.out.1 0 _) H78.out.1 1 _) H78.out.1 2 _) H78.out.1 3 _)
                  refine hK'.out _ _ (by rw [HMM.out]; exact hb3w) ?_
                  clear hK' K'
                  have e7 : (World.heap ((((W2.setCell ⟨b7, 0, none⟩ (.bool x.neg)).setCell ⟨b7, 1, none⟩ (.string ⟨x.op.toArray⟩)).setCell ⟨b7, 2, none⟩ (.string ⟨x.atom.name.toArray⟩)).setCell ⟨b7, 3, none⟩ (.slice A5 n5 c5)))[b7]? = some (.cells #[.bool x.neg, .string ⟨x.op.toArray⟩, .string ⟨x.atom.name.toArray⟩, .slice A5 n5 c5] 54 (0, 0)) := by have := (Blk.set _ (Blk.set _ (Blk.set _ (Blk.set _ hB7 0 (.bool x.neg)) 1 (.string ⟨x.op.toArray⟩)) 2 (.string ⟨x.atom.name.toArray⟩)) 3 (.slice A5 n5 c5)); simpa using this
                  have e8 : (World.heap ((((W2.setCell ⟨b7, 0, none⟩ (.bool x.neg)).setCell ⟨b7, 1, none⟩ (.string ⟨x.op.toArray⟩)).setCell ⟨b7, 2, none⟩ (.string ⟨x.atom.name.toArray⟩)).setCell ⟨b7, 3, none⟩ (.slice A5 n5 c5)))[b8]? = some (.cells #[.bool false, .string ⟨#[]⟩, .string ⟨#[]⟩, .slice none 0 0] 54 (0, 0)) := (set_other _ _ _ _ _ (Ne.symm n78)).trans ((set_other _ _ _ _ _ (Ne.symm n78)).trans ((set_other _ _ _ _ _ (Ne.symm n78)).trans ((set_other _ _ _ _ _ (Ne.symm n78)).trans hB8)))
                  clear u0 u1 u2 u3 t0 t1 t2 t3 v0 v1 v2 v3 s0 s1 s2 s3 hB7 hB8
                  generalize ((((W2.setCell ⟨b7, 0, none⟩ (.bool x.neg)).setCell ⟨b7, 1, none⟩ (.string ⟨x.op.toArray⟩)).setCell ⟨b7, 2, none⟩ (.string ⟨x.atom.name.toArray⟩)).setCell ⟨b7, 3, none⟩ (.slice A5 n5 c5)) = W3 at *
                  have t0 := (cell_blk e8 0).trans rfl; have t1 := (cell_blk e8 1).trans rfl; have t2 := (cell_blk e8 2).trans rfl; have t3 := (cell_blk e8 3).trans rfl
                  have s0 := frz_blk e8 0; have s1 := frz_blk e8 1; have s2 := frz_blk e8 2; have s3 := frz_blk e8 3
                  refine wpAnyH_one 19 (by kernel_rfl) rfl ?_
                  intro K' hK'
                  go_simp
                  have hb4w : Below wr.heap.size wr ((((W3.setCell ⟨b8, 0, none⟩ (.bool y.neg)).setCell ⟨b8, 1, none⟩ (.string ⟨y.op.toArray⟩)).setCell ⟨b8, 2, none⟩ (.string ⟨y.atom.name.toArray⟩)).setCell ⟨b8, 3, none⟩ (.slice A6 n6 c6)) := (belowS (belowS (belowS (belowS hb3w H78.out.2.1 0 _) H78.out.2.1 1 _) H78.out.2.1 2 _) H78.out.2.1 3 _)
                  refine hK'.out _ _ (by rw [HMM.out]; exact hb4w) ?_
                  clear hK' K'
                  have f8 : (World.heap ((((W3.setCell ⟨b8, 0, none⟩ (.bool y.neg)).setCell ⟨b8, 1, none⟩ (.string ⟨y.op.toArray⟩)).setCell ⟨b8, 2, none⟩ (.string ⟨y.atom.name.toArray⟩)).setCell ⟨b8, 3, none⟩ (.slice A6 n6 c6)))[b8]? = some (.cells #[.bool y.neg, .string ⟨y.op.toArray⟩, .string ⟨y.atom.name.toArray⟩, .slice A6 n6 c6] 54 (0, 0)) := by have := (Blk.set _ (Blk.set _ (Blk.set _ (Blk.set _ e8 0 (.bool y.neg)) 1 (.string ⟨y.op.toArray⟩)) 2 (.string ⟨y.atom.name.toArray⟩)) 3 (.slice A6 n6 c6)); simpa using this
                  have f7 : (World.heap ((((W3.setCell ⟨b8, 0, none⟩ (.bool y.neg)).setCell ⟨b8, 1, none⟩ (.string ⟨y.op.toArray⟩)).setCell ⟨b8, 2, none⟩ (.string ⟨y.atom.name.toArray⟩)).setCell ⟨b8, 3, none⟩ (.slice A6 n6 c6)))[b7]? = some (.cells #[.bool x.neg, .string ⟨x.op.toArray⟩, .string ⟨x.atom.name.toArray⟩, .slice A5 n5 c5] 54 (0, 0)) := (set_other _ _ _ _ _ n78).trans ((set_other _ _ _ _ _ n78).trans ((set_other _ _ _ _ _ n78).trans ((set_other _ _ _ _ _ n78).trans e7)))
                  clear t0 t1 t2 t3 s0 s1 s2 s3 e7 e8 hb3w hbw
                  generalize ((((W3.setCell ⟨b8, 0, none⟩ (.bool y.neg)).setCell ⟨b8, 1, none⟩ (.string ⟨y.op.toArray⟩)).setCell ⟨b8, 2, none⟩ (.string ⟨y.atom.name.toArray⟩)).setCell ⟨b8, 3, none⟩ (.slice A6 n6 c6)) = W4 at *
                  refine wpAnyH_done (by kernel_rfl) ?_ _
                  have u0 := (cell_blk f7 0).trans rfl; have u1 := (cell_blk f7 1).trans rfl; have u2 := (cell_blk f7 2).trans rfl; have u3 := (cell_blk f7 3).trans rfl
                  have t0 := (cell_blk f8 0).trans rfl; have t1 := (cell_blk f8 1).trans rfl; have t2 := (cell_blk f8 2).trans rfl; have t3 := (cell_blk f8 3).trans rfl
                  have hsa := sameAtom_any x.atom y.atom A5 n5 c5 A6 n6 c6 W4 _ _ (HUS.out.below hb4w) (HTS.out.below hb4w)
                  have hcs : ((x.neg != y.neg) = true ∧ v = false) ∨ ((x.neg != y.neg) = false ∧ (x.op == y.op) = false ∧ v = false) ∨ ((x.neg != y.neg) = false ∧ (x.op == y.op) = true ∧ decide (x.atom = y.atom) = false ∧ v = false) ∨ ((x.neg != y.neg) = false ∧ (x.op == y.op) = true ∧ decide (x.atom = y.atom) = true ∧ v = (decide (body.drop (q + 1) = body'.drop (q + 1)) && decide (l.drop (k + 1) = r.drop (k + 1)))) := by
                    have hxy : (x = y) ↔ (x.neg = y.neg ∧ x.op = y.op ∧ x.atom = y.atom) := by
                      obtain ⟨a1, a2, a3⟩ := x
                      obtain ⟨b1, b2, b3⟩ := y
                      simp
                    rw [hfo]
                    simp only [List.cons.injEq, hxy]
                    by_cases q1 : x.neg = y.neg <;> by_cases q2 : x.op = y.op <;> by_cases q3 : x.atom = y.atom <;> simp [q1, q2, q3]
                  have HSA := Lib.hid hsa; have HCS := Lib.hid hcs; have HB4 := Lib.hid hb4w
                  clear hsa hcs hb4w hfo
                  rcases HCS.out with ⟨c1, c2⟩ | ⟨c0, c1, c2⟩ | ⟨c0, c1, c3, c2⟩ | ⟨c0, c1, c3, c2⟩
                  · have HV := Lib.hid c2; clear c2 HCS
                    have c1b : (x.neg == y.neg) = false := by simpa [bne] using c1
                    go_wp2_with fail
                    go_ret
                    exact ⟨ret_bool HV.out, HB.out.trans ((HBQ.out.trans (HB4.out.mono hwq)).mono HB.out.size)⟩
                  · have HV := Lib.hid c2; clear c2 HCS
                    have c0b : (x.neg == y.neg) = true := by simpa [bne] using c0
                    go_wp2_with fail
                    go_ret
                    exact ⟨ret_bool HV.out, HB.out.trans ((HBQ.out.trans (HB4.out.mono hwq)).mono HB.out.size)⟩
                  · have HV := Lib.hid c2; clear c2 HCS
                    have c0b : (x.neg == y.neg) = true := by simpa [bne] using c0
                    go_wp2_with fail
                    refine HSA.out.mono ?_
                    rintro e w7 ⟨rfl, hb7⟩
                    rw [c3]
                    go_wp2_with fail
                    go_ret
                    exact ⟨ret_bool HV.out, HB.out.trans ((HBQ.out.trans ((HB4.out.trans (hb7.mono HB4.out.size)).mono hwq)).mono HB.out.size)⟩
                  · have HV := Lib.hid c2; clear c2 HCS
                    have c0b : (x.neg == y.neg) = true := by simpa [bne] using c0
                    go_wp2_with fail
                    refine HSA.out.mono ?_
                    rintro e w7 ⟨rfl, hb7⟩
                    rw [c3]
                    go_wp2_with fail
                    go_roundw
                    case rel => exact ⟨q + 1, by omega, by go_num, HBQ.out.trans ((HB4.out.trans (hb7.mono HB4.out.size)).mono hwq), HV⟩
                    case measure => simp [intOf]; omega
              · have hfo := hfq.out
                rw [drop_end hltq, drop_end (show ¬ q < body'.length by omega)] at hfo
                have HF2 := Lib.hid (show v = decide (l.drop (k + 1) = r.drop (k + 1)) by rw [hfo]; simp)
                clear hfo hfq
                have hlq1 : ¬ (q : Int) < (body'.length : Int) := by omega
                have hlq2 : ¬ (q : Int) < (body.length : Int) := by omega
                go_wp2_with fail
                go_roundw
                case rel => exact ⟨k + 1, by omega, by go_num, HB.out.trans (hbq.mono HB.out.size), HF2⟩
                case measure => simp [intOf]; omega
          · have hblb : ((body.length : Int) == (body'.length : Int)) = false := by simpa using (show ¬ ((body.length : Int) = (body'.length : Int)) by omega)
            have HD := Lib.hid (show v = false by
              rw [hd, decide_eq_false_iff_not]
              intro e
              simp at e
              exact hbl (by rw [e.1.2])); have HSM := Lib.hid hsm
            clear hd hsm hs1 hs2 ht1 ht2 h1 h2 h3 g1 g2 g3 hX hf hb
            go_wp2_with fail
            refine wpH_region (fun z => Below wr.heap.size wr z) (by kernel_rfl) ?_
            have hS : Below wr.heap.size wr wr.drew := (Below.refl _ _).drew
            (refine wpAnyH_takeW 0 rfl rfl (by kernel_rfl) (by kernel_rfl) (by kernel_rfl) (fun _ _ _ h => h) (v := ?_) (by kernel_rfl) hS ?_ ?_; rotate_left; (focus (intro x hx; have fx := HX.out x hx; go_simp; (try with_reducible rfl); done)); (try simp only [Act.put, List.setIfInBounds_toArray, List.set_cons_zero, List.set_cons_succ]))
            (refine wpAnyH_takeW 1 rfl rfl (by kernel_rfl) (by kernel_rfl) (by kernel_rfl) (fun _ _ _ h => h) (v := ?_) (by kernel_rfl) hS ?_ ?_; rotate_left; (focus (intro x hx; have fx := HX.out x hx; go_simp; (try with_reducible rfl); done)); (try simp only [Act.put, List.setIfInBounds_toArray, List.set_cons_zero, List.set_cons_succ]))
            (refine wpAnyH_takeW 2 rfl rfl (by kernel_rfl) (by kernel_rfl) (by kernel_rfl) (fun _ _ _ h => h) (v := ?_) (by kernel_rfl) hS ?_ ?_; rotate_left; (focus (intro x hx; have fx := HX.out x hx; go_simp; (try with_reducible rfl); done)); (try simp only [Act.put, List.setIfInBounds_toArray, List.set_cons_zero, List.set_cons_succ]))
            (refine wpAnyH_takeW 3 rfl rfl (by kernel_rfl) (by kernel_rfl) (by kernel_rfl) (fun _ _ _ h => h) (v := ?_) (by kernel_rfl) hS ?_ ?_; rotate_left; (focus (intro x hx; have fx := HX.out x hx; go_simp; (try with_reducible rfl); done)); (try simp only [Act.put, List.setIfInBounds_toArray, List.set_cons_zero, List.set_cons_succ]))
            (refine wpAnyH_takeW 4 rfl rfl (by kernel_rfl) (by kernel_rfl) (by kernel_rfl) (fun _ _ _ h => h) (v := ?_) (by kernel_rfl) hS ?_ ?_; rotate_left; (focus (intro x hx; have fx := HX.out x hx; go_simp; (try with_reducible rfl); done)); (try simp only [Act.put, List.setIfInBounds_toArray, List.set_cons_zero, List.set_cons_succ]))
            (refine wpAnyH_takeW 5 rfl rfl (by kernel_rfl) (by kernel_rfl) (by kernel_rfl) (fun _ _ _ h => h) (v := ?_) (by kernel_rfl) hS ?_ ?_; rotate_left; (focus (intro x hx; have fx := HX.out x hx; go_simp; (try with_reducible rfl); done)); (try simp only [Act.put, List.setIfInBounds_toArray, List.set_cons_zero, List.set_cons_succ]))
            (refine wpAnyH_takeW 6 rfl rfl (by kernel_rfl) (by kernel_rfl) (by kernel_rfl) (fun _ _ _ h => h) (v := ?_) (by kernel_rfl) hS ?_ ?_; rotate_left; (focus (intro x hx; have fx := HX.out x hx; go_simp; (try with_reducible rfl); done)); (try simp only [Act.put, List.setIfInBounds_toArray, List.set_cons_zero, List.set_cons_succ]))
            (refine wpAnyH_takeW 7 rfl rfl (by kernel_rfl) (by kernel_rfl) (by kernel_rfl) (fun _ _ _ h => h) (v := ?_) (by kernel_rfl) hS ?_ ?_; rotate_left; (focus (intro x hx; have fx := HX.out x hx; go_simp; (try with_reducible rfl); done)); (try simp only [Act.put, List.setIfInBounds_toArray, List.set_cons_zero, List.set_cons_succ]))
            (refine wpAnyH_takeW 8 rfl rfl (by kernel_rfl) (by kernel_rfl) (by kernel_rfl) (fun _ _ _ h => h) (v := ?_) (by kernel_rfl) hS ?_ ?_; rotate_left; (focus (intro x hx; have fx := HX.out x hx; go_simp; (try with_reducible rfl); done)); (try simp only [Act.put, List.setIfInBounds_toArray, List.set_cons_zero, List.set_cons_succ]))
            (refine wpAnyH_takeW 9 rfl rfl (by kernel_rfl) (by kernel_rfl) (by kernel_rfl) (fun _ _ _ h => h) (v := ?_) (by kernel_rfl) hS ?_ ?_; rotate_left; (focus (intro x hx; have fx := HX.out x hx; go_simp; (try with_reducible rfl); done)); (try simp only [Act.put, List.setIfInBounds_toArray, List.set_cons_zero, List.set_cons_succ]))
            (refine wpAnyH_one 10 (by kernel_rfl) rfl ?_; intro K' hK'; go_simp; refine (HSM.out _ hS).mono ?_; rintro e w5 ⟨rfl, hb5⟩; have hS := hS.trans (hb5.mono hS.size); refine hK'.out _ _ hS ?_; clear hK' K')
            (refine wpAnyH_takeW 11 rfl rfl (by kernel_rfl) (by kernel_rfl) (by kernel_rfl) (fun _ _ _ h => h) (v := ?_) (by kernel_rfl) hS ?_ ?_; rotate_left; (focus (intro x hx; have fx := HX.out x hx; go_simp; (try with_reducible rfl); done)); (try simp only [Act.put, List.setIfInBounds_toArray, List.set_cons_zero, List.set_cons_succ]))
            (refine wpAnyH_takeW 12 rfl rfl (by kernel_rfl) (by kernel_rfl) (by kernel_rfl) (fun _ _ _ h => h) (v := ?_) (by kernel_rfl) hS ?_ ?_; rotate_left; (focus (intro x hx; have fx := HX.out x hx; go_simp; (try with_reducible rfl); done)); (try simp only [Act.put, List.setIfInBounds_toArray, List.set_cons_zero, List.set_cons_succ]))
            (refine wpAnyH_takeW 13 rfl rfl (by kernel_rfl) (by kernel_rfl) (by kernel_rfl) (fun _ _ _ h => h) (v := ?_) (by kernel_rfl) hS ?_ ?_; rotate_left; (focus (intro x hx; have fx := HX.out x hx; go_simp; (try with_reducible rfl); done)); (try simp only [Act.put, List.setIfInBounds_toArray, List.set_cons_zero, List.set_cons_succ]))
            (refine wpAnyH_takeW 14 rfl rfl (by kernel_rfl) (by kernel_rfl) (by kernel_rfl) (fun _ _ _ h => h) (v := ?_) (by kernel_rfl) hS ?_ ?_; rotate_left; (focus (intro x hx; have fx := HX.out x hx; go_simp; (try with_reducible rfl); done)); (try simp only [Act.put, List.setIfInBounds_toArray, List.set_cons_zero, List.set_cons_succ]))
            (refine wpAnyH_takeW 15 rfl rfl (by kernel_rfl) (by kernel_rfl) (by kernel_rfl) (fun _ _ _ h => h) (v := ?_) (by kernel_rfl) hS ?_ ?_; rotate_left; (focus (intro x hx; have fx := HX.out x hx; go_simp; (try with_reducible rfl); done)); (try simp only [Act.put, List.setIfInBounds_toArray, List.set_cons_zero, List.set_cons_succ]))
            (refine wpAnyH_takeW 16 rfl rfl (by kernel_rfl) (by kernel_rfl) (by kernel_rfl) (fun _ _ _ h => h) (v := ?_) (by kernel_rfl) hS ?_ ?_; rotate_left; (focus (intro x hx; have fx := HX.out x hx; go_simp; (try with_reducible rfl); done)); (try simp only [Act.put, List.setIfInBounds_toArray, List.set_cons_zero, List.set_cons_succ]))
            (refine wpAnyH_takeW 17 rfl rfl (by kernel_rfl) (by kernel_rfl) (by kernel_rfl) (fun _ _ _ h => h) (v := ?_) (by kernel_rfl) hS ?_ ?_; rotate_left; (focus (intro x hx; have fx := HX.out x hx; go_simp; (try with_reducible rfl); done)); (try simp only [Act.put, List.setIfInBounds_toArray, List.set_cons_zero, List.set_cons_succ]))
            (refine wpAnyH_takeW 18 rfl rfl (by kernel_rfl) (by kernel_rfl) (by kernel_rfl) (fun _ _ _ h => h) (v := ?_) (by kernel_rfl) hS ?_ ?_; rotate_left; (focus (intro x hx; have fx := HX.out x hx; go_simp; (try with_reducible rfl); done)); (try simp only [Act.put, List.setIfInBounds_toArray, List.set_cons_zero, List.set_cons_succ]))
            (refine wpAnyH_takeW 19 rfl rfl (by kernel_rfl) (by kernel_rfl) (by kernel_rfl) (fun _ _ _ h => h) (v := ?_) (by kernel_rfl) hS ?_ ?_; rotate_left; (focus (intro x hx; have fx := HX.out x hx; go_simp; (try with_reducible rfl); done)); (try simp only [Act.put, List.setIfInBounds_toArray, List.set_cons_zero, List.set_cons_succ]))
            (refine wpAnyH_takeW 20 rfl rfl (by kernel_rfl) (by kernel_rfl) (by kernel_rfl) (fun _ _ _ h => h) (v := ?_) (by kernel_rfl) hS ?_ ?_; rotate_left; (focus (intro x hx; have fx := HX.out x hx; go_simp; (try with_reducible rfl); done)); (try simp only [Act.put, List.setIfInBounds_toArray, List.set_cons_zero, List.set_cons_succ]))
            (refine wpAnyH_takeW 21 rfl rfl (by kernel_rfl) (by kernel_rfl) (by kernel_rfl) (fun _ _ _ h => h) (v := ?_) (by kernel_rfl) hS ?_ ?_; rotate_left; (focus (intro x hx; have fx := HX.out x hx; go_simp; (try with_reducible rfl); done)); (try simp only [Act.put, List.setIfInBounds_toArray, List.set_cons_zero, List.set_cons_succ]))
            (refine wpAnyH_takeW 22 rfl rfl (by kernel_rfl) (by kernel_rfl) (by kernel_rfl) (fun _ _ _ h => h) (v := ?_) (by kernel_rfl) hS ?_ ?_; rotate_left; (focus (intro x hx; have fx := HX.out x hx; go_simp; (try with_reducible rfl); done)); (try simp only [Act.put, List.setIfInBounds_toArray, List.set_cons_zero, List.set_cons_succ]))
            (refine wpAnyH_takeW 23 rfl rfl (by kernel_rfl) (by kernel_rfl) (by kernel_rfl) (fun _ _ _ h => h) (v := ?_) (by kernel_rfl) hS ?_ ?_; rotate_left; (focus (intro x hx; have fx := HX.out x hx; go_simp; (try with_reducible rfl); done)); (try simp only [Act.put, List.setIfInBounds_toArray, List.set_cons_zero, List.set_cons_succ]))
            (refine wpAnyH_takeW 24 rfl rfl (by kernel_rfl) (by kernel_rfl) (by kernel_rfl) (fun _ _ _ h => h) (v := ?_) (by kernel_rfl) hS ?_ ?_; rotate_left; (focus (intro x hx; have fx := HX.out x hx; go_simp; (try with_reducible rfl); done)); (try simp only [Act.put, List.setIfInBounds_toArray, List.set_cons_zero, List.set_cons_succ]))
            (refine wpAnyH_takeW 25 rfl rfl (by kernel_rfl) (by kernel_rfl) (by kernel_rfl) (fun _ _ _ h => h) (v := ?_) (by kernel_rfl) hS ?_ ?_; rotate_left; (focus (intro x hx; have fx := HX.out x hx; go_simp; (try with_reducible rfl); done)); (try simp only [Act.put, List.setIfInBounds_toArray, List.set_cons_zero, List.set_cons_succ]))
            (refine wpAnyH_takeW 26 rfl rfl (by kernel_rfl) (by kernel_rfl) (by kernel_rfl) (fun _ _ _ h => h) (v := ?_) (by kernel_rfl) hS ?_ ?_; rotate_left; (focus (intro x hx; have fx := HX.out x hx; go_simp; (try with_reducible rfl); done)); (try simp only [Act.put, List.setIfInBounds_toArray, List.set_cons_zero, List.set_cons_succ]))
            refine wpAnyH_done (by kernel_rfl) ?_ _
            go_wp2_with fail
            go_ret
            exact ⟨ret_bool HD.out, HB.out.trans (hS.mono HB.out.size)⟩
        · rw [decide_eq_false hh] at hsm
          have HD := Lib.hid (show v = false by
            rw [hd, decide_eq_false_iff_not]
            intro e
            simp at e
            exact hh (by simp [e.1.1])); have HSM := Lib.hid hsm
          clear hd hsm hs1 hs2 ht1 ht2 h1 h2 h3 g1 g2 g3 hX hf hb
          go_wp2_with fail
          refine wpH_region (fun z => Below wr.heap.size wr z) (by kernel_rfl) ?_
          have hS : Below wr.heap.size wr wr.drew := (Below.refl _ _).drew
          (refine wpAnyH_takeW 0 rfl rfl (by kernel_rfl) (by kernel_rfl) (by kernel_rfl) (fun _ _ _ h => h) (v := ?_) (by kernel_rfl) hS ?_ ?_; rotate_left; (focus (intro x hx; have fx := HX.out x hx; go_simp; (try with_reducible rfl); done)); (try simp only [Act.put, List.setIfInBounds_toArray, List.set_cons_zero, List.set_cons_succ]))
          (refine wpAnyH_takeW 1 rfl rfl (by kernel_rfl) (by kernel_rfl) (by kernel_rfl) (fun _ _ _ h => h) (v := ?_) (by kernel_rfl) hS ?_ ?_; rotate_left; (focus (intro x hx; have fx := HX.out x hx; go_simp; (try with_reducible rfl); done)); (try simp only [Act.put, List.setIfInBounds_toArray, List.set_cons_zero, List.set_cons_succ]))
          (refine wpAnyH_takeW 2 rfl rfl (by kernel_rfl) (by kernel_rfl) (by kernel_rfl) (fun _ _ _ h => h) (v := ?_) (by kernel_rfl) hS ?_ ?_; rotate_left; (focus (intro x hx; have fx := HX.out x hx; go_simp; (try with_reducible rfl); done)); (try simp only [Act.put, List.setIfInBounds_toArray, List.set_cons_zero, List.set_cons_succ]))
          (refine wpAnyH_takeW 3 rfl rfl (by kernel_rfl) (by kernel_rfl) (by kernel_rfl) (fun _ _ _ h => h) (v := ?_) (by kernel_rfl) hS ?_ ?_; rotate_left; (focus (intro x hx; have fx := HX.out x hx; go_simp; (try with_reducible rfl); done)); (try simp only [Act.put, List.setIfInBounds_toArray, List.set_cons_zero, List.set_cons_succ]))
          (refine wpAnyH_takeW 4 rfl rfl (by kernel_rfl) (by kernel_rfl) (by kernel_rfl) (fun _ _ _ h => h) (v := ?_) (by kernel_rfl) hS ?_ ?_; rotate_left; (focus (intro x hx; have fx := HX.out x hx; go_simp; (try with_reducible rfl); done)); (try simp only [Act.put, List.setIfInBounds_toArray, List.set_cons_zero, List.set_cons_succ]))
          (refine wpAnyH_takeW 5 rfl rfl (by kernel_rfl) (by kernel_rfl) (by kernel_rfl) (fun _ _ _ h => h) (v := ?_) (by kernel_rfl) hS ?_ ?_; rotate_left; (focus (intro x hx; have fx := HX.out x hx; go_simp; (try with_reducible rfl); done)); (try simp only [Act.put, List.setIfInBounds_toArray, List.set_cons_zero, List.set_cons_succ]))
          (refine wpAnyH_takeW 6 rfl rfl (by kernel_rfl) (by kernel_rfl) (by kernel_rfl) (fun _ _ _ h => h) (v := ?_) (by kernel_rfl) hS ?_ ?_; rotate_left; (focus (intro x hx; have fx := HX.out x hx; go_simp; (try with_reducible rfl); done)); (try simp only [Act.put, List.setIfInBounds_toArray, List.set_cons_zero, List.set_cons_succ]))
          (refine wpAnyH_takeW 7 rfl rfl (by kernel_rfl) (by kernel_rfl) (by kernel_rfl) (fun _ _ _ h => h) (v := ?_) (by kernel_rfl) hS ?_ ?_; rotate_left; (focus (intro x hx; have fx := HX.out x hx; go_simp; (try with_reducible rfl); done)); (try simp only [Act.put, List.setIfInBounds_toArray, List.set_cons_zero, List.set_cons_succ]))
          (refine wpAnyH_takeW 8 rfl rfl (by kernel_rfl) (by kernel_rfl) (by kernel_rfl) (fun _ _ _ h => h) (v := ?_) (by kernel_rfl) hS ?_ ?_; rotate_left; (focus (intro x hx; have fx := HX.out x hx; go_simp; (try with_reducible rfl); done)); (try simp only [Act.put, List.setIfInBounds_toArray, List.set_cons_zero, List.set_cons_succ]))
          (refine wpAnyH_takeW 9 rfl rfl (by kernel_rfl) (by kernel_rfl) (by kernel_rfl) (fun _ _ _ h => h) (v := ?_) (by kernel_rfl) hS ?_ ?_; rotate_left; (focus (intro x hx; have fx := HX.out x hx; go_simp; (try with_reducible rfl); done)); (try simp only [Act.put, List.setIfInBounds_toArray, List.set_cons_zero, List.set_cons_succ]))
          (refine wpAnyH_one 10 (by kernel_rfl) rfl ?_; intro K' hK'; go_simp; refine (HSM.out _ hS).mono ?_; rintro e w5 ⟨rfl, hb5⟩; have hS := hS.trans (hb5.mono hS.size); refine hK'.out _ _ hS ?_; clear hK' K')
          (refine wpAnyH_takeW 11 rfl rfl (by kernel_rfl) (by kernel_rfl) (by kernel_rfl) (fun _ _ _ h => h) (v := ?_) (by kernel_rfl) hS ?_ ?_; rotate_left; (focus (intro x hx; have fx := HX.out x hx; go_simp; (try with_reducible rfl); done)); (try simp only [Act.put, List.setIfInBounds_toArray, List.set_cons_zero, List.set_cons_succ]))
          (refine wpAnyH_takeW 12 rfl rfl (by kernel_rfl) (by kernel_rfl) (by kernel_rfl) (fun _ _ _ h => h) (v := ?_) (by kernel_rfl) hS ?_ ?_; rotate_left; (focus (intro x hx; have fx := HX.out x hx; go_simp; (try with_reducible rfl); done)); (try simp only [Act.put, List.setIfInBounds_toArray, List.set_cons_zero, List.set_cons_succ]))
          (refine wpAnyH_takeU 13 rfl rfl (by kernel_rfl) (by kernel_rfl) (by kernel_rfl) (fun _ _ _ h => h) (by kernel_rfl) hS ?_; (try simp only [Act.put, List.setIfInBounds_toArray, List.set_cons_zero, List.set_cons_succ]))
          (refine wpAnyH_takeU 14 rfl rfl (by kernel_rfl) (by kernel_rfl) (by kernel_rfl) (fun _ _ _ h => h) (by kernel_rfl) hS ?_; (try simp only [Act.put, List.setIfInBounds_toArray, List.set_cons_zero, List.set_cons_succ]))
          (refine wpAnyH_takeU 15 rfl rfl (by kernel_rfl) (by kernel_rfl) (by kernel_rfl) (fun _ _ _ h => h) (by kernel_rfl) hS ?_; (try simp only [Act.put, List.setIfInBounds_toArray, List.set_cons_zero, List.set_cons_succ]))
          (refine wpAnyH_takeU 16 rfl rfl (by kernel_rfl) (by kernel_rfl) (by kernel_rfl) (fun _ _ _ h => h) (by kernel_rfl) hS ?_; (try simp only [Act.put, List.setIfInBounds_toArray, List.set_cons_zero, List.set_cons_succ]))
          (refine wpAnyH_takeU 17 rfl rfl (by kernel_rfl) (by kernel_rfl) (by kernel_rfl) (fun _ _ _ h => h) (by kernel_rfl) hS ?_; (try simp only [Act.put, List.setIfInBounds_toArray, List.set_cons_zero, List.set_cons_succ]))
          (refine wpAnyH_takeU 18 rfl rfl (by kernel_rfl) (by kernel_rfl) (by kernel_rfl) (fun _ _ _ h => h) (by kernel_rfl) hS ?_; (try simp only [Act.put, List.setIfInBounds_toArray, List.set_cons_zero, List.set_cons_succ]))
          (refine wpAnyH_takeU 19 rfl rfl (by kernel_rfl) (by kernel_rfl) (by kernel_rfl) (fun _ _ _ h => h) (by kernel_rfl) hS ?_; (try simp only [Act.put, List.setIfInBounds_toArray, List.set_cons_zero, List.set_cons_succ]))
          (refine wpAnyH_takeU 20 rfl rfl (by kernel_rfl) (by kernel_rfl) (by kernel_rfl) (fun _ _ _ h => h) (by kernel_rfl) hS ?_; (try simp only [Act.put, List.setIfInBounds_toArray, List.set_cons_zero, List.set_cons_succ]))
          (refine wpAnyH_takeU 21 rfl rfl (by kernel_rfl) (by kernel_rfl) (by kernel_rfl) (fun _ _ _ h => h) (by kernel_rfl) hS ?_; (try simp only [Act.put, List.setIfInBounds_toArray, List.set_cons_zero, List.set_cons_succ]))
          (refine wpAnyH_takeU 22 rfl rfl (by kernel_rfl) (by kernel_rfl) (by kernel_rfl) (fun _ _ _ h => h) (by kernel_rfl) hS ?_; (try simp only [Act.put, List.setIfInBounds_toArray, List.set_cons_zero, List.set_cons_succ]))
          (refine wpAnyH_takeU 23 rfl rfl (by kernel_rfl) (by kernel_rfl) (by kernel_rfl) (fun _ _ _ h => h) (by kernel_rfl) hS ?_; (try simp only [Act.put, List.setIfInBounds_toArray, List.set_cons_zero, List.set_cons_succ]))
          (refine wpAnyH_takeU 24 rfl rfl (by kernel_rfl) (by kernel_rfl) (by kernel_rfl) (fun _ _ _ h => h) (by kernel_rfl) hS ?_; (try simp only [Act.put, List.setIfInBounds_toArray, List.set_cons_zero, List.set_cons_succ]))
          (refine wpAnyH_takeU 25 rfl rfl (by kernel_rfl) (by kernel_rfl) (by kernel_rfl) (fun _ _ _ h => h) (by kernel_rfl) hS ?_; (try simp only [Act.put, List.setIfInBounds_toArray, List.set_cons_zero, List.set_cons_succ]))
          (refine wpAnyH_takeW 26 rfl rfl (by kernel_rfl) (by kernel_rfl) (by kernel_rfl) (fun _ _ _ h => h) (v := ?_) (by kernel_rfl) hS ?_ ?_; rotate_left; (focus (intro x hx; have fx := HX.out x hx; go_simp; (try with_reducible rfl); done)); (try simp only [Act.put, List.setIfInBounds_toArray, List.set_cons_zero, List.set_cons_succ]))
          refine wpAnyH_done (by kernel_rfl) ?_ _
          go_wp2_with fail
          go_ret
          exact ⟨ret_bool HD.out, HB.out.trans (hS.mono HB.out.size)⟩
      · have hd := hf.out
        rw [drop_end hlt, drop_end (show ¬ k < r.length by have := HLEN.out; omega)] at hd
        have HD := Lib.hid (show v = true by rw [hd]; rfl); clear hd hf
        go_wp2_with fail
        go_ret
        exact ⟨ret_bool HD.out, hb⟩
  · have hlb : ((l.length : Int) == (r.length : Int)) = false := by simpa using (show ¬ ((l.length : Int) = (r.length : Int)) by omega)
    have HV := Lib.hid (show v = false by
      rw [hv, decide_eq_false_iff_not]
      intro e
      exact hlen (by rw [e]))
    clear hv hl hr
    go_enter Tryz.func15, Tryz.ntmps15
    go_wp2_with fail
    go_ret
    exact ⟨ret_bool HV.out, Below.refl _ _⟩
end Go.Proofs.YtjopmgoacncmgaaGreatDoor
