/- Rules, reference: Check, Strata. -/
import Derived.Test.YtjopmgoacncmgaaGreatDoorKW9
set_option linter.unusedVariables false
set_option linter.unusedSimpArgs false
namespace Go.Proofs.YtjopmgoacncmgaaGreatDoor
open Go.RowKit

theorem rarR_cons (seen : List Atm) (r : Rul) (t : List Rul) (i : Int) : rarR seen (r :: t) i = match rarA seen (atomsS r) with | none => some i | some s' => rarR s' t (i + 1) := rfl
set_option maxRecDepth 100000 in
set_option maxHeartbeats 4000000 in
theorem rcheck_any (A : Option Addr) (n c : Nat) (l : List Rul) (w : World) (S : Nat → Prop) (hl : Sl w S A n c l) (ho : ∀ r ∈ l, OkR r) :
    Calls Tryz.prog 21 #[.slice A n c] w fun e w' => e = .returned (.tuple #[.int .i64 (rcheckS l).1, .int .i64 (rcheckS l).2]) ∧ Below w.heap.size w w' := by
  obtain ⟨v, hv⟩ : ∃ v, v = rcheckS l := ⟨_, rfl⟩
  rw [← hv]
  unfold rcheckS at hv
  have hlen := hl.len
  subst hlen
  have hle := hl.le
  by_cases h64 : 64 < l.length
  · rw [if_pos h64] at hv
    subst hv
    have h64I : (64 : Int) < (l.length : Int) := by omega
    clear hl ho
    go_enter Tryz.func21, Tryz.ntmps21
    go_wp2_with fail
    go_ret2
    exact ⟨rfl, Below.refl _ _⟩
  · rw [if_neg h64] at hv
    have h64I : ¬ (64 : Int) < (l.length : Int) := by omega
    have Hf : Hid (firstBad l 0 = firstBad (l.drop 0) (0 : Nat)) := rfl
    have HV := Lib.hid hv; have HO := Lib.hid ho; have HL := Lib.hid (hl.wide (S' := fun b => b < w.heap.size) (fun k hk _ => hk) (by decide)); clear hv ho hl
    go_enter Tryz.func21, Tryz.ntmps21
    go_wp2_with fail
    go_loopw [4] (fun i wr => ∃ k : Nat, k ≤ l.length ∧ i = .int .i64 k ∧ Below w.heap.size w wr ∧ Hid (firstBad l 0 = firstBad (l.drop k) k)) (fun i _ => l.length - (intOf i).toNat)
    case atStart => exact ⟨0, by omega, rfl, Below.refl _ _, Hf⟩
    case round =>
      obtain ⟨k, hk, rfl, hb, hf⟩ := hrel
      have hwr := hb.size
      by_cases hlt : k < l.length
      · obtain ⟨b, o, rfl, -, hbs, A1, n1, c1, A2, n2, c2, h1, h2, h3, hs1, hs2⟩ := HL.out.rul hlt
        have hd := hf.out
        rw [drop_get hlt, firstBad] at hd
        have hok := HO.out _ (List.getElem_mem hlt)
        generalize l[k] = x at *
        have hfr := fun w' (hb : Below w.heap.size w w') => rrule_any x A1 n1 c1 A2 n2 c2 w' _ (hs1.below hb) (hs2.below hb) hok
        have hsf := fun w' (hb : Below w.heap.size w w') (hr : ruleS x = true) => rsafe_any x A1 n1 c1 A2 n2 c2 w' _ (hs1.below hb) (hs2.below hb) (by have := (rule_body hr).2; omega)
        have HX := Lib.hid (fun (z : World) (hz : Below w.heap.size w z) => And.intro (cell_later hz h1) (And.intro (cell_later hz h2) (cell_later hz h3)))
        obtain ⟨e1, e2, e3⟩ := HX.out _ hb
        cases hr : ruleS x
        · rw [hr, Bool.not_false, if_pos rfl] at hd
          simp only [hr] at hfr
          have HD := Lib.hid hd; have HFR := Lib.hid hfr; have HB := Lib.hid hb
          clear hd hfr hsf hs1 hs2 hf hok hb hr h1 h2 h3
          go_wp2_with fail
          refine (HFR.out _ HB.out).mono ?_
          rintro e w1 ⟨rfl, hb1⟩
          go_wp2_with fail
          go_ret2
          have hvv := HV.out
          rw [HD.out] at hvv
          exact ⟨(by rw [hvv]; rfl), HB.out.trans (hb1.mono hwr)⟩
        · rw [hr, Bool.not_true, if_neg (by simp)] at hd
          simp only [hr] at hfr
          have hsf := fun w' hb => hsf w' hb hr
          cases hs : safeS x
          · rw [hs, Bool.not_false, if_pos rfl] at hd
            simp only [hs] at hsf
            have HD := Lib.hid hd; have HFR := Lib.hid hfr; have HSF := Lib.hid hsf; have HB := Lib.hid hb
            clear hd hfr hsf hs1 hs2 hf hok hb hr hs h1 h2 h3
            go_wp2_with fail
            refine (HFR.out _ HB.out).mono ?_
            rintro e w1 ⟨rfl, hb1⟩
            have hb2 := HB.out.trans (hb1.mono hwr)
            obtain ⟨e1, e2, e3⟩ := HX.out _ hb2
            go_wp2_with fail
            refine (HSF.out _ hb2).mono ?_
            rintro e w2 ⟨rfl, hb3⟩
            go_wp2_with fail
            go_ret2
            have hvv := HV.out
            rw [HD.out] at hvv
            exact ⟨(by rw [hvv]; rfl), hb2.trans (hb3.mono hb2.size)⟩
          · rw [hs, Bool.not_true, if_neg (by simp)] at hd
            simp only [hs] at hsf
            have HD := Lib.hid hd; have HFR := Lib.hid hfr; have HSF := Lib.hid hsf; have HB := Lib.hid hb
            clear hd hfr hsf hs1 hs2 hf hok hb hr hs h1 h2 h3
            go_wp2_with fail
            refine (HFR.out _ HB.out).mono ?_
            rintro e w1 ⟨rfl, hb1⟩
            have hb2 := HB.out.trans (hb1.mono hwr)
            obtain ⟨e1, e2, e3⟩ := HX.out _ hb2
            go_wp2_with fail
            refine (HSF.out _ hb2).mono ?_
            rintro e w2 ⟨rfl, hb3⟩
            go_wp2_with fail
            go_roundw
            case rel => exact ⟨k + 1, by omega, by go_num, hb2.trans (hb3.mono hb2.size), HD⟩
            case measure => simp [intOf]; omega
      · have hd := hf.out
        rw [drop_end hlt] at hd
        have hd : firstBad l 0 = none := hd
        have hall := firstBad_none l 0 hd
        have hvv := HV.out
        rw [hd] at hvv
        have HV2 := Lib.hid hvv; have HALL := Lib.hid hall; have HB0 := Lib.hid hb
        have Hg : Hid (rarR [] l 0 = rarR [] (l.drop 0) (0 : Nat)) := rfl
        clear hd hvv hall hf HV hb
        go_wp2_with fail
        go_loopw [5, 6] (fun sv i wx => ∃ k : Nat, k ≤ l.length ∧ i = .int .i64 k ∧ ∃ (seen : List Atm) (B : Option Addr) (d : Nat), sv = .slice B seen.length d ∧ Own wx (fun _ => True) w.heap.size 45 B d seen ∧ seen.length ≤ 5 * k ∧ Below w.heap.size w wx ∧ Hid (rarR [] l 0 = rarR seen (l.drop k) k)) (fun _ i _ => l.length - (intOf i).toNat)
        case atStart => exact ⟨0, by omega, rfl, [], none, 0, rfl, Own.nil _ _ _ _, by simp, HB0.out, Hg⟩
        case round =>
          obtain ⟨j, hj, rfl, seen, B, d, rfl, hown, hsl, hbx, hg⟩ := hrel
          have hwx := hbx.size
          by_cases hlt2 : j < l.length
          · obtain ⟨b, o, rfl, -, hbs, A1, n1, c1, A2, n2, c2, h1, h2, h3, hs1, hs2⟩ := (HL.out.below hbx).rul hlt2
            have hd := hg.out
            rw [drop_get hlt2, rarR_cons] at hd
            have hrb := (rule_body (HALL.out _ (List.getElem_mem hlt2))).1
            generalize l[j] = x at *
            have hat := ratoms_any x A1 n1 c1 A2 n2 c2 wr _ hs1 hs2 (by omega)
            have hal := atoms_len x
            generalize atomsS x = aa at *
            have HD := Lib.hid hd; have HAT := Lib.hid hat; have HOWN := Lib.hid hown
            clear hd hat hs1 hs2 hg hown
            go_wp2_with fail
            refine HAT.out.mono ?_
            rintro e w1 ⟨A3, c3, rfl, hs3, hb3⟩
            have hb30 : Below w.heap.size w w1 := hbx.trans (hb3.mono hwx)
            have hsz3 := hb3.size
            have HB30 := Lib.hid hb30
            have HS3 := Lib.hid (hs3.wide (S' := fun b => b < w1.heap.size ∧ (b < w.heap.size ∨ wr.heap.size ≤ b)) (fun k hk hs => ⟨hk, hs⟩) (by decide)); have HOW1 := Lib.hid (HOWN.out.below hb3)
            have hq0 : ∀ q, B.map Addr.block = some q → w.heap.size ≤ q ∧ (q < wr.heap.size ∨ w1.heap.size ≤ q) := fun q hq => ⟨(HOWN.out.lt q hq).1, .inl (HOWN.out.lt q hq).2⟩
            have Hk : Hid (rarA seen aa = rarA seen (aa.drop 0)) := rfl
            clear hb30 hb3 hs3
            obtain ⟨wo, rfl⟩ : ∃ wo, wo = wr := ⟨_, rfl⟩
            have haale := HS3.out.le
            go_wp2_with fail
            go_loopw [5, 8] (fun sv i wy => ∃ q : Nat, q ≤ aa.length ∧ i = .int .i64 q ∧ ∃ (sn : List Atm) (B : Option Addr) (d : Nat), sv = .slice B sn.length d ∧ Own wy (fun _ => True) w.heap.size 45 B d sn ∧ (∀ q, B.map Addr.block = some q → w.heap.size ≤ q ∧ (q < wo.heap.size ∨ w1.heap.size ≤ q)) ∧ sn.length ≤ seen.length + q ∧ Below w.heap.size w wy ∧ w1.heap.size ≤ wy.heap.size ∧ (∀ z, z < w1.heap.size → wo.heap.size ≤ z → wy.heap[z]? = w1.heap[z]?) ∧ Hid (rarA seen aa = rarA sn (aa.drop q))) (fun _ i _ => aa.length - (intOf i).toNat)
            case atStart => exact ⟨0, by omega, rfl, seen, B, d, rfl, HOW1.out, hq0, by omega, HB30.out, Nat.le_refl _, fun _ _ _ => rfl, Hk⟩
            case round =>
              obtain ⟨q, hq, rfl, sn, B2, d2, rfl, hown, hqb, hsl2, hby, hszy, hkp, hgo⟩ := hrel
              have hwy := hby.size
              by_cases hlt3 : q < aa.length
              · have hs3y : Sl wr (fun b => b < w1.heap.size ∧ (b < w.heap.size ∨ wo.heap.size ≤ b)) A3 aa.length c3 aa := HS3.out.keep (fun z hz hs => by
                  rcases hs.2 with h | h
                  · rw [hby.block z h, HB30.out.block z h]
                  · exact hkp z hs.1 h)
                obtain ⟨b2, o2, rfl, -, hbs2, A5, n5, c5, k1, k2, k3⟩ := hs3y.atm hlt3
                have hd3 := hgo.out
                rw [drop_get hlt3, rarA] at hd3
                generalize aa[q] = y at *
                have hn5 := k3.len
                have hle5 := k3.le
                obtain ⟨ynm, yargs⟩ := y
                simp only at k1 k2 k3 hd3 hn5
                subst hn5
                have hsl3 := hown.sl (by decide)
                have hlesn := hsl3.le
                obtain ⟨SB, hSB⟩ : ∃ SB, SB = seenBad sn ⟨ynm, yargs⟩ := ⟨_, rfl⟩
                rw [← hSB] at hd3
                have HSB : Hid (SB = (sn.drop 0).any fun b => b.name == ynm && b.args.length != yargs.length) := hSB
                have HD3 := Lib.hid hd3; have HOW := Lib.hid hown; have HBY := Lib.hid hby; have HQB := Lib.hid hqb; have HKP := Lib.hid hkp; have HK3 := Lib.hid k3; have HSN := Lib.hid hsl3
                clear hd3 hgo hSB hown hby hqb hkp k3 hsl3 hs3y
                have kq0 : (0 : Int) ≤ (q : Int) := by omega
                have kq1 : (q : Int) < (aa.length : Int) := by omega
                go_wp2_with fail
                obtain ⟨wz, rfl⟩ : ∃ wz, wz = wr := ⟨_, rfl⟩
                have HKY := Lib.hid (fun (z : World) (hz : Below wz.heap.size wz z) => And.intro (cell_later hz k1) (cell_later hz k2))
                go_loopw [9] (fun i wv => ∃ z : Nat, z ≤ sn.length ∧ i = .int .i64 z ∧ Below wz.heap.size wz wv ∧ wv.heap.size = wz.heap.size ∧ Hid (SB = (sn.drop z).any fun b => b.name == ynm && b.args.length != yargs.length)) (fun i _ => sn.length - (intOf i).toNat)
                case atStart => exact ⟨0, by omega, rfl, Below.refl _ _, rfl, HSB⟩
                case round =>
                  obtain ⟨z, hz, rfl, hbv, hszv, hsb⟩ := hrel
                  by_cases hltz : z < sn.length
                  · obtain ⟨b6, o6, rfl, -, hbs6, A7, n7, c7, m1, m2, m3⟩ := (HSN.out.below hbv).atm hltz
                    have hd4 := hsb.out
                    rw [drop_get hltz, List.any_cons] at hd4
                    generalize sn[z] = t at *
                    have hn7 := m3.len
                    have hle7 := m3.le
                    obtain ⟨tnm, targs⟩ := t
                    simp only at m1 m2 m3 hd4 hn7
                    subst hn7
                    have HX := Lib.hid (fun (x : World) (hx : Below wr.heap.size wr x) => And.intro (cell_later hx m1) (And.intro (cell_later hx m2) (HKY.out _ (hbv.trans (hx.mono hbv.size)))))
                    have kz0 : (0 : Int) ≤ (z : Int) := by omega
                    have kz1 : (z : Int) < (sn.length : Int) := by omega
                    have HBV := Lib.hid hbv
                    have hcs : ((tnm == ynm) = true ∧ ((targs.length : Int) == (yargs.length : Int)) = false ∧ SB = true) ∨ ((tnm == ynm) = true ∧ ((targs.length : Int) == (yargs.length : Int)) = true ∧ SB = (sn.drop (z + 1)).any fun b => b.name == ynm && b.args.length != yargs.length) ∨ ((tnm == ynm) = false ∧ SB = (sn.drop (z + 1)).any fun b => b.name == ynm && b.args.length != yargs.length) := by
                      have hll : ((targs.length : Int) == (yargs.length : Int)) = (targs.length == yargs.length) := by rw [Bool.eq_iff_iff]; simp; omega
                      rw [hll]
                      cases hq1 : (tnm == ynm) with
                      | false => right; right; refine ⟨rfl, ?_⟩; rw [hd4, hq1]; rfl
                      | true =>
                        cases hq2 : (targs.length == yargs.length) with
                        | false => left; refine ⟨rfl, rfl, ?_⟩; rw [hd4, hq1]; simp [bne, hq2]
                        | true => right; left; refine ⟨rfl, rfl, ?_⟩; rw [hd4, hq1]; simp [bne, hq2]
                    have HCS := Lib.hid hcs
                    clear hd4 hsb m1 m2 m3 hcs hbv k1 k2
                    rcases HCS.out with ⟨q1, q2, q3⟩ | ⟨q1, q2, q3⟩ | ⟨q1, q3⟩
                    · have HQ := Lib.hid q3; clear q3 HCS
                      go_wp2_with fail
                      refine wpH_region (fun x => Below wr.heap.size wr x) (by kernel_rfl) ?_
                      have hS : Below wr.heap.size wr wr.drew := (Below.refl _ _).drew
                      (refine wpAnyH_takeW 0 rfl rfl (by kernel_rfl) (by kernel_rfl) (by kernel_rfl) (fun _ _ _ h => h) (v := ?_) (by kernel_rfl) hS ?_ ?_; rotate_left; (focus (intro x hx; have fx := HX.out x hx; go_simp; (try with_reducible rfl); done)); (try simp only [Act.put, List.setIfInBounds_toArray, List.set_cons_zero, List.set_cons_succ]))
                      (refine wpAnyH_takeW 1 rfl rfl (by kernel_rfl) (by kernel_rfl) (by kernel_rfl) (fun _ _ _ h => h) (v := ?_) (by kernel_rfl) hS ?_ ?_; rotate_left; (focus (intro x hx; have fx := HX.out x hx; go_simp; (try with_reducible rfl); done)); (try simp only [Act.put, List.setIfInBounds_toArray, List.set_cons_zero, List.set_cons_succ]))
                      (refine wpAnyH_takeW 2 rfl rfl (by kernel_rfl) (by kernel_rfl) (by kernel_rfl) (fun _ _ _ h => h) (v := ?_) (by kernel_rfl) hS ?_ ?_; rotate_left; (focus (intro x hx; have fx := HX.out x hx; go_simp; (try with_reducible rfl); done)); (try simp only [Act.put, List.setIfInBounds_toArray, List.set_cons_zero, List.set_cons_succ]))
                      (refine wpAnyH_takeW 3 rfl rfl (by kernel_rfl) (by kernel_rfl) (by kernel_rfl) (fun _ _ _ h => h) (v := ?_) (by kernel_rfl) hS ?_ ?_; rotate_left; (focus (intro x hx; have fx := HX.out x hx; go_simp; (try with_reducible rfl); done)); (try simp only [Act.put, List.setIfInBounds_toArray, List.set_cons_zero, List.set_cons_succ]))
                      (refine wpAnyH_takeW 4 rfl rfl (by kernel_rfl) (by kernel_rfl) (by kernel_rfl) (fun _ _ _ h => h) (v := ?_) (by kernel_rfl) hS ?_ ?_; rotate_left; (focus (intro x hx; have fx := HX.out x hx; go_simp; (try with_reducible rfl); done)); (try simp only [Act.put, List.setIfInBounds_toArray, List.set_cons_zero, List.set_cons_succ]))
                      (refine wpAnyH_takeW 5 rfl rfl (by kernel_rfl) (by kernel_rfl) (by kernel_rfl) (fun _ _ _ h => h) (v := ?_) (by kernel_rfl) hS ?_ ?_; rotate_left; (focus (intro x hx; have fx := HX.out x hx; go_simp; (try with_reducible rfl); done)); (try simp only [Act.put, List.setIfInBounds_toArray, List.set_cons_zero, List.set_cons_succ]))
                      (refine wpAnyH_takeW 6 rfl rfl (by kernel_rfl) (by kernel_rfl) (by kernel_rfl) (fun _ _ _ h => h) (v := ?_) (by kernel_rfl) hS ?_ ?_; rotate_left; (focus (intro x hx; have fx := HX.out x hx; go_simp; (try with_reducible rfl); done)); (try simp only [Act.put, List.setIfInBounds_toArray, List.set_cons_zero, List.set_cons_succ]))
                      (refine wpAnyH_takeW 7 rfl rfl (by kernel_rfl) (by kernel_rfl) (by kernel_rfl) (fun _ _ _ h => h) (v := ?_) (by kernel_rfl) hS ?_ ?_; rotate_left; (focus (intro x hx; have fx := HX.out x hx; go_simp; (try with_reducible rfl); done)); (try simp only [Act.put, List.setIfInBounds_toArray, List.set_cons_zero, List.set_cons_succ]))
                      (refine wpAnyH_takeW 8 rfl rfl (by kernel_rfl) (by kernel_rfl) (by kernel_rfl) (fun _ _ _ h => h) (v := ?_) (by kernel_rfl) hS ?_ ?_; rotate_left; (focus (intro x hx; have fx := HX.out x hx; go_simp; (try with_reducible rfl); done)); (try simp only [Act.put, List.setIfInBounds_toArray, List.set_cons_zero, List.set_cons_succ]))
                      (refine wpAnyH_takeW 9 rfl rfl (by kernel_rfl) (by kernel_rfl) (by kernel_rfl) (fun _ _ _ h => h) (v := ?_) (by kernel_rfl) hS ?_ ?_; rotate_left; (focus (intro x hx; have fx := HX.out x hx; go_simp; (try with_reducible rfl); done)); (try simp only [Act.put, List.setIfInBounds_toArray, List.set_cons_zero, List.set_cons_succ]))
                      (refine wpAnyH_takeW 10 rfl rfl (by kernel_rfl) (by kernel_rfl) (by kernel_rfl) (fun _ _ _ h => h) (v := ?_) (by kernel_rfl) hS ?_ ?_; rotate_left; (focus (intro x hx; have fx := HX.out x hx; go_simp; (try with_reducible rfl); done)); (try simp only [Act.put, List.setIfInBounds_toArray, List.set_cons_zero, List.set_cons_succ]))
                      (refine wpAnyH_takeW 11 rfl rfl (by kernel_rfl) (by kernel_rfl) (by kernel_rfl) (fun _ _ _ h => h) (v := ?_) (by kernel_rfl) hS ?_ ?_; rotate_left; (focus (intro x hx; have fx := HX.out x hx; go_simp; (try with_reducible rfl); done)); (try simp only [Act.put, List.setIfInBounds_toArray, List.set_cons_zero, List.set_cons_succ]))
                      (refine wpAnyH_takeW 12 rfl rfl (by kernel_rfl) (by kernel_rfl) (by kernel_rfl) (fun _ _ _ h => h) (v := ?_) (by kernel_rfl) hS ?_ ?_; rotate_left; (focus (intro x hx; have fx := HX.out x hx; go_simp; (try with_reducible rfl); done)); (try simp only [Act.put, List.setIfInBounds_toArray, List.set_cons_zero, List.set_cons_succ]))
                      (refine wpAnyH_takeW 13 rfl rfl (by kernel_rfl) (by kernel_rfl) (by kernel_rfl) (fun _ _ _ h => h) (v := ?_) (by kernel_rfl) hS ?_ ?_; rotate_left; (focus (intro x hx; have fx := HX.out x hx; go_simp; (try with_reducible rfl); done)); (try simp only [Act.put, List.setIfInBounds_toArray, List.set_cons_zero, List.set_cons_succ]))
                      (refine wpAnyH_takeW 14 rfl rfl (by kernel_rfl) (by kernel_rfl) (by kernel_rfl) (fun _ _ _ h => h) (v := ?_) (by kernel_rfl) hS ?_ ?_; rotate_left; (focus (intro x hx; have fx := HX.out x hx; go_simp; (try with_reducible rfl); done)); (try simp only [Act.put, List.setIfInBounds_toArray, List.set_cons_zero, List.set_cons_succ]))
                      (refine wpAnyH_takeW 15 rfl rfl (by kernel_rfl) (by kernel_rfl) (by kernel_rfl) (fun _ _ _ h => h) (v := ?_) (by kernel_rfl) hS ?_ ?_; rotate_left; (focus (intro x hx; have fx := HX.out x hx; go_simp; (try with_reducible rfl); done)); (try simp only [Act.put, List.setIfInBounds_toArray, List.set_cons_zero, List.set_cons_succ]))
                      (refine wpAnyH_takeW 16 rfl rfl (by kernel_rfl) (by kernel_rfl) (by kernel_rfl) (fun _ _ _ h => h) (v := ?_) (by kernel_rfl) hS ?_ ?_; rotate_left; (focus (intro x hx; have fx := HX.out x hx; go_simp; (try with_reducible rfl); done)); (try simp only [Act.put, List.setIfInBounds_toArray, List.set_cons_zero, List.set_cons_succ]))
                      (refine wpAnyH_takeW 17 rfl rfl (by kernel_rfl) (by kernel_rfl) (by kernel_rfl) (fun _ _ _ h => h) (v := ?_) (by kernel_rfl) hS ?_ ?_; rotate_left; (focus (intro x hx; have fx := HX.out x hx; go_simp; (try with_reducible rfl); done)); (try simp only [Act.put, List.setIfInBounds_toArray, List.set_cons_zero, List.set_cons_succ]))
                      (refine wpAnyH_takeW 18 rfl rfl (by kernel_rfl) (by kernel_rfl) (by kernel_rfl) (fun _ _ _ h => h) (v := ?_) (by kernel_rfl) hS ?_ ?_; rotate_left; (focus (intro x hx; have fx := HX.out x hx; go_simp; (try with_reducible rfl); done)); (try simp only [Act.put, List.setIfInBounds_toArray, List.set_cons_zero, List.set_cons_succ]))
                      (refine wpAnyH_takeW 19 rfl rfl (by kernel_rfl) (by kernel_rfl) (by kernel_rfl) (fun _ _ _ h => h) (v := ?_) (by kernel_rfl) hS ?_ ?_; rotate_left; (focus (intro x hx; have fx := HX.out x hx; go_simp; (try with_reducible rfl); done)); (try simp only [Act.put, List.setIfInBounds_toArray, List.set_cons_zero, List.set_cons_succ]))
                      (refine wpAnyH_takeW 20 rfl rfl (by kernel_rfl) (by kernel_rfl) (by kernel_rfl) (fun _ _ _ h => h) (v := ?_) (by kernel_rfl) hS ?_ ?_; rotate_left; (focus (intro x hx; have fx := HX.out x hx; go_simp; (try with_reducible rfl); done)); (try simp only [Act.put, List.setIfInBounds_toArray, List.set_cons_zero, List.set_cons_succ]))
                      (refine wpAnyH_takeW 21 rfl rfl (by kernel_rfl) (by kernel_rfl) (by kernel_rfl) (fun _ _ _ h => h) (v := ?_) (by kernel_rfl) hS ?_ ?_; rotate_left; (focus (intro x hx; have fx := HX.out x hx; go_simp; (try with_reducible rfl); done)); (try simp only [Act.put, List.setIfInBounds_toArray, List.set_cons_zero, List.set_cons_succ]))
                      (refine wpAnyH_takeW 22 rfl rfl (by kernel_rfl) (by kernel_rfl) (by kernel_rfl) (fun _ _ _ h => h) (v := ?_) (by kernel_rfl) hS ?_ ?_; rotate_left; (focus (intro x hx; have fx := HX.out x hx; go_simp; (try with_reducible rfl); done)); (try simp only [Act.put, List.setIfInBounds_toArray, List.set_cons_zero, List.set_cons_succ]))
                      (refine wpAnyH_takeW 23 rfl rfl (by kernel_rfl) (by kernel_rfl) (by kernel_rfl) (fun _ _ _ h => h) (v := ?_) (by kernel_rfl) hS ?_ ?_; rotate_left; (focus (intro x hx; have fx := HX.out x hx; go_simp; (try with_reducible rfl); done)); (try simp only [Act.put, List.setIfInBounds_toArray, List.set_cons_zero, List.set_cons_succ]))
                      (refine wpAnyH_takeW 24 rfl rfl (by kernel_rfl) (by kernel_rfl) (by kernel_rfl) (fun _ _ _ h => h) (v := ?_) (by kernel_rfl) hS ?_ ?_; rotate_left; (focus (intro x hx; have fx := HX.out x hx; go_simp; (try with_reducible rfl); done)); (try simp only [Act.put, List.setIfInBounds_toArray, List.set_cons_zero, List.set_cons_succ]))
                      (refine wpAnyH_takeW 25 rfl rfl (by kernel_rfl) (by kernel_rfl) (by kernel_rfl) (fun _ _ _ h => h) (v := ?_) (by kernel_rfl) hS ?_ ?_; rotate_left; (focus (intro x hx; have fx := HX.out x hx; go_simp; (try with_reducible rfl); done)); (try simp only [Act.put, List.setIfInBounds_toArray, List.set_cons_zero, List.set_cons_succ]))
                      refine wpAnyH_done (by kernel_rfl) ?_ _
                      have hd5 := HD3.out
                      rw [HQ.out, if_pos rfl] at hd5
                      have hdd := HD.out
                      rw [hd5] at hdd
                      have hdd : rarR [] l 0 = some (j : Int) := hdd
                      have hvv := HV2.out
                      rw [hdd] at hvv
                      have HVV := Lib.hid hvv
                      clear hd5 hdd hvv
                      go_wp2_with fail
                      go_ret2
                      exact ⟨(by rw [HVV.out]; rfl), HBY.out.trans (hS.mono (by omega) |> fun h => (HBV.out.mono hwy).trans h)⟩
                    · have HQ := Lib.hid q3; clear q3 HCS
                      go_wp2_with fail
                      refine wpH_region (fun x => Below wr.heap.size wr x) (by kernel_rfl) ?_
                      have hS : Below wr.heap.size wr wr.drew := (Below.refl _ _).drew
                      (refine wpAnyH_takeW 0 rfl rfl (by kernel_rfl) (by kernel_rfl) (by kernel_rfl) (fun _ _ _ h => h) (v := ?_) (by kernel_rfl) hS ?_ ?_; rotate_left; (focus (intro x hx; have fx := HX.out x hx; go_simp; (try with_reducible rfl); done)); (try simp only [Act.put, List.setIfInBounds_toArray, List.set_cons_zero, List.set_cons_succ]))
                      (refine wpAnyH_takeW 1 rfl rfl (by kernel_rfl) (by kernel_rfl) (by kernel_rfl) (fun _ _ _ h => h) (v := ?_) (by kernel_rfl) hS ?_ ?_; rotate_left; (focus (intro x hx; have fx := HX.out x hx; go_simp; (try with_reducible rfl); done)); (try simp only [Act.put, List.setIfInBounds_toArray, List.set_cons_zero, List.set_cons_succ]))
                      (refine wpAnyH_takeW 2 rfl rfl (by kernel_rfl) (by kernel_rfl) (by kernel_rfl) (fun _ _ _ h => h) (v := ?_) (by kernel_rfl) hS ?_ ?_; rotate_left; (focus (intro x hx; have fx := HX.out x hx; go_simp; (try with_reducible rfl); done)); (try simp only [Act.put, List.setIfInBounds_toArray, List.set_cons_zero, List.set_cons_succ]))
                      (refine wpAnyH_takeW 3 rfl rfl (by kernel_rfl) (by kernel_rfl) (by kernel_rfl) (fun _ _ _ h => h) (v := ?_) (by kernel_rfl) hS ?_ ?_; rotate_left; (focus (intro x hx; have fx := HX.out x hx; go_simp; (try with_reducible rfl); done)); (try simp only [Act.put, List.setIfInBounds_toArray, List.set_cons_zero, List.set_cons_succ]))
                      (refine wpAnyH_takeW 4 rfl rfl (by kernel_rfl) (by kernel_rfl) (by kernel_rfl) (fun _ _ _ h => h) (v := ?_) (by kernel_rfl) hS ?_ ?_; rotate_left; (focus (intro x hx; have fx := HX.out x hx; go_simp; (try with_reducible rfl); done)); (try simp only [Act.put, List.setIfInBounds_toArray, List.set_cons_zero, List.set_cons_succ]))
                      (refine wpAnyH_takeW 5 rfl rfl (by kernel_rfl) (by kernel_rfl) (by kernel_rfl) (fun _ _ _ h => h) (v := ?_) (by kernel_rfl) hS ?_ ?_; rotate_left; (focus (intro x hx; have fx := HX.out x hx; go_simp; (try with_reducible rfl); done)); (try simp only [Act.put, List.setIfInBounds_toArray, List.set_cons_zero, List.set_cons_succ]))
                      (refine wpAnyH_takeW 6 rfl rfl (by kernel_rfl) (by kernel_rfl) (by kernel_rfl) (fun _ _ _ h => h) (v := ?_) (by kernel_rfl) hS ?_ ?_; rotate_left; (focus (intro x hx; have fx := HX.out x hx; go_simp; (try with_reducible rfl); done)); (try simp only [Act.put, List.setIfInBounds_toArray, List.set_cons_zero, List.set_cons_succ]))
                      (refine wpAnyH_takeW 7 rfl rfl (by kernel_rfl) (by kernel_rfl) (by kernel_rfl) (fun _ _ _ h => h) (v := ?_) (by kernel_rfl) hS ?_ ?_; rotate_left; (focus (intro x hx; have fx := HX.out x hx; go_simp; (try with_reducible rfl); done)); (try simp only [Act.put, List.setIfInBounds_toArray, List.set_cons_zero, List.set_cons_succ]))
                      (refine wpAnyH_takeW 8 rfl rfl (by kernel_rfl) (by kernel_rfl) (by kernel_rfl) (fun _ _ _ h => h) (v := ?_) (by kernel_rfl) hS ?_ ?_; rotate_left; (focus (intro x hx; have fx := HX.out x hx; go_simp; (try with_reducible rfl); done)); (try simp only [Act.put, List.setIfInBounds_toArray, List.set_cons_zero, List.set_cons_succ]))
                      (refine wpAnyH_takeW 9 rfl rfl (by kernel_rfl) (by kernel_rfl) (by kernel_rfl) (fun _ _ _ h => h) (v := ?_) (by kernel_rfl) hS ?_ ?_; rotate_left; (focus (intro x hx; have fx := HX.out x hx; go_simp; (try with_reducible rfl); done)); (try simp only [Act.put, List.setIfInBounds_toArray, List.set_cons_zero, List.set_cons_succ]))
                      (refine wpAnyH_takeW 10 rfl rfl (by kernel_rfl) (by kernel_rfl) (by kernel_rfl) (fun _ _ _ h => h) (v := ?_) (by kernel_rfl) hS ?_ ?_; rotate_left; (focus (intro x hx; have fx := HX.out x hx; go_simp; (try with_reducible rfl); done)); (try simp only [Act.put, List.setIfInBounds_toArray, List.set_cons_zero, List.set_cons_succ]))
                      (refine wpAnyH_takeW 11 rfl rfl (by kernel_rfl) (by kernel_rfl) (by kernel_rfl) (fun _ _ _ h => h) (v := ?_) (by kernel_rfl) hS ?_ ?_; rotate_left; (focus (intro x hx; have fx := HX.out x hx; go_simp; (try with_reducible rfl); done)); (try simp only [Act.put, List.setIfInBounds_toArray, List.set_cons_zero, List.set_cons_succ]))
                      (refine wpAnyH_takeW 12 rfl rfl (by kernel_rfl) (by kernel_rfl) (by kernel_rfl) (fun _ _ _ h => h) (v := ?_) (by kernel_rfl) hS ?_ ?_; rotate_left; (focus (intro x hx; have fx := HX.out x hx; go_simp; (try with_reducible rfl); done)); (try simp only [Act.put, List.setIfInBounds_toArray, List.set_cons_zero, List.set_cons_succ]))
                      (refine wpAnyH_takeW 13 rfl rfl (by kernel_rfl) (by kernel_rfl) (by kernel_rfl) (fun _ _ _ h => h) (v := ?_) (by kernel_rfl) hS ?_ ?_; rotate_left; (focus (intro x hx; have fx := HX.out x hx; go_simp; (try with_reducible rfl); done)); (try simp only [Act.put, List.setIfInBounds_toArray, List.set_cons_zero, List.set_cons_succ]))
                      (refine wpAnyH_takeW 14 rfl rfl (by kernel_rfl) (by kernel_rfl) (by kernel_rfl) (fun _ _ _ h => h) (v := ?_) (by kernel_rfl) hS ?_ ?_; rotate_left; (focus (intro x hx; have fx := HX.out x hx; go_simp; (try with_reducible rfl); done)); (try simp only [Act.put, List.setIfInBounds_toArray, List.set_cons_zero, List.set_cons_succ]))
                      (refine wpAnyH_takeW 15 rfl rfl (by kernel_rfl) (by kernel_rfl) (by kernel_rfl) (fun _ _ _ h => h) (v := ?_) (by kernel_rfl) hS ?_ ?_; rotate_left; (focus (intro x hx; have fx := HX.out x hx; go_simp; (try with_reducible rfl); done)); (try simp only [Act.put, List.setIfInBounds_toArray, List.set_cons_zero, List.set_cons_succ]))
                      (refine wpAnyH_takeW 16 rfl rfl (by kernel_rfl) (by kernel_rfl) (by kernel_rfl) (fun _ _ _ h => h) (v := ?_) (by kernel_rfl) hS ?_ ?_; rotate_left; (focus (intro x hx; have fx := HX.out x hx; go_simp; (try with_reducible rfl); done)); (try simp only [Act.put, List.setIfInBounds_toArray, List.set_cons_zero, List.set_cons_succ]))
                      (refine wpAnyH_takeW 17 rfl rfl (by kernel_rfl) (by kernel_rfl) (by kernel_rfl) (fun _ _ _ h => h) (v := ?_) (by kernel_rfl) hS ?_ ?_; rotate_left; (focus (intro x hx; have fx := HX.out x hx; go_simp; (try with_reducible rfl); done)); (try simp only [Act.put, List.setIfInBounds_toArray, List.set_cons_zero, List.set_cons_succ]))
                      (refine wpAnyH_takeW 18 rfl rfl (by kernel_rfl) (by kernel_rfl) (by kernel_rfl) (fun _ _ _ h => h) (v := ?_) (by kernel_rfl) hS ?_ ?_; rotate_left; (focus (intro x hx; have fx := HX.out x hx; go_simp; (try with_reducible rfl); done)); (try simp only [Act.put, List.setIfInBounds_toArray, List.set_cons_zero, List.set_cons_succ]))
                      (refine wpAnyH_takeW 19 rfl rfl (by kernel_rfl) (by kernel_rfl) (by kernel_rfl) (fun _ _ _ h => h) (v := ?_) (by kernel_rfl) hS ?_ ?_; rotate_left; (focus (intro x hx; have fx := HX.out x hx; go_simp; (try with_reducible rfl); done)); (try simp only [Act.put, List.setIfInBounds_toArray, List.set_cons_zero, List.set_cons_succ]))
                      (refine wpAnyH_takeW 20 rfl rfl (by kernel_rfl) (by kernel_rfl) (by kernel_rfl) (fun _ _ _ h => h) (v := ?_) (by kernel_rfl) hS ?_ ?_; rotate_left; (focus (intro x hx; have fx := HX.out x hx; go_simp; (try with_reducible rfl); done)); (try simp only [Act.put, List.setIfInBounds_toArray, List.set_cons_zero, List.set_cons_succ]))
                      (refine wpAnyH_takeW 21 rfl rfl (by kernel_rfl) (by kernel_rfl) (by kernel_rfl) (fun _ _ _ h => h) (v := ?_) (by kernel_rfl) hS ?_ ?_; rotate_left; (focus (intro x hx; have fx := HX.out x hx; go_simp; (try with_reducible rfl); done)); (try simp only [Act.put, List.setIfInBounds_toArray, List.set_cons_zero, List.set_cons_succ]))
                      (refine wpAnyH_takeW 22 rfl rfl (by kernel_rfl) (by kernel_rfl) (by kernel_rfl) (fun _ _ _ h => h) (v := ?_) (by kernel_rfl) hS ?_ ?_; rotate_left; (focus (intro x hx; have fx := HX.out x hx; go_simp; (try with_reducible rfl); done)); (try simp only [Act.put, List.setIfInBounds_toArray, List.set_cons_zero, List.set_cons_succ]))
                      (refine wpAnyH_takeW 23 rfl rfl (by kernel_rfl) (by kernel_rfl) (by kernel_rfl) (fun _ _ _ h => h) (v := ?_) (by kernel_rfl) hS ?_ ?_; rotate_left; (focus (intro x hx; have fx := HX.out x hx; go_simp; (try with_reducible rfl); done)); (try simp only [Act.put, List.setIfInBounds_toArray, List.set_cons_zero, List.set_cons_succ]))
                      (refine wpAnyH_takeW 24 rfl rfl (by kernel_rfl) (by kernel_rfl) (by kernel_rfl) (fun _ _ _ h => h) (v := ?_) (by kernel_rfl) hS ?_ ?_; rotate_left; (focus (intro x hx; have fx := HX.out x hx; go_simp; (try with_reducible rfl); done)); (try simp only [Act.put, List.setIfInBounds_toArray, List.set_cons_zero, List.set_cons_succ]))
                      (refine wpAnyH_takeW 25 rfl rfl (by kernel_rfl) (by kernel_rfl) (by kernel_rfl) (fun _ _ _ h => h) (v := ?_) (by kernel_rfl) hS ?_ ?_; rotate_left; (focus (intro x hx; have fx := HX.out x hx; go_simp; (try with_reducible rfl); done)); (try simp only [Act.put, List.setIfInBounds_toArray, List.set_cons_zero, List.set_cons_succ]))
                      refine wpAnyH_done (by kernel_rfl) ?_ _
                      go_wp2_with fail
                      go_roundw
                      case rel => exact ⟨z + 1, by omega, by go_num, HBV.out.drew, hszv, HQ⟩
                      case measure => simp [intOf]; omega
                    · have HQ := Lib.hid q3; clear q3 HCS
                      go_wp2_with fail
                      refine wpH_region (fun x => Below wr.heap.size wr x) (by kernel_rfl) ?_
                      have hS : Below wr.heap.size wr wr.drew := (Below.refl _ _).drew
                      (refine wpAnyH_takeW 0 rfl rfl (by kernel_rfl) (by kernel_rfl) (by kernel_rfl) (fun _ _ _ h => h) (v := ?_) (by kernel_rfl) hS ?_ ?_; rotate_left; (focus (intro x hx; have fx := HX.out x hx; go_simp; (try with_reducible rfl); done)); (try simp only [Act.put, List.setIfInBounds_toArray, List.set_cons_zero, List.set_cons_succ]))
                      (refine wpAnyH_takeW 1 rfl rfl (by kernel_rfl) (by kernel_rfl) (by kernel_rfl) (fun _ _ _ h => h) (v := ?_) (by kernel_rfl) hS ?_ ?_; rotate_left; (focus (intro x hx; have fx := HX.out x hx; go_simp; (try with_reducible rfl); done)); (try simp only [Act.put, List.setIfInBounds_toArray, List.set_cons_zero, List.set_cons_succ]))
                      (refine wpAnyH_takeW 2 rfl rfl (by kernel_rfl) (by kernel_rfl) (by kernel_rfl) (fun _ _ _ h => h) (v := ?_) (by kernel_rfl) hS ?_ ?_; rotate_left; (focus (intro x hx; have fx := HX.out x hx; go_simp; (try with_reducible rfl); done)); (try simp only [Act.put, List.setIfInBounds_toArray, List.set_cons_zero, List.set_cons_succ]))
                      (refine wpAnyH_takeW 3 rfl rfl (by kernel_rfl) (by kernel_rfl) (by kernel_rfl) (fun _ _ _ h => h) (v := ?_) (by kernel_rfl) hS ?_ ?_; rotate_left; (focus (intro x hx; have fx := HX.out x hx; go_simp; (try with_reducible rfl); done)); (try simp only [Act.put, List.setIfInBounds_toArray, List.set_cons_zero, List.set_cons_succ]))
                      (refine wpAnyH_takeW 4 rfl rfl (by kernel_rfl) (by kernel_rfl) (by kernel_rfl) (fun _ _ _ h => h) (v := ?_) (by kernel_rfl) hS ?_ ?_; rotate_left; (focus (intro x hx; have fx := HX.out x hx; go_simp; (try with_reducible rfl); done)); (try simp only [Act.put, List.setIfInBounds_toArray, List.set_cons_zero, List.set_cons_succ]))
                      (refine wpAnyH_takeW 5 rfl rfl (by kernel_rfl) (by kernel_rfl) (by kernel_rfl) (fun _ _ _ h => h) (v := ?_) (by kernel_rfl) hS ?_ ?_; rotate_left; (focus (intro x hx; have fx := HX.out x hx; go_simp; (try with_reducible rfl); done)); (try simp only [Act.put, List.setIfInBounds_toArray, List.set_cons_zero, List.set_cons_succ]))
                      (refine wpAnyH_takeW 6 rfl rfl (by kernel_rfl) (by kernel_rfl) (by kernel_rfl) (fun _ _ _ h => h) (v := ?_) (by kernel_rfl) hS ?_ ?_; rotate_left; (focus (intro x hx; have fx := HX.out x hx; go_simp; (try with_reducible rfl); done)); (try simp only [Act.put, List.setIfInBounds_toArray, List.set_cons_zero, List.set_cons_succ]))
                      (refine wpAnyH_takeW 7 rfl rfl (by kernel_rfl) (by kernel_rfl) (by kernel_rfl) (fun _ _ _ h => h) (v := ?_) (by kernel_rfl) hS ?_ ?_; rotate_left; (focus (intro x hx; have fx := HX.out x hx; go_simp; (try with_reducible rfl); done)); (try simp only [Act.put, List.setIfInBounds_toArray, List.set_cons_zero, List.set_cons_succ]))
                      (refine wpAnyH_takeW 8 rfl rfl (by kernel_rfl) (by kernel_rfl) (by kernel_rfl) (fun _ _ _ h => h) (v := ?_) (by kernel_rfl) hS ?_ ?_; rotate_left; (focus (intro x hx; have fx := HX.out x hx; go_simp; (try with_reducible rfl); done)); (try simp only [Act.put, List.setIfInBounds_toArray, List.set_cons_zero, List.set_cons_succ]))
                      (refine wpAnyH_takeW 9 rfl rfl (by kernel_rfl) (by kernel_rfl) (by kernel_rfl) (fun _ _ _ h => h) (v := ?_) (by kernel_rfl) hS ?_ ?_; rotate_left; (focus (intro x hx; have fx := HX.out x hx; go_simp; (try with_reducible rfl); done)); (try simp only [Act.put, List.setIfInBounds_toArray, List.set_cons_zero, List.set_cons_succ]))
                      (refine wpAnyH_takeW 10 rfl rfl (by kernel_rfl) (by kernel_rfl) (by kernel_rfl) (fun _ _ _ h => h) (v := ?_) (by kernel_rfl) hS ?_ ?_; rotate_left; (focus (intro x hx; have fx := HX.out x hx; go_simp; (try with_reducible rfl); done)); (try simp only [Act.put, List.setIfInBounds_toArray, List.set_cons_zero, List.set_cons_succ]))
                      (refine wpAnyH_takeW 11 rfl rfl (by kernel_rfl) (by kernel_rfl) (by kernel_rfl) (fun _ _ _ h => h) (v := ?_) (by kernel_rfl) hS ?_ ?_; rotate_left; (focus (intro x hx; have fx := HX.out x hx; go_simp; (try with_reducible rfl); done)); (try simp only [Act.put, List.setIfInBounds_toArray, List.set_cons_zero, List.set_cons_succ]))
                      (refine wpAnyH_takeU 12 rfl rfl (by kernel_rfl) (by kernel_rfl) (by kernel_rfl) (fun _ _ _ h => h) (by kernel_rfl) hS ?_; (try simp only [Act.put, List.setIfInBounds_toArray, List.set_cons_zero, List.set_cons_succ]))
                      (refine wpAnyH_takeU 13 rfl rfl (by kernel_rfl) (by kernel_rfl) (by kernel_rfl) (fun _ _ _ h => h) (by kernel_rfl) hS ?_; (try simp only [Act.put, List.setIfInBounds_toArray, List.set_cons_zero, List.set_cons_succ]))
                      (refine wpAnyH_takeU 14 rfl rfl (by kernel_rfl) (by kernel_rfl) (by kernel_rfl) (fun _ _ _ h => h) (by kernel_rfl) hS ?_; (try simp only [Act.put, List.setIfInBounds_toArray, List.set_cons_zero, List.set_cons_succ]))
                      (refine wpAnyH_takeU 15 rfl rfl (by kernel_rfl) (by kernel_rfl) (by kernel_rfl) (fun _ _ _ h => h) (by kernel_rfl) hS ?_; (try simp only [Act.put, List.setIfInBounds_toArray, List.set_cons_zero, List.set_cons_succ]))
                      (refine wpAnyH_takeU 16 rfl rfl (by kernel_rfl) (by kernel_rfl) (by kernel_rfl) (fun _ _ _ h => h) (by kernel_rfl) hS ?_; (try simp only [Act.put, List.setIfInBounds_toArray, List.set_cons_zero, List.set_cons_succ]))
                      (refine wpAnyH_takeU 17 rfl rfl (by kernel_rfl) (by kernel_rfl) (by kernel_rfl) (fun _ _ _ h => h) (by kernel_rfl) hS ?_; (try simp only [Act.put, List.setIfInBounds_toArray, List.set_cons_zero, List.set_cons_succ]))
                      (refine wpAnyH_takeU 18 rfl rfl (by kernel_rfl) (by kernel_rfl) (by kernel_rfl) (fun _ _ _ h => h) (by kernel_rfl) hS ?_; (try simp only [Act.put, List.setIfInBounds_toArray, List.set_cons_zero, List.set_cons_succ]))
                      (refine wpAnyH_takeU 19 rfl rfl (by kernel_rfl) (by kernel_rfl) (by kernel_rfl) (fun _ _ _ h => h) (by kernel_rfl) hS ?_; (try simp only [Act.put, List.setIfInBounds_toArray, List.set_cons_zero, List.set_cons_succ]))
                      (refine wpAnyH_takeU 20 rfl rfl (by kernel_rfl) (by kernel_rfl) (by kernel_rfl) (fun _ _ _ h => h) (by kernel_rfl) hS ?_; (try simp only [Act.put, List.setIfInBounds_toArray, List.set_cons_zero, List.set_cons_succ]))
                      (refine wpAnyH_takeU 21 rfl rfl (by kernel_rfl) (by kernel_rfl) (by kernel_rfl) (fun _ _ _ h => h) (by kernel_rfl) hS ?_; (try simp only [Act.put, List.setIfInBounds_toArray, List.set_cons_zero, List.set_cons_succ]))
                      (refine wpAnyH_takeU 22 rfl rfl (by kernel_rfl) (by kernel_rfl) (by kernel_rfl) (fun _ _ _ h => h) (by kernel_rfl) hS ?_; (try simp only [Act.put, List.setIfInBounds_toArray, List.set_cons_zero, List.set_cons_succ]))
                      (refine wpAnyH_takeU 23 rfl rfl (by kernel_rfl) (by kernel_rfl) (by kernel_rfl) (fun _ _ _ h => h) (by kernel_rfl) hS ?_; (try simp only [Act.put, List.setIfInBounds_toArray, List.set_cons_zero, List.set_cons_succ]))
                      (refine wpAnyH_takeU 24 rfl rfl (by kernel_rfl) (by kernel_rfl) (by kernel_rfl) (fun _ _ _ h => h) (by kernel_rfl) hS ?_; (try simp only [Act.put, List.setIfInBounds_toArray, List.set_cons_zero, List.set_cons_succ]))
                      (refine wpAnyH_takeW 25 rfl rfl (by kernel_rfl) (by kernel_rfl) (by kernel_rfl) (fun _ _ _ h => h) (v := ?_) (by kernel_rfl) hS ?_ ?_; rotate_left; (focus (intro x hx; have fx := HX.out x hx; go_simp; (try with_reducible rfl); done)); (try simp only [Act.put, List.setIfInBounds_toArray, List.set_cons_zero, List.set_cons_succ]))
                      refine wpAnyH_done (by kernel_rfl) ?_ _
                      go_wp2_with fail
                      go_roundw
                      case rel => exact ⟨z + 1, by omega, by go_num, HBV.out.drew, hszv, HQ⟩
                      case measure => simp [intOf]; omega
                  · have hd4 := hsb.out
                    rw [drop_end hltz] at hd4
                    have hd5 := HD3.out
                    rw [hd4] at hd5
                    have hd5 : rarA seen aa = rarA (sn ++ [⟨ynm, yargs⟩]) (aa.drop (q + 1)) := hd5
                    have HD5 := Lib.hid hd5
                    obtain ⟨e1, e2⟩ := HKY.out _ hbv
                    have HOV := Lib.hid (HOW.out.below hbv); have HK4 := Lib.hid (HK3.out.below hbv); have HBV := Lib.hid hbv
                    clear hd4 hd5 hsb hbv k1 k2
                    have hnq : ∀ z, (z < w1.heap.size ∧ (z < w.heap.size ∨ wo.heap.size ≤ z)) → B2.map Addr.block ≠ some z := fun z hz e => by
                      have := HQB.out z e
                      omega
                    go_wp2_with (at_builtin; go_loud (refine wpList_app1 rfl _ _ eltAtm rfl (by decide) rfl rfl rfl (HOV.out.alloc _) rfl [.string ⟨ynm.toArray⟩, .slice A5 yargs.length c5] (⟨ynm, yargs⟩ : Atm) (blkAt _ _ hszv.symm) rfl ⟨rfl, A5, yargs.length, c5, rfl, (HK4.out.alloc _).wide (fun z _ hz => ⟨trivial, hnq z hz⟩) (by decide)⟩ (by omega) (by omega) (by first | omega | (simp; omega)) ?_); intro A' c' w6 hown' hg6 hat6)
                    have hs6 := hg6.size
                    simp at hs6
                    go_roundw
                    case rel => exact ⟨q + 1, by omega, by go_num, _, A', c', by simp, hown', fun z hz => by
                        rcases hat6 with h | h
                        · rw [h] at hz; exact HQB.out z hz
                        · rw [h] at hz; injection hz with hz; simp at hz; omega, by simp; omega, ((HBY.out.trans (HBV.out.mono hwy)).alloc (by omega) _).grown hg6 (by simp; omega) (fun z hz => (HOW.out.lt z hz).1), by omega, fun z h1 h2 => (hg6.block z (by simp; omega) (fun e => by have := HQB.out z e.symm; omega)).trans ((Below.heap_alloc _ _ z (by omega)).trans ((HBV.out.block z (by omega)).trans (HKP.out z h1 h2))), HD5⟩
                    case measure => simp [intOf]; omega
              · have hgo2 := hgo.out
                rw [drop_end hlt3] at hgo2
                have hgo2 : rarA seen aa = some sn := hgo2
                have hdd := HD.out
                rw [hgo2] at hdd
                have HDD := Lib.hid hdd
                clear hdd hgo2 hgo
                go_wp2_with fail
                go_roundw
                case rel => exact ⟨j + 1, by omega, by go_num, sn, B2, d2, rfl, hown, by omega, hby, HDD⟩
                case measure => simp [intOf]; omega
          · have hge := hg.out
            rw [drop_end hlt2] at hge
            have hge : rarR [] l 0 = none := hge
            have hvv := HV2.out
            rw [hge] at hvv
            have hvv : v = match rstrata l with | none => (-1, 12) | some _ => (-1, 0) := hvv
            have hst := rstrata_any A l.length c l wr _ (HL.out.below hbx) HALL.out (by omega)
            generalize rstrata l = RS at *
            have HVV := Lib.hid hvv; have HST := Lib.hid hst; have HBX := Lib.hid hbx
            clear hvv hst hge hg hown hbx
            go_wp2_with fail
            refine HST.out.mono ?_
            rintro e w5 ⟨hb5, h | ⟨s, A5, c5, h, rfl, -⟩⟩
            · obtain ⟨rfl, rfl⟩ := h
              go_wp2_with fail
              go_ret2
              exact ⟨(by rw [HVV.out]; rfl), HBX.out.trans (hb5.mono hwx)⟩
            · subst h
              go_wp2_with fail
              go_ret2
              exact ⟨(by rw [HVV.out]; rfl), HBX.out.trans (hb5.mono hwx)⟩

theorem rcheck_ok {l : List Rul} (h : (rcheckS l).2 = 0) : l.length ≤ 64 ∧ (∀ r ∈ l, ruleS r = true) ∧ ∃ s, rstrata l = some s := by
  unfold rcheckS at h
  by_cases h64 : 64 < l.length
  · rw [if_pos h64] at h; cases h
  · rw [if_neg h64] at h
    cases hf : firstBad l 0 with
    | some e =>
      rw [hf] at h
      exfalso
      simp only at h
      have : ∀ (l : List Rul) i e, firstBad l i = some e → e.2 ≠ 0 := by
        intro l
        induction l with
        | nil => intro i e h; cases h
        | cons x t ih =>
          intro i e h
          rw [firstBad] at h
          split at h
          · injection h with h; subst h; simp
          · split at h
            · injection h with h; subst h; simp
            · exact ih _ _ h
      exact this _ _ _ hf h
    | none =>
      rw [hf] at h
      simp only at h
      cases hr : rarR [] l 0 with
      | some i => rw [hr] at h; cases h
      | none =>
        rw [hr] at h
        simp only at h
        cases hs : rstrata l with
        | none => rw [hs] at h; cases h
        | some s => exact ⟨by omega, firstBad_none l 0 hf, s, rfl⟩

set_option maxRecDepth 100000 in
set_option maxHeartbeats 1000000 in
theorem rStrata_any (A : Option Addr) (n c : Nat) (l : List Rul) (w : World) (S : Nat → Prop) (hl : Sl w S A n c l) (ho : ∀ r ∈ l, OkR r) :
    Calls Tryz.prog 23 #[.slice A n c] w (SPost w (rstrataS l)) := by
  obtain ⟨v, hv⟩ : ∃ v, v = rstrataS l := ⟨_, rfl⟩
  rw [← hv]
  unfold rstrataS at hv
  simp only at hv
  have hck := fun w S (h : Sl w S A n c l) => rcheck_any A n c l w S h ho
  have hok := @rcheck_ok l
  have hst := fun w S (h : Sl w S A n c l) h1 h2 => rstrata_any A n c l w S h h1 h2
  have HL := Lib.hid hl; clear hl ho
  generalize rcheckS l = ck at *
  obtain ⟨i, er⟩ := ck
  simp only at hv hck hok
  by_cases he : er = 0
  · subst he
    obtain ⟨h1, h2, s, hs⟩ := hok rfl
    rw [if_neg (by simp), hs] at hv
    have hv : v = (s, -1, 0) := hv
    subst hv
    have HCK := Lib.hid hck; have HST := Lib.hid (fun w S h => hst w S h h2 h1)
    rw [hs] at HST
    clear hck hst hok h2 hs
    go_enter Tryz.func23, Tryz.ntmps23
    go_wp2_with fail
    refine (HCK.out _ _ HL.out).mono ?_
    rintro e w1 ⟨rfl, b1⟩
    go_wp2_with fail
    refine (HST.out _ _ (HL.out.below b1)).mono ?_
    rintro e w2 ⟨b2, h | ⟨s2, A5, c5, h, rfl, hs2⟩⟩
    · cases h.1
    · injection h with h
      subst h
      go_wp2_with fail
      refine bodyPost_ret (v := .tuple #[.slice A5 s.length c5, .int .i64 (-1), .int .i64 0]) (by simp [results, Tryz.results23, go_sem]) rfl ?_
      exact ⟨A5, c5, rfl, hs2.wide (fun z _ hz => by have := b1.size; omega) (by decide), b1.trans (b2.mono b1.size)⟩
  · rw [if_pos he] at hv
    subst hv
    have heb : (er == 0) = false := by simpa using he
    have HCK := Lib.hid hck
    clear hck hst hok
    go_enter Tryz.func23, Tryz.ntmps23
    go_wp2_with fail
    refine (HCK.out _ _ HL.out).mono ?_
    rintro e w1 ⟨rfl, b1⟩
    go_wp2_with fail
    refine bodyPost_ret (v := .tuple #[.slice none 0 0, .int .i64 i, .int .i64 er]) (by simp [results, Tryz.results23, go_sem]) rfl ?_
    exact ⟨none, 0, rfl, Sl.nil _ _ _ _ (by decide), b1⟩
end Go.Proofs.YtjopmgoacncmgaaGreatDoor
