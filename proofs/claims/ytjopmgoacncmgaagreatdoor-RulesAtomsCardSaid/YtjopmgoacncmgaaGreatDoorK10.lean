/- Rules: check. -/
import Derived.Test.YtjopmgoacncmgaaGreatDoorKM
set_option linter.unusedVariables false
set_option linter.unusedSimpArgs false
namespace Go.Proofs.YtjopmgoacncmgaaGreatDoor
open Go.RowKit

theorem firstBad_none (l : List Rul) : ∀ i, firstBad l i = none → ∀ r ∈ l, ruleS r = true := by
  induction l with
  | nil => intro i _ r hr; cases hr
  | cons x t ih =>
    intro i h r hr
    rw [firstBad] at h
    split at h
    · cases h
    · rename_i h1
      split at h
      · cases h
      · rcases List.mem_cons.1 hr with rfl | hr
        · simpa using h1
        · exact ih _ h r hr
theorem rule_body {r : Rul} (h : ruleS r = true) : r.body.length ≤ 4 ∧ r.head.args.length + cntB r.body ≤ 30 := by
  unfold ruleS at h
  rw [Bool.and_eq_true, Bool.and_eq_true, Bool.and_eq_true, decide_eq_true_eq] at h
  have h1 := form_atom h.1.1.1
  have h2 := form_cnt r.body h.1.2
  exact ⟨h.1.1.2, by have := h.1.1.2; omega⟩
theorem atoms_len (r : Rul) : (atomsS r).length ≤ r.body.length + 1 := by
  unfold atomsS
  simp only [List.length_cons, List.length_map]
  have := List.length_filter_le (fun l => !compsS l) r.body
  omega
theorem ok_atoms {r : Rul} (h : OkR r) : ∀ a ∈ atomsS r, a.name.length ≤ 9223372036854775807 := by
  intro a ha
  unfold atomsS at ha
  rcases List.mem_cons.1 ha with rfl | ha
  · exact h.1.1
  · obtain ⟨x, hx, rfl⟩ := List.mem_map.1 ha
    exact (h.2 x (List.mem_filter.1 hx).1).2.1

set_option maxRecDepth 100000 in
set_option maxHeartbeats 4000000 in
theorem check_any (A : Option Addr) (n c : Nat) (l : List Rul) (w : World) (S : Nat → Prop) (hl : Sl w S A n c l) (ho : ∀ r ∈ l, OkR r) (hL : LD w) :
    Calls Tryz.prog 58 #[.slice A n c] w fun e w' => e = .returned (.tuple #[.int .i64 (check0S l).1, .int .i64 (check0S l).2]) ∧ Below w.heap.size w w' := by
  obtain ⟨v, hv⟩ : ∃ v, v = check0S l := ⟨_, rfl⟩
  rw [← hv]
  unfold check0S at hv
  have hlen := hl.len
  subst hlen
  have hle := hl.le
  by_cases h64 : 64 < l.length
  · rw [if_pos h64] at hv
    subst hv
    clear hl ho hL
    go_enter Tryz.func58, Tryz.ntmps58
    go_wp2
    go_ret2
    exact ⟨rfl, Below.refl _ _⟩
  · rw [if_neg h64] at hv
    have Hf : Hid (firstBad l 0 = firstBad (l.drop 0) (0 : Nat)) := rfl
    have HV := Lib.hid hv; have HO := Lib.hid ho; have HL := Lib.hid (hl.wide (S' := fun b => b < w.heap.size) (fun k hk _ => hk) (by decide)); have HLD := Lib.hid hL; clear hv ho hl hL
    have hmm := @run_makeMap Tryz.prog
    go_enter Tryz.func58, Tryz.ntmps58
    go_wp2_with fail
    go_loopw [18] (fun i wr => ∃ k : Nat, k ≤ l.length ∧ i = .int .i64 k ∧ Below w.heap.size w wr ∧ Hid (firstBad l 0 = firstBad (l.drop k) k)) (fun i _ => l.length - (intOf i).toNat)
    case atStart => exact ⟨0, by omega, rfl, Below.refl _ _, Hf⟩
    case round =>
      obtain ⟨k, hk, rfl, hb, hf⟩ := hrel
      have hwr := hb.size
      by_cases hlt : k < l.length
      · obtain ⟨b, o, rfl, -, hbs, A1, n1, c1, A2, n2, c2, h1, h2, h3, hs1, hs2⟩ := (HL.out.below hb).rul hlt
        have hd := hf.out
        rw [drop_get hlt, firstBad] at hd
        have hok := HO.out _ (List.getElem_mem hlt)
        generalize l[k] = x at *
        have hfr := fun w S (h1 : Sl w S A1 n1 c1 x.head.args) (h2 : Sl w S A2 n2 c2 x.body) (hL : LD w) => formedRule_any x A1 n1 c1 A2 n2 c2 w S h1 h2 hok hL
        have hsf := fun w S (h1 : Sl w S A1 n1 c1 x.head.args) (h2 : Sl w S A2 n2 c2 x.body) (hr : ruleS x = true) => safe_any x A1 n1 c1 A2 n2 c2 w S h1 h2 (by have := (rule_body hr).2; omega) (by have := (rule_body hr).1; omega)
        generalize ruleS x = b1 at *
        generalize safeS x = b2 at *
        have HD := Lib.hid hd; have HFR := Lib.hid hfr; have HSF := Lib.hid hsf; have HS1 := Lib.hid hs1; have HS2 := Lib.hid hs2
        clear hd hfr hsf hs1 hs2 hf hok
        go_wp2_with (first | (go_at_call 50; refine (HFR.out _ _ (HS1.out.alloc _) (HS2.out.alloc _) ((HLD.out.below hb).alloc _)).mono ?_; rintro e w1 ⟨rfl, hb1⟩; have g0 : w1.cell? ⟨wr.heap.size, 0, none⟩ = some (.string ⟨x.head.name.toArray⟩) := cell_later hb1 ((cell_blk (blkAt wr _ rfl) 0).trans rfl); have g1 : w1.cell? ⟨wr.heap.size, 1, none⟩ = some (.slice A1 n1 c1) := cell_later hb1 ((cell_blk (blkAt wr _ rfl) 1).trans rfl); have g2 : w1.cell? ⟨wr.heap.size, 2, none⟩ = some (.slice A2 n2 c2) := cell_later hb1 ((cell_blk (blkAt wr _ rfl) 2).trans rfl)) | (go_at_call 106; refine (HSF.out _ _ ((HS1.out.alloc _).below hb1) ((HS2.out.alloc _).below hb1) (by simp_all)).mono ?_; rintro e w2 ⟨rfl, hb2⟩))
        · rename_i hb1f
          go_ret2
          refine ⟨?_, (hb.alloc hwr _).trans (hb1.mono (by simp; omega))⟩
          have hvv := HV.out
          rw [HD.out] at hvv
          have hb1f' : b1 = false := by simpa using hb1f
          subst hb1f'
          rw [hvv]; rfl
        · rename_i hb1f hb2f
          go_ret2
          refine ⟨?_, ((hb.alloc hwr _).trans (hb1.mono (by simp; omega))).trans (hb2.mono (by have := hb1.size; simp at this; omega))⟩
          have hvv := HV.out
          rw [HD.out] at hvv
          have hb1f' : b1 = true := by simpa using hb1f
          have hb2f' : b2 = false := by simpa using hb2f
          subst hb1f' hb2f'
          rw [hvv]; rfl
        · rename_i hb1f hb2f
          refine ⟨⟨k + 1, by omega, by go_num, ((hb.alloc hwr _).trans (hb1.mono (by simp; omega))).trans (hb2.mono (by have := hb1.size; simp at this; omega)), ?_⟩, by simp [intOf]; omega⟩
          have hb1f' : b1 = true := by simpa using hb1f
          have hb2f' : b2 = true := by simpa using hb2f
          subst hb1f' hb2f'
          exact HD.out
      · have hd := hf.out
        rw [drop_end hlt] at hd
        have hd : firstBad l 0 = none := hd
        have hall := firstBad_none l 0 hd
        have hvv := HV.out
        rw [hd] at hvv
        have HV2 := Lib.hid hvv; have HALL := Lib.hid hall
        have Hg : Hid (arRules [] l 0 = arRules [] (l.drop 0) (0 : Nat)) := rfl
        clear hd hvv hall hf HV
        go_wp2_with fail
        have hmade := MapR.made wr
        have hbw : Below w.heap.size w (wr.alloc (.map #[] 0)) := hb.alloc hwr _
        have hszm : wr.heap.size < (wr.alloc (.map #[] 0)).heap.size := by simp
        generalize wr.heap.size = mb at *
        go_loopw [35] (fun i wx => ∃ k : Nat, k ≤ l.length ∧ i = .int .i64 k ∧ ∃ m, MapR wx mb m ∧ m.length ≤ 5 * k ∧ Below w.heap.size w wx ∧ mb < wx.heap.size ∧ Hid (arRules [] l 0 = arRules m (l.drop k) k)) (fun i _ => l.length - (intOf i).toNat)
        case atStart => exact ⟨0, by omega, rfl, [], hmade, by simp, hbw, hszm, Hg⟩
        case round =>
          obtain ⟨j, hj, rfl, m, hmr, hml, hbx, hszx, hg⟩ := hrel
          have hwx := hbx.size
          by_cases hlt2 : j < l.length
          · obtain ⟨b, o, rfl, -, hbs, A1, n1, c1, A2, n2, c2, h1, h2, h3, hs1, hs2⟩ := (HL.out.below hbx).rul hlt2
            have hd := hg.out
            rw [drop_get hlt2, arRules] at hd
            have hok := ok_atoms (HO.out _ (List.getElem_mem hlt2))
            have hrb := (rule_body (HALL.out _ (List.getElem_mem hlt2))).1
            generalize l[j] = x at *
            have hat := fun w S (h1 : Sl w S A1 n1 c1 x.head.args) (h2 : Sl w S A2 n2 c2 x.body) => atoms_any x A1 n1 c1 A2 n2 c2 w S h1 h2 (by omega)
            have hal := atoms_len x
            generalize atomsS x = aa at *
            have HD := Lib.hid hd; have HAT := Lib.hid hat; have HS1 := Lib.hid hs1; have HS2 := Lib.hid hs2; have HOK := Lib.hid hok; have HM := Lib.hid hmr
            clear hd hat hs1 hs2 hg hok hmr
            go_wp2_with (first | (go_at_call 107; refine (HAT.out _ _ (HS1.out.alloc _) (HS2.out.alloc _)).mono ?_; rintro e w1 ⟨A3, c3, rfl, hs3, hb3⟩))
            have hb30 : Below w.heap.size w w1 := (hbx.alloc hwx _).trans (hb3.mono (by simp; omega))
            have hsz3 := hb3.size
            simp at hsz3
            have hmr1 := (HM.out.alloc (.cells #[.string ⟨x.head.name.toArray⟩, .slice A1 n1 c1, .slice A2 n2 c2] 48)).below hb3
            have HM1 := Lib.hid hmr1; have HB30 := Lib.hid hb30; have HS3 := Lib.hid hs3; clear hmr1 hb30 hb3 hs3
            have Hk : Hid (arGo m aa = arGo m (aa.drop 0)) := rfl
            go_loopw [43] (fun i wy => ∃ k : Nat, k ≤ aa.length ∧ i = .int .i64 k ∧ ∃ m', MapR wy mb m' ∧ m'.length ≤ m.length + k ∧ Below w.heap.size w wy ∧ w1.heap.size ≤ wy.heap.size ∧ (∀ q, q < w1.heap.size → q ≠ mb → wy.heap[q]? = w1.heap[q]?) ∧ Hid (arGo m aa = arGo m' (aa.drop k))) (fun i _ => aa.length - (intOf i).toNat)
            case atStart => exact ⟨0, by omega, rfl, m, HM1.out, by omega, HB30.out, Nat.le_refl _, fun _ _ _ => rfl, Hk⟩
            case round =>
              obtain ⟨q, hq, rfl, m', hmr', hml', hby, hszy, hkeep, hgo⟩ := hrel
              by_cases hlt3 : q < aa.length
              · obtain ⟨b2, o2, rfl, -, hbs2, A5, n5, c5, k1, k2, k3⟩ := (HS3.out.keep (fun z hz hs => hkeep z hz (by rcases hs with hs | hs; omega; simp at hs; omega))).atm hlt3
                have hd3 := hgo.out
                rw [drop_get hlt3, arGo] at hd3
                have hnm := HOK.out _ (List.getElem_mem hlt3)
                generalize aa[q] = y at *
                have hn5 := k3.len
                have hle5 := k3.le
                obtain ⟨ynm, yargs⟩ := y
                simp only at k1 k2 k3 hd3 hnm hn5
                subst hn5
                have hgv : getK m' ynm = none → getV m' ynm = 0 := fun e => by unfold getV; rw [e]; rfl
                have hgs : ∀ z, getK m' ynm = some z → getV m' ynm = z := fun z e => by unfold getV; rw [e]; rfl
                have HD3 := Lib.hid hd3; have HM3 := Lib.hid hmr'
                clear hd3 hgo hmr' k3
                go_wp2_with (first | (at_lookup; refine wpList_lookKok rfl _ _ rfl rfl ynm rfl (HM3.out.alloc _) hnm ?_) | (at_mapUpdate; refine wpList_updK rfl _ _ _ rfl rfl ynm rfl _ rfl (HM3.out.alloc _) hnm (by omega) (by omega) ?_; intro w5 hm5 hg5))
                · rename_i q1 q2
                  go_ret2
                  refine ⟨?_, hby.alloc (by omega) _⟩
                  have hvv := HV2.out
                  rw [HD.out, HD3.out] at hvv
                  cases hg : getK m' ynm with
                  | none => rw [hg] at q1; cases q1
                  | some z =>
                    rw [hgs z hg] at q2
                    rw [hg] at hvv
                    simp only at hvv
                    rw [if_pos (by simpa using q2)] at hvv
                    rw [hvv]
                    rfl
                · rename_i q1 q2
                  refine ⟨⟨q + 1, by omega, by go_num, setK m' ynm yargs.length, hm5, by rw [setK_len]; split <;> omega, (hby.alloc (by omega) _).grown hg5 (by simp; omega) (fun z hz => by injection hz with hz; omega), by have := hg5.size; simp at this; omega, fun z hz hne => (hg5.block z (by simp; omega) (fun e => hne (by injection e))).trans ((Below.heap_alloc _ _ z (by omega)).trans (hkeep z hz hne)), ?_⟩, by simp [intOf]; omega⟩
                  show _ = _
                  rw [HD3.out]
                  cases hg : getK m' ynm with
                  | none => simp [hg] at q1
                  | some z =>
                    rw [hgs z hg] at q2
                    simp only
                    rw [if_neg (by simpa using q2)]
                · rename_i q1
                  refine ⟨⟨q + 1, by omega, by go_num, setK m' ynm yargs.length, hm5, by rw [setK_len]; split <;> omega, (hby.alloc (by omega) _).grown hg5 (by simp; omega) (fun z hz => by injection hz with hz; omega), by have := hg5.size; simp at this; omega, fun z hz hne => (hg5.block z (by simp; omega) (fun e => hne (by injection e))).trans ((Below.heap_alloc _ _ z (by omega)).trans (hkeep z hz hne)), ?_⟩, by simp [intOf]; omega⟩
                  show _ = _
                  rw [HD3.out]
                  cases hg : getK m' ynm with
                  | none => rfl
                  | some z => rw [hg] at q1; exact absurd rfl q1
              · have hgo2 := hgo.out
                rw [drop_end hlt3] at hgo2
                have hqe : q = aa.length := by omega
                go_wp2_with fail
                go_roundw
                case rel =>
                  refine ⟨j + 1, by omega, by go_num, m', hmr', by omega, hby, by omega, ?_⟩
                  show _ = _
                  rw [HD.out, hgo2]
                  rfl
                case measure => simp [intOf]; omega
          · have hge := hg.out
            rw [drop_end hlt2] at hge
            have hvv := HV2.out
            rw [hge] at hvv
            go_wp2_with fail
            go_ret2
            exact ⟨by rw [hvv]; rfl, hbx⟩
end Go.Proofs.YtjopmgoacncmgaaGreatDoor
