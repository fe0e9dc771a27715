/- Query (package licitlaw54): a part of the proofs of its laws; see the law's own text, which comes last in 'order'. No conditions of its own. -/
import Derived.Shelf.SlIter.Nil
import Derived.Shelf.SortM.Plain
import Derived.Shelf.SortM.SortNone
import Derived.Ground.GgzProg
import Derived.Ground.SlgmProg
import Derived.Test.YtkjoaodoioicpaaGreatDoorProg
import Derived.Test.YtkjoaodoioicpaaGreatDoorWC12
set_option linter.unusedVariables false
set_option linter.unusedSimpArgs false
namespace Go.Proofs.YtkjoaodoioicpaaGreatDoor
open Go.RowKit
def LPost (w : World) (l : List Rul) (e : Ending) (w' : World) : Prop :=
  Below w.heap.size w w' ∧ ((levelsS l = none ∧ e = .returned (.tuple #[.map none, .bool false])) ∨ ∃ m b, levelsS l = some m ∧ e = .returned (.tuple #[.map (some b), .bool true]) ∧ MapR w' b m ∧ w.heap.size ≤ b)
theorem initA_len (aa : List Atm) : ∀ m : KMap, (initA m aa).length ≤ m.length + aa.length := by
  induction aa with
  | nil => intro m; exact Nat.le_refl _
  | cons a r ih =>
    intro m
    rw [initA]
    have := ih (setK m a.name 0)
    have h2 := setK_len m a.name 0
    simp only [List.length_cons]
    split at h2 <;> omega
set_option maxRecDepth 100000 in
set_option maxHeartbeats 4000000 in
theorem levels_any (A : Option Addr) (n c : Nat) (l : List Rul) (w : World) (S : Nat → Prop) (hl : Sl w S A n c l) (ho : ∀ r ∈ l, OkR r) (hr : ∀ r ∈ l, ruleS r = true) (h64 : l.length ≤ 64) :
    Calls Tryz.prog 87 #[.slice A n c] w (LPost w l) := by
  have hlen := hl.len
  subst hlen
  have hle := hl.le
  have HO := Lib.hid ho; have HL := Lib.hid (hl.wide (S' := fun b => b < w.heap.size) (fun k hk _ => hk) (by decide)); have HALL := Lib.hid hr; clear ho hl hr
  have hmm := @run_makeMap Tryz.prog
  have hmade := MapR.made w
  have hbw : Below w.heap.size w (w.alloc (.map #[] 0)) := (Below.refl _ _).alloc (Nat.le_refl _) _
  have hszm : w.heap.size < (w.alloc (.map #[] 0)).heap.size := by simp
  obtain ⟨mb, hmb⟩ : ∃ mb, mb = w.heap.size := ⟨_, rfl⟩
  rw [← hmb] at hmade hszm
  have hmbl : w.heap.size ≤ mb := by omega
  have Hg : Hid (initR [] l = initR [] (l.drop 0)) := rfl
  go_enter Tryz.func87, Tryz.ntmps87
  go_wp2_with fail
  rw [← hmb]
  have HMB := Lib.hid hmb; clear hmb
  go_loopw [18] (fun i wx => ∃ k : Nat, k ≤ l.length ∧ i = .int .i64 k ∧ ∃ m, MapR wx mb m ∧ m.length ≤ 5 * k ∧ Below w.heap.size w wx ∧ mb < wx.heap.size ∧ Hid (initR [] l = initR m (l.drop k))) (fun i _ => l.length - (intOf i).toNat)
  case atStart => exact ⟨0, by omega, rfl, [], hmade, by simp, hbw, hszm, Hg⟩
  case round =>
    obtain ⟨j, hj, rfl, m, hmr, hml, hbx, hszx, hg⟩ := hrel
    have hwx := hbx.size
    by_cases hlt2 : j < l.length
    · obtain ⟨b, o, rfl, -, hbs, A1, n1, c1, A2, n2, c2, h1, h2, h3, hs1, hs2⟩ := (HL.out.below hbx).rul hlt2
      have hd := hg.out
      rw [drop_get hlt2, initR] at hd
      have hok := ok_atoms (HO.out _ (List.getElem_mem hlt2))
      have hrb := (rule_body (HALL.out _ (List.getElem_mem hlt2))).1
      generalize l[j] = x at *
      have hat := fun w S (h1 : Sl w S A1 n1 c1 x.head.args) (h2 : Sl w S A2 n2 c2 x.body) => atoms_any x A1 n1 c1 A2 n2 c2 w S h1 h2 (by omega)
      have hal := atoms_len x
      generalize atomsS x = aa at *
      have HD := Lib.hid hd; have HAT := Lib.hid hat; have HS1 := Lib.hid hs1; have HS2 := Lib.hid hs2; have HOK := Lib.hid hok; have HM := Lib.hid hmr
      clear hd hat hs1 hs2 hg hok hmr
      go_wp2_with (first | (go_at_call 114; refine (HAT.out _ _ (HS1.out.alloc _) (HS2.out.alloc _)).mono ?_; rintro e w1 ⟨A3, c3, rfl, hs3, hb3⟩))
      have hb30 : Below w.heap.size w w1 := (hbx.alloc hwx _).trans (hb3.mono (by simp; omega))
      have hsz3 := hb3.size
      simp at hsz3
      have hmr1 := (HM.out.alloc (.cells #[.string ⟨x.head.name.toArray⟩, .slice A1 n1 c1, .slice A2 n2 c2] 34)).below hb3
      have HM1 := Lib.hid hmr1; have HB30 := Lib.hid hb30; have HS3 := Lib.hid hs3; clear hmr1 hb30 hb3 hs3
      have Hk : Hid (initA m aa = initA m (aa.drop 0)) := rfl
      go_loopw [25] (fun i wy => ∃ k : Nat, k ≤ aa.length ∧ i = .int .i64 k ∧ ∃ m', MapR wy mb m' ∧ m'.length ≤ m.length + k ∧ Below w.heap.size w wy ∧ w1.heap.size ≤ wy.heap.size ∧ (∀ q, q < w1.heap.size → q ≠ mb → wy.heap[q]? = w1.heap[q]?) ∧ Hid (initA m aa = initA m' (aa.drop k))) (fun i _ => aa.length - (intOf i).toNat)
      case atStart => exact ⟨0, by omega, rfl, m, HM1.out, by omega, HB30.out, Nat.le_refl _, fun _ _ _ => rfl, Hk⟩
      case round =>
        obtain ⟨q, hq, rfl, m', hmr', hml', hby, hszy, hkeep, hgo⟩ := hrel
        by_cases hlt3 : q < aa.length
        · obtain ⟨b2, o2, rfl, -, hbs2, A5, n5, c5, k1, k2, k3⟩ := (HS3.out.keep (fun z hz hs => hkeep z hz (by rcases hs with hs | hs; omega; simp at hs; omega))).atm hlt3
          have hd3 := hgo.out
          rw [drop_get hlt3, initA] at hd3
          have hnm := HOK.out _ (List.getElem_mem hlt3)
          generalize aa[q] = y at *
          obtain ⟨ynm, yargs⟩ := y
          simp only at k1 k2 k3 hd3 hnm
          have HD3 := Lib.hid hd3; have HM3 := Lib.hid hmr'
          clear hd3 hgo hmr' k3
          go_wp2_with (first | (at_mapUpdate; refine wpList_updK rfl _ _ _ rfl rfl ynm rfl _ rfl (HM3.out.alloc _) hnm (by omega) (by omega) ?_; intro w5 hm5 hg5))
          refine ⟨⟨q + 1, by omega, by go_num, setK m' ynm 0, hm5, by rw [setK_len]; split <;> omega, (hby.alloc (by omega) _).grown hg5 (by simp; omega) (fun z hz => by injection hz with hz; omega), by have := hg5.size; simp at this; omega, fun z hz hne => (hg5.block z (by simp; omega) (fun e => hne (by injection e))).trans ((Below.heap_alloc _ _ z (by omega)).trans (hkeep z hz hne)), HD3.out⟩, by simp [intOf]; omega⟩
        · have hgo2 := hgo.out
          rw [drop_end hlt3] at hgo2
          have hqe : q = aa.length := by omega
          go_wp2_with fail
          go_roundw
          case rel =>
            refine ⟨j + 1, by omega, by go_num, m', hmr', by omega, hby, by omega, ?_⟩
            show _ = _
            rw [HD.out, hgo2]
            rfl
          case measure => simp [intOf]; omega
    · have hge := hg.out
      rw [drop_end hlt2] at hge
      have hge : initR [] l = m := hge
      go_wp2_with fail
      have hik := init_keys l
      have hin := init_in l
      rw [hge] at hik hin
      have hh0 := heads_in l
      rw [hge] at hh0
      have hlen0 : m.length = (keysK m).length := len_keys m
      obtain ⟨ks, hks⟩ : ∃ ks, ks = keysK m := ⟨_, rfl⟩
      rw [← hks] at hik hh0 hlen0
      have hks5 : ks.length ≤ 5 * 64 := by omega
      have hlv : levelsS l = lvGo l (lvFuel m) m := by unfold levelsS; rw [hge]
      have hfu : (m.length * m.length : Int) + 1 ≤ sumK m + lvFuel m := by
        have := (hin.sum).1
        unfold lvFuel
        rw [Int.natCast_add, Int.natCast_mul, Int.natCast_add, Int.mul_add]
        omega
      have HLV := Lib.hid hlv; have HIN := Lib.hid hin; have HKS := Lib.hid hks; have HFU := Lib.hid hfu; have HH0 := Lib.hid hh0; have HND := Lib.hid hik.1; have HM := Lib.hid hmr
      clear hlv hin hks hfu hh0 hik hg hge hmr
      go_loopg [9] (lvFuel m) (fun g av wx => ∃ again m', av = .bool again ∧ MapR wx mb m' ∧ Below w.heap.size w wx ∧ mb < wx.heap.size ∧ Hid (ks = keysK m') ∧ Hid (In m' m'.length) ∧ Hid (levelsS l = if again then lvGo l g m' else some m') ∧ Hid (again = true → (m'.length * m'.length : Int) + 1 ≤ sumK m' + g))
      case atStart => exact ⟨true, m, rfl, HM.out, hbx, hszx, HKS, HIN, HLV, fun _ => HFU.out⟩
      case round =>
        obtain ⟨again, m1, rfl, hm1, hb1, hsz1, HK1, HI1, HL1, HF1⟩ := hrel
        have HM1 := Lib.hid hm1; clear hm1
        cases again
        · go_wp2_with fail
          go_ret2
          exact ⟨hb1, .inr ⟨m1, mb, HL1.out, rfl, HM1.out, hmbl⟩⟩
        · have hg1 : 1 ≤ gk := by
            have h1 := HF1.out rfl
            have h2 := (HI1.out.sum).2
            omega
          obtain ⟨f, rfl⟩ : ∃ f, gk = f + 1 := ⟨gk - 1, by omega⟩
          have hl1 := HL1.out
          rw [if_pos rfl, lvGo] at hl1
          have HLR := Lib.hid hl1; clear hl1
          have HC0 : Hid (lvR m1 false l = lvR m1 false (l.drop 0)) := rfl
          go_wp2_with fail
          go_loopw [9, 37] (fun av i wx => ∃ k : Nat, k ≤ l.length ∧ i = .int .i64 k ∧ ∃ ag mC, av = .bool ag ∧ MapR wx mb mC ∧ Below w.heap.size w wx ∧ mb < wx.heap.size ∧ Hid (ks = keysK mC) ∧ Hid (In mC mC.length) ∧ Hid (lvR m1 false l = lvR mC ag (l.drop k))) (fun _ i _ => l.length - (intOf i).toNat)
          case atStart => exact ⟨0, by omega, rfl, false, m1, rfl, HM1.out, hb1, hsz1, HK1, HI1, HC0⟩
          case round =>
            obtain ⟨k, hk, rfl, ag, mC, rfl, hmC, hbC, hszC, HKC, HIC, HCC⟩ := hrel
            by_cases hlt3 : k < l.length
            · obtain ⟨b, o, rfl, -, hbs, A1, n1, c1, A2, n2, c2, h1, h2, h3, hs1, hs2⟩ := (HL.out.below hbC).rul hlt3
              have hd := HCC.out
              rw [drop_get hlt3, lvR] at hd
              have hok := HO.out _ (List.getElem_mem hlt3)
              have hhm := HH0.out _ (List.getElem_mem hlt3)
              generalize l[k] = x at *
              have hn2 := hs2.len
              subst hn2
              have hle2 := hs2.le
              have hnmx := hok.1.1
              have hokb := hok.2
              obtain ⟨⟨xnm, xargs⟩, body⟩ := x
              simp only at h1 h2 h3 hs1 hs2 hd hhm hnmx hokb hle2
              have HD := Lib.hid hd; have HS2 := Lib.hid hs2; have HMC := Lib.hid hmC; have HHM := Lib.hid hhm; have HOKB := Lib.hid hokb
              clear hd hs1 hs2 hmC hhm hok hokb
              have HX0 : Hid (lvX xnm mC ag body = lvX xnm mC ag (body.drop 0)) := rfl
              obtain ⟨wo, rfl⟩ : ∃ wo, wo = wr := ⟨_, rfl⟩
              have hwo := hbC.size
              have hxks := HHM.out
              go_wp2_with fail
              go_loopw [9, 44] (fun av i wy => ∃ q : Nat, q ≤ body.length ∧ i = .int .i64 q ∧ ∃ ag2 m2, av = .bool ag2 ∧ MapR wy mb m2 ∧ Below w.heap.size w wy ∧ wo.heap.size < wy.heap.size ∧ Hid (ks = keysK m2) ∧ Hid (In m2 m2.length) ∧ (∀ z, z < wo.heap.size + 1 → z ≠ mb → wy.heap[z]? = (wo.alloc (.cells #[.string ⟨xnm.toArray⟩, .slice A1 n1 c1, .slice A2 body.length c2] 34)).heap[z]?) ∧ Hid (lvX xnm mC ag body = lvX xnm m2 ag2 (body.drop q))) (fun _ i _ => body.length - (intOf i).toNat)
              case atStart => exact ⟨0, by omega, rfl, ag, mC, rfl, HMC.out.alloc _, hbC.alloc hbC.size _, by simp, HKC, HIC, fun _ _ _ => rfl, HX0⟩
              case round =>
                obtain ⟨q, hq, rfl, ag2, m2, rfl, hm2, hb2, hszo, HK2, HI2, hkp, HX⟩ := hrel
                have hw2 := hb2.size
                by_cases hltq : q < body.length
                · obtain ⟨b3, o3, rfl, -, hbs3, A5, n5, c5, k0, k1, k2, k3, -⟩ := ((HS2.out.alloc (.cells #[.string ⟨xnm.toArray⟩, .slice A1 n1 c1, .slice A2 body.length c2] 34)).keep (w' := wr) (fun z hz hs => hkp z (by simpa using hz) (by omega))).ltl hltq
                  have hd3 := HX.out
                  rw [drop_get hltq, lvX] at hd3
                  have hokx := HOKB.out _ (List.getElem_mem hltq)
                  generalize body[q] = x at *
                  have hcm := fun w => compares_any x A5 n5 c5 w
                  generalize compsS x = cb at *
                  obtain ⟨neg, op, ⟨ynm, yargs⟩⟩ := x
                  simp only at k0 k1 k2 k3 hd3 hokx hcm
                  have hynm := hokx.2.1
                  simp only at hynm
                  have hlen2 : ks.length = m2.length := by rw [HK2.out, ← len_keys]
                  have hgy := HI2.out.get ynm
                  have hgx := HI2.out.get xnm
                  have hset : ∀ v, (setK m2 xnm v).length = m2.length := fun v => set_len m2 xnm v (HK2.out ▸ hxks)
                  have hks2 : ∀ v, ks = keysK (setK m2 xnm v) := fun v => by rw [keys_set, if_pos (HK2.out ▸ hxks)]; exact HK2.out
                  have hin2 : ∀ v, 0 ≤ v → v ≤ (m2.length : Int) → In (setK m2 xnm v) (setK m2 xnm v).length := fun v h0 h1 => by rw [hset]; exact HI2.out.set xnm v h0 h1
                  have e0 : wr.cell? ⟨wo.heap.size, 0, none⟩ = some (.string ⟨xnm.toArray⟩) := (World.cell?_of_block (hkp _ (by simp) (by simp; omega))).trans ((cell_blk (blkAt wo _ rfl) 0).trans rfl)
                  have hkp2 : ∀ w1, Below (wr.heap.size + 1) (wr.alloc (.cells #[.bool neg, .string ⟨op.toArray⟩, .string ⟨ynm.toArray⟩, .slice A5 n5 c5] 60)) w1 → ∀ z, z < wo.heap.size + 1 → z ≠ mb → w1.heap[z]? = (wo.alloc (.cells #[.string ⟨xnm.toArray⟩, .slice A1 n1 c1, .slice (some ⟨b3, o3, none⟩) body.length c2] 34)).heap[z]? := fun w1 hb z hz hne => (hb.block z (by omega)).trans ((Below.heap_alloc _ _ z (by omega)).trans (hkp z hz hne))
                  have HD3 := Lib.hid hd3; have HM2 := Lib.hid hm2; have HC := Lib.hid hcm; have HSET := Lib.hid hset; have HKS2 := Lib.hid hks2; have HIN2 := Lib.hid hin2; have HKP2 := Lib.hid hkp2; have HB2 := Lib.hid hb2
                  clear hd3 hm2 hcm hset hks2 hin2 hkp2 hb2 HX hkp hokx
                  cases cb
                  · cases neg
                    · go_wp2_with (first | (go_at_call 115; refine (HC.out _).mono ?_; rintro e w1 ⟨rfl, hb1⟩; have g0 : w1.cell? ⟨wr.heap.size, 0, none⟩ = some (.bool false) := cell_later hb1 ((cell_blk (blkAt wr _ rfl) 0).trans rfl); have g2 : w1.cell? ⟨wr.heap.size, 2, none⟩ = some (.string ⟨ynm.toArray⟩) := cell_later hb1 ((cell_blk (blkAt wr _ rfl) 2).trans rfl); have g5 : w1.cell? ⟨wo.heap.size, 0, none⟩ = some (.string ⟨xnm.toArray⟩) := cell_later hb1 (cell_alloc' e0 _); have HM3 := Lib.hid ((HM2.out.alloc (.cells #[.bool false, .string ⟨op.toArray⟩, .string ⟨ynm.toArray⟩, .slice A5 n5 c5] 60)).below hb1); have HB1 := Lib.hid hb1; clear hb1) | (at_lookup; refine wpList_lookK rfl _ _ rfl rfl ynm rfl HM3.out hynm ?_) | (at_lookup; refine wpList_lookK rfl _ _ rfl rfl xnm rfl HM3.out hnmx ?_) | (at_mapUpdate; refine wpList_updK rfl _ _ _ rfl rfl xnm rfl _ rfl HM3.out hnmx ⟨by omega, by omega⟩ (by omega) ?_; intro w5 hm5 hg5; have HM5 := Lib.hid hm5; have HG5 := Lib.hid hg5; clear hm5 hg5) | (with_reducible refine wpList_lenK rfl (.tmp 72) rfl rfl HM5.out ?_) | (with_reducible refine wpList_lenK rfl (.tmp 72) rfl rfl HM3.out ?_))
                      · rename_i q1 q2
                        have hl9 := HSET.out (getV m2 ynm)
                        omega
                      · rename_i q1 q2
                        have hb1 := HB1.out
                        have hs1 := hb1.size
                        simp at hs1
                        have hb10 : Below w.heap.size w w1 := (HB2.out.alloc hw2 _).trans (hb1.mono (by simp; omega))
                        have hk1 := HKP2.out w1 (hb1.mono (by simp))
                        have h3 := HD3.out
                        simp only [Bool.false_eq_true, if_false, if_true, Int.add_zero] at h3
                        have hl9 := HSET.out (getV m2 ynm)
                        have hs5 := HG5.out.size
                        rw [if_pos q1] at h3
                        simp only at h3
                        rw [if_neg (by omega)] at h3
                        exact ⟨⟨q + 1, by omega, by go_num, true, setK m2 xnm (getV m2 ynm), rfl, HM5.out, hb10.grown HG5.out (by omega) (fun z hz => by injection hz with hz; omega), by omega, HKS2.out _, HIN2.out _ (by omega) (by omega), fun z hz hne => (HG5.out.block z (by omega) (fun e => hne (by injection e))).trans (hk1 z hz hne), h3⟩, by simp [intOf]; omega⟩
                      · rename_i q1 q2
                        have hb1 := HB1.out
                        have hs1 := hb1.size
                        simp at hs1
                        have hb10 : Below w.heap.size w w1 := (HB2.out.alloc hw2 _).trans (hb1.mono (by simp; omega))
                        have hk1 := HKP2.out w1 (hb1.mono (by simp))
                        have h3 := HD3.out
                        simp only [Bool.false_eq_true, if_false, if_true, Int.add_zero] at h3
                        rw [if_neg (show ¬ (getV m2 xnm < getV m2 ynm) by omega)] at h3
                        simp only at h3
                        rw [if_neg (by omega)] at h3
                        exact ⟨⟨q + 1, by omega, by go_num, ag2, m2, rfl, HM3.out, hb10, by omega, HK2, HI2, hk1, h3⟩, by simp [intOf]; omega⟩
                    · go_wp2_with (first | (go_at_call 115; refine (HC.out _).mono ?_; rintro e w1 ⟨rfl, hb1⟩; have g0 : w1.cell? ⟨wr.heap.size, 0, none⟩ = some (.bool true) := cell_later hb1 ((cell_blk (blkAt wr _ rfl) 0).trans rfl); have g2 : w1.cell? ⟨wr.heap.size, 2, none⟩ = some (.string ⟨ynm.toArray⟩) := cell_later hb1 ((cell_blk (blkAt wr _ rfl) 2).trans rfl); have g5 : w1.cell? ⟨wo.heap.size, 0, none⟩ = some (.string ⟨xnm.toArray⟩) := cell_later hb1 (cell_alloc' e0 _); have HM3 := Lib.hid ((HM2.out.alloc (.cells #[.bool true, .string ⟨op.toArray⟩, .string ⟨ynm.toArray⟩, .slice A5 n5 c5] 60)).below hb1); have HB1 := Lib.hid hb1; clear hb1) | (at_lookup; refine wpList_lookK rfl _ _ rfl rfl ynm rfl HM3.out hynm ?_) | (at_lookup; refine wpList_lookK rfl _ _ rfl rfl xnm rfl HM3.out hnmx ?_) | (at_mapUpdate; refine wpList_updK rfl _ _ _ rfl rfl xnm rfl _ rfl HM3.out hnmx ⟨by omega, by omega⟩ (by omega) ?_; intro w5 hm5 hg5; have HM5 := Lib.hid hm5; have HG5 := Lib.hid hg5; clear hm5 hg5) | (with_reducible refine wpList_lenK rfl (.tmp 72) rfl rfl HM5.out ?_) | (with_reducible refine wpList_lenK rfl (.tmp 72) rfl rfl HM3.out ?_))
                      · rename_i q1 q2
                        have hb1 := HB1.out
                        have hs1 := hb1.size
                        simp at hs1
                        have hb10 : Below w.heap.size w w1 := (HB2.out.alloc hw2 _).trans (hb1.mono (by simp; omega))
                        have hk1 := HKP2.out w1 (hb1.mono (by simp))
                        have h3 := HD3.out
                        simp only [Bool.false_eq_true, if_false, if_true, Int.add_zero] at h3
                        have hs5 := HG5.out.size
                        rw [if_pos q1] at h3
                        simp only at h3
                        rw [if_pos q2] at h3
                        go_ret2
                        refine ⟨hb10.grown HG5.out (by omega) (fun z hz => by injection hz with hz; omega), .inl ⟨?_, rfl⟩⟩
                        have h9 := HLR.out
                        have h8 := HCC.out
                        first | rw [h8, HD.out, h3] at h9 | rw [HD.out, h3] at h9
                        exact h9
                      · rename_i q1 q2
                        have hb1 := HB1.out
                        have hs1 := hb1.size
                        simp at hs1
                        have hb10 : Below w.heap.size w w1 := (HB2.out.alloc hw2 _).trans (hb1.mono (by simp; omega))
                        have hk1 := HKP2.out w1 (hb1.mono (by simp))
                        have h3 := HD3.out
                        simp only [Bool.false_eq_true, if_false, if_true, Int.add_zero] at h3
                        have hl9 := HSET.out (getV m2 ynm + 1)
                        have hs5 := HG5.out.size
                        rw [if_pos q1] at h3
                        simp only at h3
                        rw [if_neg (by omega)] at h3
                        exact ⟨⟨q + 1, by omega, by go_num, true, setK m2 xnm (getV m2 ynm + 1), rfl, HM5.out, hb10.grown HG5.out (by omega) (fun z hz => by injection hz with hz; omega), by omega, HKS2.out _, HIN2.out _ (by omega) (by omega), fun z hz hne => (HG5.out.block z (by omega) (fun e => hne (by injection e))).trans (hk1 z hz hne), h3⟩, by simp [intOf]; omega⟩
                      · rename_i q1 q2
                        have hb1 := HB1.out
                        have hs1 := hb1.size
                        simp at hs1
                        have hb10 : Below w.heap.size w w1 := (HB2.out.alloc hw2 _).trans (hb1.mono (by simp; omega))
                        have hk1 := HKP2.out w1 (hb1.mono (by simp))
                        have h3 := HD3.out
                        simp only [Bool.false_eq_true, if_false, if_true, Int.add_zero] at h3
                        rw [if_neg (show ¬ (getV m2 xnm < getV m2 ynm + 1) by omega)] at h3
                        simp only at h3
                        rw [if_neg (by omega)] at h3
                        exact ⟨⟨q + 1, by omega, by go_num, ag2, m2, rfl, HM3.out, hb10, by omega, HK2, HI2, hk1, h3⟩, by simp [intOf]; omega⟩
                  · go_wp2_with (first | (go_at_call 115; refine (HC.out _).mono ?_; rintro e w1 ⟨rfl, hb1⟩; have g0 : w1.cell? ⟨wr.heap.size, 0, none⟩ = some (.bool neg) := cell_later hb1 ((cell_blk (blkAt wr _ rfl) 0).trans rfl); have g2 : w1.cell? ⟨wr.heap.size, 2, none⟩ = some (.string ⟨ynm.toArray⟩) := cell_later hb1 ((cell_blk (blkAt wr _ rfl) 2).trans rfl); have g5 : w1.cell? ⟨wo.heap.size, 0, none⟩ = some (.string ⟨xnm.toArray⟩) := cell_later hb1 (cell_alloc' e0 _); have HM3 := Lib.hid ((HM2.out.alloc (.cells #[.bool neg, .string ⟨op.toArray⟩, .string ⟨ynm.toArray⟩, .slice A5 n5 c5] 60)).below hb1); have HB1 := Lib.hid hb1; clear hb1) | (at_lookup; refine wpList_lookK rfl _ _ rfl rfl ynm rfl HM3.out hynm ?_) | (at_lookup; refine wpList_lookK rfl _ _ rfl rfl xnm rfl HM3.out hnmx ?_) | (at_mapUpdate; refine wpList_updK rfl _ _ _ rfl rfl xnm rfl _ rfl HM3.out hnmx ⟨by omega, by omega⟩ (by omega) ?_; intro w5 hm5 hg5; have HM5 := Lib.hid hm5; have HG5 := Lib.hid hg5; clear hm5 hg5) | (with_reducible refine wpList_lenK rfl (.tmp 72) rfl rfl HM5.out ?_) | (with_reducible refine wpList_lenK rfl (.tmp 72) rfl rfl HM3.out ?_))
                    have hb1 := HB1.out
                    have hs1 := hb1.size
                    simp at hs1
                    have hb10 : Below w.heap.size w w1 := (HB2.out.alloc hw2 _).trans (hb1.mono (by simp; omega))
                    have hk1 := HKP2.out w1 (hb1.mono (by simp))
                    have h3 := HD3.out
                    simp only [if_true] at h3
                    exact ⟨⟨q + 1, by omega, by go_num, ag2, m2, rfl, HM3.out, hb10, by omega, HK2, HI2, hk1, h3⟩, by simp [intOf]; omega⟩
                · have hx := HX.out
                  rw [drop_end hltq] at hx
                  have hx : lvX xnm mC ag body = some (m2, ag2) := hx
                  have hd := HD.out
                  rw [hx] at hd
                  have HD4 := Lib.hid hd
                  clear hd hx
                  go_wp2_with fail
                  go_roundw
                  case rel => exact ⟨k + 1, by omega, by go_num, ag2, m2, rfl, hm2, hb2, by omega, HK2, HI2, HD4.out⟩
                  case measure => simp [intOf]; omega
            · have hd := HCC.out
              rw [drop_end hlt3] at hd
              have hd : lvR m1 false l = some (mC, ag) := hd
              have hli := lvR_in l m1 false mC ag (HK1.out ▸ HND.out) (fun r hr => HK1.out ▸ HH0.out r hr) HI1.out hd
              have hlr := HLR.out
              rw [hd] at hlr
              have hlr : levelsS l = if ag then lvGo l f mC else some mC := hlr
              have hsum : ag = true → (mC.length * mC.length : Int) + 1 ≤ sumK mC + f := by
                intro ha
                have h1 := HF1.out trivial
                have h2 := hli.2.2.2 rfl ha
                have h3 : mC.length = m1.length := by rw [len_keys, hli.1, ← len_keys]
                rw [h3]
                omega
              have HLR2 := Lib.hid hlr; have HSUM := Lib.hid hsum
              clear hd hli hlr hsum
              go_wp2_with fail
              go_roundg f
              case measure => omega
              case rel => exact ⟨ag, mC, rfl, hmC, hbC, hszC, HKC, HIC, HLR2, HSUM⟩
end Go.Proofs.YtkjoaodoioicpaaGreatDoor
namespace Go.Proofs
open Go.Shelf
def Tryz.keys89_ren : Go.Shelf.Ren := ⟨fun | 7 => 89 | 10 => 118 | n => n, fun | 23 => 94 | 26 => 9 | 3 => 3 | 28 => 141 | 0 => 0 | 27 => 140 | 33 => 73 | 4 => 4 | n => n, fun | n => n⟩
theorem Tryz.keys89 : Go.Proofs.SlLaysZ.n7 Tryz.prog Tryz.keys89_ren := {
  mixed := by kernel_rfl
  f7 := ⟨Tryz.f89.name, by decide, Tryz.func89.trans (congrArg some (by kernel_rfl))⟩
  f10 := ⟨Tryz.f118.name, by decide, Tryz.func118.trans (congrArg some (by kernel_rfl))⟩
  t0 := Tryz.underlying0
  a0 := Tryz.isAgg0
  z0 := Tryz.sizeOf0
  v0 := Tryz.zeroValue0
  t4 := Tryz.underlying4
  a4 := Tryz.isAgg4
  z4 := Tryz.sizeOf4
  v4 := Tryz.zeroValue4
  t23 := Tryz.underlying94
  a23 := Tryz.isAgg94
  z23 := Tryz.sizeOf94
  v23 := Tryz.zeroValue94
  t26 := Tryz.underlying9
  a26 := Tryz.isAgg9
  z26 := Tryz.sizeOf9
  v26 := Tryz.zeroValue9
  t27 := Tryz.underlying140
  a27 := Tryz.isAgg140
  z27 := Tryz.sizeOf140
  v27 := Tryz.zeroValue140
  t28 := Tryz.underlying141
  a28 := Tryz.isAgg141
  z28 := Tryz.sizeOf141
  v28 := Tryz.zeroValue141
  t33 := Tryz.underlying73
  a33 := Tryz.isAgg73
  z33 := Tryz.sizeOf73
  v33 := Tryz.zeroValue73 }
def Tryz.sorted88_ren : Go.Shelf.Ren := ⟨fun | 6 => 88 | 8 => 116 | 9 => 117 | 11 => 144 | 13 => 94 | 12 => 145 | 23 => 127 | 24 => 128 | 14 => 170 | 15 => 171 | 16 => 172 | 17 => 173 | 18 => 174 | 19 => 175 | 20 => 176 | 21 => 177 | 22 => 178 | 25 => 188 | 26 => 147 | 27 => 148 | 28 => 189 | 29 => 190 | 30 => 129 | 31 => 198 | n => n, fun | 26 => 9 | 28 => 141 | 24 => 71 | 0 => 0 | 3 => 3 | 37 => 147 | 48 => 168 | 50 => 170 | 4 => 4 | 40 => 162 | 39 => 161 | 45 => 136 | 5 => 5 | 9 => 9 | 51 => 181 | 55 => 185 | 57 => 207 | 58 => 208 | 33 => 73 | n => n, fun | n => n⟩
theorem Tryz.sorted88 : Go.Proofs.SlLaysZ.n6 Tryz.prog Tryz.sorted88_ren := {
  mixed := by kernel_rfl
  f6 := ⟨Tryz.f88.name, by decide, Tryz.func88.trans (congrArg some (by kernel_rfl))⟩
  f8 := ⟨Tryz.f116.name, by decide, Tryz.func116.trans (congrArg some (by kernel_rfl))⟩
  f11 := ⟨Tryz.f144.name, by decide, Tryz.func144.trans (congrArg some (by kernel_rfl))⟩
  t0 := Tryz.underlying0
  a0 := Tryz.isAgg0
  z0 := Tryz.sizeOf0
  v0 := Tryz.zeroValue0
  t24 := Tryz.underlying71
  a24 := Tryz.isAgg71
  z24 := Tryz.sizeOf71
  v24 := Tryz.zeroValue71
  t26 := Tryz.underlying9
  a26 := Tryz.isAgg9
  z26 := Tryz.sizeOf9
  v26 := Tryz.zeroValue9
  t28 := Tryz.underlying141
  a28 := Tryz.isAgg141
  z28 := Tryz.sizeOf141
  v28 := Tryz.zeroValue141
  i26 := by kernel_rfl }
def Tryz.sort117_ren : Go.Shelf.Ren := ⟨fun | 6 => 117 | 8 => 94 | 9 => 145 | 19 => 127 | 20 => 128 | 21 => 170 | 22 => 171 | 23 => 172 | 24 => 173 | 25 => 174 | 26 => 175 | 27 => 176 | 28 => 177 | 29 => 178 | 36 => 188 | 31 => 147 | 32 => 148 | 37 => 189 | 38 => 190 | 39 => 129 | 41 => 198 | n => n, fun | 27 => 71 | 29 => 9 | 3 => 3 | 32 => 147 | 26 => 71 | 0 => 0 | 44 => 168 | 46 => 170 | 4 => 4 | 36 => 162 | 35 => 161 | 41 => 136 | 5 => 5 | 9 => 9 | 53 => 181 | 57 => 185 | 63 => 207 | 64 => 208 | n => n, fun | n => n⟩
theorem Tryz.sort117 : Go.Proofs.SlLaysM.n6 Tryz.prog Tryz.sort117_ren := {
  mixed := by kernel_rfl
  f6 := ⟨Tryz.f117.name, by decide, Tryz.func117.trans (congrArg some (by kernel_rfl))⟩
  f8 := Tryz.func94.trans (congrArg some (by kernel_rfl))
  f9 := ⟨Tryz.f145.name, by decide, Tryz.func145.trans (congrArg some (by kernel_rfl))⟩
  f19 := Tryz.func127.trans (congrArg some (by kernel_rfl))
  f20 := Tryz.func128.trans (congrArg some (by kernel_rfl))
  f21 := ⟨Tryz.f170.name, by decide, Tryz.func170.trans (congrArg some (by kernel_rfl))⟩
  f22 := ⟨Tryz.f171.name, by decide, Tryz.func171.trans (congrArg some (by kernel_rfl))⟩
  f23 := ⟨Tryz.f172.name, by decide, Tryz.func172.trans (congrArg some (by kernel_rfl))⟩
  f24 := ⟨Tryz.f173.name, by decide, Tryz.func173.trans (congrArg some (by kernel_rfl))⟩
  f25 := ⟨Tryz.f174.name, by decide, Tryz.func174.trans (congrArg some (by kernel_rfl))⟩
  f26 := ⟨Tryz.f175.name, by decide, Tryz.func175.trans (congrArg some (by kernel_rfl))⟩
  f27 := ⟨Tryz.f176.name, by decide, Tryz.func176.trans (congrArg some (by kernel_rfl))⟩
  f28 := ⟨Tryz.f177.name, by decide, Tryz.func177.trans (congrArg some (by kernel_rfl))⟩
  f29 := ⟨Tryz.f178.name, by decide, Tryz.func178.trans (congrArg some (by kernel_rfl))⟩
  f31 := Tryz.func147.trans (congrArg some (by kernel_rfl))
  f32 := Tryz.func148.trans (congrArg some (by kernel_rfl))
  f36 := ⟨Tryz.f188.name, by decide, Tryz.func188.trans (congrArg some (by kernel_rfl))⟩
  f37 := ⟨Tryz.f189.name, by decide, Tryz.func189.trans (congrArg some (by kernel_rfl))⟩
  f38 := ⟨Tryz.f190.name, by decide, Tryz.func190.trans (congrArg some (by kernel_rfl))⟩
  f39 := ⟨Tryz.f129.name, by decide, Tryz.func129.trans (congrArg some (by kernel_rfl))⟩
  f41 := ⟨Tryz.f198.name, by decide, Tryz.func198.trans (congrArg some (by kernel_rfl))⟩
  t0 := Tryz.underlying0
  a0 := Tryz.isAgg0
  z0 := Tryz.sizeOf0
  v0 := Tryz.zeroValue0
  t3 := Tryz.underlying3
  a3 := Tryz.isAgg3
  z3 := Tryz.sizeOf3
  v3 := Tryz.zeroValue3
  t4 := Tryz.underlying4
  a4 := Tryz.isAgg4
  z4 := Tryz.sizeOf4
  v4 := Tryz.zeroValue4
  t5 := Tryz.underlying5
  a5 := Tryz.isAgg5
  z5 := Tryz.sizeOf5
  v5 := Tryz.zeroValue5
  t9 := Tryz.underlying9
  a9 := Tryz.isAgg9
  z9 := Tryz.sizeOf9
  v9 := Tryz.zeroValue9
  t26 := Tryz.underlying71
  a26 := Tryz.isAgg71
  z26 := Tryz.sizeOf71
  v26 := Tryz.zeroValue71
  t27 := Tryz.underlying71
  a27 := Tryz.isAgg71
  z27 := Tryz.sizeOf71
  v27 := Tryz.zeroValue71
  t29 := Tryz.underlying9
  a29 := Tryz.isAgg9
  z29 := Tryz.sizeOf9
  v29 := Tryz.zeroValue9
  t32 := Tryz.underlying147
  a32 := Tryz.isAgg147
  z32 := Tryz.sizeOf147
  v32 := Tryz.zeroValue147
  t35 := Tryz.underlying161
  a35 := Tryz.isAgg161
  z35 := Tryz.sizeOf161
  v35 := Tryz.zeroValue161
  t36 := Tryz.underlying162
  a36 := Tryz.isAgg162
  z36 := Tryz.sizeOf162
  v36 := Tryz.zeroValue162
  t41 := Tryz.underlying136
  a41 := Tryz.isAgg136
  z41 := Tryz.sizeOf136
  v41 := Tryz.zeroValue136
  t44 := Tryz.underlying168
  a44 := Tryz.isAgg168
  z44 := Tryz.sizeOf168
  v44 := Tryz.zeroValue168
  t46 := Tryz.underlying170
  a46 := Tryz.isAgg170
  z46 := Tryz.sizeOf170
  v46 := Tryz.zeroValue170
  t53 := Tryz.underlying181
  a53 := Tryz.isAgg181
  z53 := Tryz.sizeOf181
  v53 := Tryz.zeroValue181
  t57 := Tryz.underlying185
  a57 := Tryz.isAgg185
  z57 := Tryz.sizeOf185
  v57 := Tryz.zeroValue185
  t63 := Tryz.underlying207
  a63 := Tryz.isAgg207
  z63 := Tryz.sizeOf207
  v63 := Tryz.zeroValue207
  t64 := Tryz.underlying208
  a64 := Tryz.isAgg208
  z64 := Tryz.sizeOf208
  v64 := Tryz.zeroValue208 }
open Go.RowKit Go.Maps Go.Sort in
theorem Tryz.sorts88 (m : Nat) : AnyZ.SortsIn Tryz.prog Tryz.sorted88_ren Fence.wide m :=
  ⟨fun blk off cap ss W hH hblk hsz => callsIn_wide.2 (AnyM.slices_Sort_string Tryz.sort117 blk off cap ss W hH hblk hsz),
   fun p cap W => callsIn_wide.2 (AnyM.slices_Sort_string_none Tryz.sort117 p cap W)⟩
open Go.RowKit Go.Maps Go.Sort in
theorem Tryz.maps_Keys_89 (mb : Option Nat) (W : World) : CallsIn Fence.wide 5 Tryz.prog 89 #[.map mb] W fun e w' => e = .returned (.func (.func 118) #[] #[.pointer (some ⟨W.heap.size, 0, none⟩)]) ∧ w' = W.alloc (.cells #[.map mb] 94) :=
  AnyZ.keys_in Tryz.keys89 Fence.wide 5 trivial rfl mb W
open Go.RowKit Go.Maps Go.Sort in
theorem Tryz.slices_Sorted_keys_88_89 {H : Type} (b nn : Nat) (D0 : DataW H) (R : Value → Option (DataW H × List MemPlace)) (w : World) (hown : w.ownsMap Tryz.prog 9 R b nn D0) (hmax : Maps.size D0 ≤ maxLen) (hbytes : Maps.size D0 * 16 ≤ 140737488355328) :
    CallsIn Fence.wide 5 Tryz.prog 88 #[.func (.func 118) #[] #[.pointer (some ⟨w.heap.size, 0, none⟩)]] (w.alloc (.cells #[.map (some b)] 94)) fun e w' => ∃ (v : Value) (ss : List (List UInt8)), e = .returned v ∧ ss.Perm (strKeys D0) ∧
      w'.ownsRow (w.alloc (.cells #[.map (some b)] 94)).heap.size 9 1 v ss.length ((ss.mergeSort (fun x y => decide (x ≤ y))).map encStr) ∧ (v = .slice none 0 0 ↔ ss = []) ∧ Below (w.alloc (.cells #[.map (some b)] 94)).heap.size (w.alloc (.cells #[.map (some b)] 94)) w' := by
  have hbl := hown.lt
  have hseq : SeqGives Fence.wide 2 Tryz.prog 118 #[.pointer (some ⟨w.heap.size, 0, none⟩)] encStr (fun ss => ss.Perm (strKeys D0)) (Maps.size D0) (w.alloc (.cells #[.map (some b)] 94)) :=
    AnyZ.keys_gives (ρ := Tryz.keys89_ren) { Tryz.keys89 with } Fence.wide _ trivial rfl (by omega) w.heap.size b nn D0 _ (by simp) (by simp) (by
      obtain ⟨es, clock, hb, Ft, hs, hD⟩ := hown
      exact ⟨es, clock, (Below.heap_alloc _ _ b hbl).trans hb, Ft, hs, hD⟩)
  exact AnyZ.sorted_in Tryz.sorted88 Fence.wide 5 trivial trivial trivial trivial rfl (by omega) (Tryz.sorts88 _) (enters_of Tryz.func117 (by kernel_rfl) rfl) 118 #[.pointer (some ⟨w.heap.size, 0, none⟩)] trivial (enters_of Tryz.func118 (by kernel_rfl) rfl) _ _ hmax hbytes _ hseq
end Go.Proofs
