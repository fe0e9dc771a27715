/- A part of the proofs of the laws of one package; see the law's own text, which comes last in 'order'. No conditions of its own. -/
import Derived.Test.YtpeamehplhpcjaaGreatDoorZ10
set_option linter.unusedVariables false
set_option linter.unusedSimpArgs false
namespace Go.Proofs.YtpeamehplhpcjaaGreatDoor
open Go.RowKit
theorem less_ltS (a : Bs) : ∀ b : Bs, Op.bytesLess a b = ltS a b := by
  induction a with
  | nil => intro b; cases b <;> rfl
  | cons x r ih =>
    intro b
    cases b with
    | nil => rfl
    | cons y t =>
      show (decide (x < y) || (x == y && Op.bytesLess r t)) = if x = y then ltS r t else decide (x.toNat < y.toNat)
      rw [ih t]
      have hd : decide (x < y) = decide (x.toNat < y.toNat) := by rw [Bool.eq_iff_iff]; simp [UInt8.lt_iff_toNat_lt]
      rw [hd]
      by_cases h : x = y
      · subst h
        rw [if_pos rfl]
        simp
      · rw [if_neg h]
        simp [h]
set_option maxHeartbeats 400000 in
theorem below_any (p d : Bs) (w : World) (hd : d.length ≤ 4294967000) :
    Calls Tryz.prog 110 #[.string ⟨p.toArray⟩, .string ⟨d.toArray⟩] w fun e w' => e = .returned (.bool (underS p d)) ∧ w' = w := by
  have h := Tryz.strings_HasPrefix ⟨p.toArray⟩ ⟨(d ++ [47]).toArray⟩ w
  have h1 : Lib.hasPrefix (⟨p.toArray⟩ : ByteArray).data.toList (⟨(d ++ [47]).toArray⟩ : ByteArray).data.toList = underS p d := by simp [underS, Lib.hasPrefix]
  rw [h1] at h
  generalize underS p d = v at *
  have H := Lib.hid h
  have hl : ¬ (9223372036854775807 < d.length + 1) := by omega
  clear h h1
  go_enter Tryz.func110, Tryz.ntmps110
  go_wp2_with fail
  refine H.out.mono ?_
  rintro e w0 ⟨rfl, rfl⟩
  go_wp2_with fail
  go_ret
  exact ⟨rfl, by first | rfl | trivial⟩
set_option maxHeartbeats 400000 in
theorem check1_any (f : Fil) (p d : Bs) (g : Nat) (w : World) (hg : w.heap[g]? = some (.cells #[.string ⟨p.toArray⟩, .string ⟨d.toArray⟩] 73 (0, 0))) (hf : f.path.length ≤ 4294967000) :
    Calls Tryz.prog 109 #[.agg #[.string ⟨f.path.toArray⟩, .string ⟨f.data.toArray⟩], .pointer (some ⟨g, 0, none⟩)] w fun e w' => e = .returned (.bool (underS p f.path)) ∧ Below w.heap.size w w' := by
  have h1 := (cell_blk (blkOld hg (.cells #[.string ⟨f.path.toArray⟩, .string ⟨f.data.toArray⟩] 73 (0, 0))) 0).trans rfl
  have HB := Lib.hid (fun w => below_any p f.path w hf)
  clear hg
  go_enter Tryz.func109, Tryz.ntmps109
  go_wp2_with fail
  refine (HB.out _).mono ?_
  rintro e w0 ⟨rfl, rfl⟩
  go_wp2_with fail
  go_ret
  exact ⟨rfl, by ((repeat (first | (with_reducible exact Below.refl _ _) | (with_reducible refine belowA ?_ _) | (with_reducible refine belowD ?_) | (with_reducible refine belowS ?_ (Nat.le_refl _) _ _) | (with_reducible refine next ?_ (by assumption) (Nat.le_refl _)))); done)⟩
def ordB (l : List Fil) (p : Bs) : Bool := match l.getLast? with | some g => !ltS g.path p | none => false
theorem checkT_cons (l : List Fil) (f : Fil) (r : List Fil) : checkT l (f :: r) = if !pathS f.path then 2 else if 65536 < f.data.length then 10 else if ordB l f.path then 5 else if l.any (fun g => underS f.path g.path) then 6 else checkT (l ++ [f]) r := by
  rw [checkT]
  rfl
theorem last_take {α : Type} (t : List α) (i : Nat) (h : i < t.length) : (t.take (i + 1)).getLast? = some t[i] := by
  rw [List.take_succ_eq_append_getElem h, List.getLast?_append]
  simp
set_option maxHeartbeats 4000000 in
theorem checkT_any (A : Option Addr) (n c : Nat) (w : World) (S : Nat → Prop) (t : List Fil) (hl : Sl w S A n c t) (hL : LS w) (hs : ∀ f ∈ t, f.path.length ≤ 4294967000) :
    Calls Tryz.prog 82 #[.slice A n c] w fun e w' => e = .returned (.int .i64 (treeS t)) ∧ Below w.heap.size w w' := by
  have hn := hl.len
  have hnc := hl.2.1
  have hlen := hl.le
  subst hn
  obtain ⟨v, hv⟩ : ∃ v, v = treeS t := ⟨_, rfl⟩
  rw [← hv]
  unfold treeS at hv
  have HS := Lib.hid hs; have HL := Lib.hid hL; have HSL := Lib.hid hl
  clear hs hL hl
  by_cases h64 : (64 : Int) < (t.length : Int)
  · rw [if_pos (by omega)] at hv
    subst hv
    go_enter Tryz.func82, Tryz.ntmps82
    go_wp2_with fail
    go_ret
    exact ⟨rfl, by ((repeat (first | (with_reducible exact Below.refl _ _) | (with_reducible refine belowA ?_ _) | (with_reducible refine belowD ?_) | (with_reducible refine belowS ?_ (Nat.le_refl _) _ _) | (with_reducible refine next ?_ (by assumption) (Nat.le_refl _)))); done)⟩
  · rw [if_neg (by omega)] at hv
    have Hf : Hid (v = checkT (t.take 0) (t.drop 0)) := Lib.hid hv
    clear hv
    go_enter Tryz.func82, Tryz.ntmps82
    go_wp2_with fail
    go_loopw [10] (fun i wr => ∃ j : Nat, j ≤ t.length ∧ i = .int .i64 j ∧ Below w.heap.size w wr ∧ Hid (v = checkT (t.take j) (t.drop j))) (fun i _ => t.length - (intOf i).toNat)
    case atStart => exact ⟨0, by omega, rfl, Below.refl _ _, Hf⟩
    case round =>
      obtain ⟨j, hj, rfl, hb, hf⟩ := hrel
      by_cases hlt : j < t.length
      · obtain ⟨b, o, rfl, -, hbs, c0, c1⟩ := (HSL.out.below hb).fil hlt
        have hd := hf.out
        rw [drop_get hlt, checkT_cons] at hd
        have htk : t.take j ++ [t[j]] = t.take (j + 1) := by rw [List.take_succ_eq_append_getElem hlt]
        rw [htk] at hd
        have hpl := HS.out _ (List.getElem_mem hlt)
        have hpa := fun w h => path_any t[j].path w h hpl
        have hsl := HSL.out.take (k := j) (by omega)
        have hany : ∀ g w1, Below w.heap.size w w1 → w1.heap[g]? = some (.cells #[.string ⟨t[j].path.toArray⟩, .string ⟨t[j].data.toArray⟩] 73 (0, 0)) → Calls Tryz.prog 30 #[.slice (some ⟨b, o, none⟩) j c, .func (.func 109) #[] #[.pointer (some ⟨g, 0, none⟩)]] w1 fun e w' => e = .returned (.bool ((t.take j).any fun g => underS t[j].path g.path)) ∧ Below w1.heap.size w1 w' :=
          fun g w1 hb1 hg => conF_any _ _ c w1 _ _ (hsl.below hb1) 109 #[.pointer (some ⟨g, 0, none⟩)] (fun _ _ => by kernel_rfl) (fun x => underS t[j].path x.path) (fun x hx w2 hb2 => check1_any x _ _ g w2 (keptBlk hb2 hg) (HS.out x (List.mem_of_mem_take hx)))
        generalize pathS t[j].path = q1 at *
        generalize ((t.take j).any fun g => underS t[j].path g.path) = q2 at *
        have HD := Lib.hid hd; have HPA := Lib.hid hpa; have HAN := Lib.hid hany; have HB := Lib.hid hb
        clear hd hpa hany hsl htk hf
        go_upto_region 6 with fail
        have hg : (wr.alloc (.cells #[.string ⟨t[j].path.toArray⟩, .string ⟨t[j].data.toArray⟩] 73)).heap[wr.heap.size]? = some (.cells #[.string ⟨t[j].path.toArray⟩, .string ⟨t[j].data.toArray⟩] 73 (0, 0)) := blkAt _ _ rfl
        have hB : Below w.heap.size w (wr.alloc (.cells #[.string ⟨t[j].path.toArray⟩, .string ⟨t[j].data.toArray⟩] 73)) := belowA hb _
        generalize (wr.alloc (.cells #[.string ⟨t[j].path.toArray⟩, .string ⟨t[j].data.toArray⟩] 73)) = W at *
        generalize wr.heap.size = gb at *
        have p0 := (cell_blk hg 0).trans rfl
        have HG := Lib.hid hg; have HBW := Lib.hid hB
        clear hg hB hb hbs c0 c1 Hf
        go_wp2_with fail
        refine (HPA.out W (HL.out.below HBW.out)).mono ?_
        rintro e w1 ⟨rfl, hb1⟩
        have HB1 := Lib.hid (HBW.out.trans (hb1.mono HBW.out.size))
        have HG1 := Lib.hid (keptBlk hb1 HG.out)
        clear p0 hb1 HPA HBW HG HB
        unfold errB
        cases q1 with
        | false =>
          have HD2 := Lib.hid (show v = 2 from HD.out)
          go_wp2_with fail
          go_ret
          exact ⟨ret_int HD2.out, HB1.out⟩
        | true =>
          have p1 := (cell_blk HG1.out 1).trans rfl
          have hd := HD.out
          rw [if_neg (by simp)] at hd
          by_cases h65 : (65536 : Int) < (t[j].data.length : Int)
          · rw [if_pos (by omega)] at hd
            have HD2 := Lib.hid hd
            clear hd HD
            go_wp2_with fail
            go_ret
            exact ⟨ret_int HD2.out, HB1.out⟩
          · rw [if_neg (by omega)] at hd
            obtain ⟨b5, hb5⟩ : ∃ b5, b5 = ordB (t.take j) t[j].path := ⟨_, rfl⟩
            rw [← hb5] at hd
            have HD2 := Lib.hid hd
            have HB5 := Lib.hid hb5
            clear hd HD hb5
            go_upto_region 10 with fail
            go_cut [25] from 26 to 38 (fun x wx => x = .bool b5 ∧ Below w.heap.size w wx ∧ wx.heap[gb]? = some (.cells #[.string ⟨t[j].path.toArray⟩, .string ⟨t[j].data.toArray⟩] 73 (0, 0)))
            case first =>
              cases j with
              | zero =>
                have hb5 : b5 = false := HB5.out
                subst hb5
                have HX := Lib.hid (fun (z : World) (hz : True) => hz)
                refine wpH_region (fun z => True) (by kernel_rfl) ?_
                have hS : True := trivial
                (refine tkW 0 (v := ?_) hS ?_ ?_; rotate_left; (focus (intro x hx; have fx := HX.out x hx; go_simp; (try with_reducible rfl); done)); (try simp only [Act.put, lsa, lsz, lss]))
                (refine tkW 1 (v := ?_) hS ?_ ?_; rotate_left; (focus (intro x hx; have fx := HX.out x hx; go_simp; (try with_reducible rfl); done)); (try simp only [Act.put, lsa, lsz, lss]))
                (refine tkW 2 (v := ?_) hS ?_ ?_; rotate_left; (focus (intro x hx; have fx := HX.out x hx; go_simp; (try with_reducible rfl); done)); (try simp only [Act.put, lsa, lsz, lss]))
                (refine tkU 3 hS ?_; (try simp only [Act.put, lsa, lsz, lss]))
                (refine tkU 4 hS ?_; (try simp only [Act.put, lsa, lsz, lss]))
                (refine tkU 5 hS ?_; (try simp only [Act.put, lsa, lsz, lss]))
                (refine tkU 6 hS ?_; (try simp only [Act.put, lsa, lsz, lss]))
                (refine tkU 7 hS ?_; (try simp only [Act.put, lsa, lsz, lss]))
                (refine tkU 8 hS ?_; (try simp only [Act.put, lsa, lsz, lss]))
                (refine tkU 9 hS ?_; (try simp only [Act.put, lsa, lsz, lss]))
                (refine tkU 10 hS ?_; (try simp only [Act.put, lsa, lsz, lss]))
                (refine tkU 11 hS ?_; (try simp only [Act.put, lsa, lsz, lss]))
                (refine tkW 12 (v := ?_) hS ?_ ?_; rotate_left; (focus (intro x hx; have fx := HX.out x hx; go_simp; (try with_reducible rfl); done)); (try simp only [Act.put, lsa, lsz, lss]))
                (refine wpAnyH_one 13 (by kernel_rfl) rfl ?_; intro K' hK'; go_simp; refine hK'.out _ _ trivial ?_; clear hK' K')
                refine wpAnyH_done (by kernel_rfl) ?_ _
                go_wp2_with fail
                go_meet
                exact ⟨rfl, HB1.out.drew, HG1.out⟩
              | succ i =>
                have hi : i < t.length := by omega
                obtain ⟨b8, o8, he, -, -, d0, -⟩ := (HSL.out.below HB1.out).fil hi
                cases he
                have hb5 : b5 = !ltS t[i].path t[i + 1].path := by rw [HB5.out]; unfold ordB; rw [last_take t i hi]
                have HX := Lib.hid (fun (z : World) (hz : z.cell? ⟨b, o + i * 2, none⟩ = some (.string ⟨t[i].path.toArray⟩) ∧ z.heap[gb]? = some (.cells #[.string ⟨t[i + 1].path.toArray⟩, .string ⟨t[i + 1].data.toArray⟩] 73 (0, 0))) => And.intro hz.1 ((cell_blk hz.2 0).trans rfl))
                refine wpH_region (fun z => z.cell? ⟨b, o + i * 2, none⟩ = some (.string ⟨t[i].path.toArray⟩) ∧ z.heap[gb]? = some (.cells #[.string ⟨t[i + 1].path.toArray⟩, .string ⟨t[i + 1].data.toArray⟩] 73 (0, 0))) (by kernel_rfl) ?_
                have hS : w1.drew.cell? ⟨b, o + i * 2, none⟩ = some (.string ⟨t[i].path.toArray⟩) ∧ w1.drew.heap[gb]? = some (.cells #[.string ⟨t[i + 1].path.toArray⟩, .string ⟨t[i + 1].data.toArray⟩] 73 (0, 0)) := ⟨d0, HG1.out⟩
                have hin : (i : Int) < (t.length : Int) := by omega
                have hwi : IntKind.i64.wrap (i : Int) = (i : Int) := IntWalk.i64_in _ (by omega)
                clear HAN HD2 HB5 hpl p1 d0
                (refine tkW 0 (v := ?_) hS ?_ ?_; rotate_left; (focus (intro x hx; have fx := HX.out x hx; go_simp; (try with_reducible rfl); done)); (try simp only [Act.put, lsa, lsz, lss]))
                (refine tkW 1 (v := ?_) hS ?_ ?_; rotate_left; (focus (intro x hx; have fx := HX.out x hx; go_simp; (try with_reducible rfl); done)); (try simp only [Act.put, lsa, lsz, lss]))
                (refine tkW 2 (v := ?_) hS ?_ ?_; rotate_left; (focus (intro x hx; have fx := HX.out x hx; go_simp; (try with_reducible rfl); done)); (try simp only [Act.put, lsa, lsz, lss]))
                (refine tkW 3 (v := ?_) hS ?_ ?_; rotate_left; (focus (intro x hx; have fx := HX.out x hx; go_simp; (try with_reducible rfl); done)); (try simp only [Act.put, lsa, lsz, lss]))
                (refine tkW 4 (v := ?_) hS ?_ ?_; rotate_left; (focus (intro x hx; have fx := HX.out x hx; go_simp; (try with_reducible rfl); done)); (try simp only [Act.put, lsa, lsz, lss]))
                (refine tkW 5 (v := ?_) hS ?_ ?_; rotate_left; (focus (intro x hx; have fx := HX.out x hx; go_simp; (try with_reducible rfl); done)); (try simp only [Act.put, lsa, lsz, lss]))
                (refine tkW 6 (v := ?_) hS ?_ ?_; rotate_left; (focus (intro x hx; have fx := HX.out x hx; go_simp; (try with_reducible rfl); done)); (try simp only [Act.put, lsa, lsz, lss]))
                (refine tkW 7 (v := ?_) hS ?_ ?_; rotate_left; (focus (intro x hx; have fx := HX.out x hx; go_simp; (try with_reducible rfl); done)); (try simp only [Act.put, lsa, lsz, lss]))
                (refine tkW 8 (v := ?_) hS ?_ ?_; rotate_left; (focus (intro x hx; have fx := HX.out x hx; go_simp; (try with_reducible rfl); done)); (try simp only [Act.put, lsa, lsz, lss]))
                (refine tkW 9 (v := ?_) hS ?_ ?_; rotate_left; (focus (intro x hx; have fx := HX.out x hx; go_simp; (try with_reducible rfl); done)); (try simp only [Act.put, lsa, lsz, lss]))
                (refine tkW 10 (v := ?_) hS ?_ ?_; rotate_left; (focus (intro x hx; have fx := HX.out x hx; go_simp; (try with_reducible rfl); done)); (try simp only [Act.put, lsa, lsz, lss]))
                (refine tkW 11 (v := ?_) hS ?_ ?_; rotate_left; (focus (intro x hx; have fx := HX.out x hx; go_simp; (try with_reducible rfl); done)); (try simp only [Act.put, lsa, lsz, lss]))
                (refine tkW 12 (v := ?_) hS ?_ ?_; rotate_left; (focus (intro x hx; have fx := HX.out x hx; go_simp; (try with_reducible rfl); done)); (try simp only [Act.put, lsa, lsz, lss]))
                have hS' := hS
                (refine wpAnyH_one 13 (by kernel_rfl) rfl ?_; intro K' hK'; go_simp; refine hK'.out _ _ hS ?_; clear hK' K')
                refine wpAnyH_done (by kernel_rfl) ?_ _
                go_wp2_with fail
                go_meet
                exact ⟨congrArg Value.bool (by rw [hb5, ← less_ltS]), HB1.out.drew, HG1.out⟩
            case rest =>
              obtain ⟨rfl, hB, hg⟩ := hcut
              have HAN2 := Lib.hid (HAN.out gb wc hB hg)
              have HB2 := Lib.hid hB
              have hjc : (j : Int) ≤ (c : Int) := by omega
              have hd := HD2.out
              clear hB hg HB1 HG1 HB5 HAN HD2 p1
              cases b5 with
              | true =>
                have HD3 := Lib.hid (show v = 5 from hd)
                clear hd
                go_wp2_with fail
                go_ret
                exact ⟨ret_int HD3.out, HB2.out⟩
              | false =>
                have hd : v = if q2 then 6 else checkT (t.take (j + 1)) (t.drop (j + 1)) := hd
                cases q2 with
                | true =>
                  have HD3 := Lib.hid (show v = 6 from hd)
                  clear hd
                  go_wp2_with fail
                  refine HAN2.out.mono ?_
                  rintro e w2 ⟨rfl, hb2⟩
                  have HB3 := Lib.hid (HB2.out.trans (hb2.mono HB2.out.size))
                  clear hb2
                  go_wp2_with fail
                  go_ret
                  exact ⟨ret_int HD3.out, HB3.out⟩
                | false =>
                  have HD3 := Lib.hid (show v = checkT (t.take (j + 1)) (t.drop (j + 1)) from hd)
                  clear hd
                  go_wp2_with fail
                  refine HAN2.out.mono ?_
                  rintro e w2 ⟨rfl, hb2⟩
                  have HB3 := Lib.hid (HB2.out.trans (hb2.mono HB2.out.size))
                  clear hb2
                  go_wp2_with fail
                  go_roundw
                  case rel => exact ⟨j + 1, by omega, by go_num, HB3.out, HD3⟩
                  case measure => simp [intOf]; omega
      · have hd : v = 0 := by rw [hf.out, drop_end hlt]; rfl
        subst hd
        go_wp2_with fail
        go_ret
        exact ⟨rfl, hb⟩
end Go.Proofs.YtpeamehplhpcjaaGreatDoor
