/- A part of the proofs of the laws of one package; see the law's own text, which comes last in 'order'. No conditions of its own. -/
import Derived.Test.YtpeamehplhpcjaaGreatDoorWB33
set_option linter.unusedVariables false
set_option linter.unusedSimpArgs false
namespace Go.Proofs.YtpeamehplhpcjaaGreatDoor
open Go.RowKit
theorem u8b (x n : UInt8) : (x == n) = ((x.toNat : Int) == (n.toNat : Int)) := by
  rw [Bool.eq_iff_iff, beq_iff_eq, beq_iff_eq, ← UInt8.toNat_inj]
  omega
theorem leq_lt (a b : Bs) : (ltS a b || a == b) = !ltS b a := by
  rcases ltS_tot a b with h | h | h
  · have : ltS b a = false := by
      cases e : ltS b a with
      | false => rfl
      | true => have := ltS_trans _ _ _ h e; rw [ltS_irr] at this; cases this
    rw [h, this]; rfl
  · subst h
    rw [ltS_irr]; simp
  · have h2 : ltS a b = false := by
      cases e : ltS a b with
      | false => rfl
      | true => have := ltS_trans _ _ _ h e; rw [ltS_irr] at this; cases this
    have h3 : (a == b) = false := by
      rw [beq_eq_false_iff_ne]
      intro e
      subst e
      rw [ltS_irr] at h; cases h
    rw [h, h2, h3]; rfl
theorem under_cut (p d : Bs) : underS p d = (decide (d.length < p.length) && ((p.take d.length == d) && (p.getD d.length 0 == 47))) := by
  unfold underS
  rw [Bool.eq_iff_iff]
  simp only [List.isPrefixOf_iff_prefix, Bool.and_eq_true, decide_eq_true_eq, beq_iff_eq]
  constructor
  · rintro ⟨r, rfl⟩
    refine ⟨by simp, by simp, ?_⟩
    rw [List.append_assoc, List.getD_eq_getElem?_getD, List.getElem?_append_right (Nat.le_refl _)]
    simp
  · rintro ⟨h1, h2, h3⟩
    rw [List.getD_eq_getElem?_getD, List.getElem?_eq_getElem h1] at h3
    have h3 : p[d.length] = 47 := h3
    refine ⟨p.drop (d.length + 1), ?_⟩
    have e := List.take_append_drop d.length p
    rw [h2, drop_get h1, h3] at e
    rw [← e]
    simp
set_option maxHeartbeats 1000000 in
theorem rbelow_any (p d : Bs) (w : World) (hp : p.length ≤ 9223372036854775807) (hdl : d.length ≤ 9223372036854775807) :
    Calls Tryz.prog 94 #[.string ⟨p.toArray⟩, .string ⟨d.toArray⟩] w fun e w' => e = .returned (.bool (underS p d)) ∧ w' = w := by
  obtain ⟨v, hv⟩ : ∃ v, v = underS p d := ⟨_, rfl⟩
  rw [← hv]
  rw [under_cut] at hv
  by_cases h1 : (d.length : Int) < (p.length : Int)
  · have hlt : d.length < p.length := by omega
    have e1 : p.getD d.length 0 = p[d.length] := by rw [List.getD_eq_getElem?_getD, List.getElem?_eq_getElem hlt]; rfl
    rw [decide_eq_true hlt, e1, u8b] at hv
    have e47 : ((47 : UInt8).toNat : Int) = 47 := rfl
    rw [e47] at hv
    clear e1 e47
    cases h2 : (p.take d.length == d)
    · have HV : Hid (v = false) := Lib.hid (by rw [hv, h2]; rfl)
      clear hv
      go_enter Tryz.func94, Tryz.ntmps94
      go_wp2_with fail
      go_ret
      exact ⟨ret_bool HV.out, by first | rfl | trivial⟩
    · cases h3 : ((p[d.length].toNat : Int) == 47)
      · have HV : Hid (v = false) := Lib.hid (by rw [hv, h2, h3]; rfl)
        clear hv
        go_enter Tryz.func94, Tryz.ntmps94
        go_wp2_with fail
        go_ret
        exact ⟨ret_bool HV.out, by first | rfl | trivial⟩
      · have HV : Hid (v = true) := Lib.hid (by rw [hv, h2, h3]; rfl)
        clear hv
        go_enter Tryz.func94, Tryz.ntmps94
        go_wp2_with fail
        go_ret
        exact ⟨ret_bool HV.out, by first | rfl | trivial⟩
  · have HV : Hid (v = false) := Lib.hid (by rw [hv, decide_eq_false (show ¬ d.length < p.length by omega)]; rfl)
    clear hv
    go_enter Tryz.func94, Tryz.ntmps94
    go_wp2_with fail
    go_ret
    exact ⟨ret_bool HV.out, by first | rfl | trivial⟩
theorem findT_cons (f : Fil) (r : List Fil) (p : Bs) : findT (f :: r) p = if f.path == p then some f.data else findT r p := by
  unfold findT
  rw [List.find?_cons]
  cases f.path == p <;> rfl
set_option maxHeartbeats 1000000 in
theorem rfindT_any (A : Option Addr) (n c : Nat) (w : World) (S : Nat → Prop) (t : List Fil) (hl : Sl w S A n c t) (p : Bs) :
    Calls Tryz.prog 59 #[.slice A n c, .string ⟨p.toArray⟩] w fun e w' => e = .returned (findV (findT t p)) ∧ Below w.heap.size w w' := by
  have hn := hl.le
  have hlen := hl.len
  subst hlen
  have HL := Lib.hid hl; clear hl
  obtain ⟨v, hv⟩ : ∃ v, v = findT t p := ⟨_, rfl⟩
  rw [← hv]
  have Hf : Hid (v = findT (t.drop 0) p) := hv
  clear hv
  go_enter Tryz.func59, Tryz.ntmps59
  go_wp2_with fail
  go_loopw [10] (fun i wr => ∃ k : Nat, k ≤ t.length ∧ i = .int .i64 k ∧ Below w.heap.size w wr ∧ Hid (v = findT (t.drop k) p)) (fun i _ => t.length - (intOf i).toNat)
  case atStart => exact ⟨0, by omega, rfl, Below.refl _ _, Hf⟩
  case round =>
    obtain ⟨k, hk, rfl, hb, hf⟩ := hrel
    by_cases hlt : k < t.length
    · obtain ⟨b, o, rfl, -, hbs, h1, h2⟩ := (HL.out.below hb).fil hlt
      have hd := hf.out
      rw [drop_get hlt, findT_cons] at hd
      clear hf
      generalize t[k] = f at *
      obtain ⟨fp, fd⟩ := f
      simp only at hd h1 h2
      cases hp : (fp == p)
      · have HD : Hid (v = findT (t.drop (k + 1)) p) := Lib.hid (by rw [hd, hp]; rfl)
        clear hd
        go_wp2_with fail
        go_roundw
        case rel => exact ⟨k + 1, by omega, by go_num, hb.alloc hb.size _, HD⟩
        case measure => simp [intOf]; omega
      · have HD : Hid (v = some fd) := Lib.hid (by rw [hd, hp]; rfl)
        clear hd
        go_wp2_with fail
        go_ret2
        exact ⟨by rw [HD.out]; rfl, hb.alloc hb.size _⟩
    · have HD : Hid (v = none) := Lib.hid (by rw [hf.out, drop_end hlt]; rfl)
      go_wp2
      go_ret2
      exact ⟨by rw [HD.out]; rfl, hb⟩
set_option maxHeartbeats 1000000 in
theorem rlinesT_any (d : Bs) (w : World) (hs : d.length ≤ 4294967000) :
    Calls Tryz.prog 60 #[.string ⟨d.toArray⟩] w fun e w' => ∃ A n c, e = .returned (.tuple #[.slice A n c, .int .i64 (linesS d).2]) ∧ Own w' (fun _ => False) w.heap.size 9 A c (linesS d).1 ∧ n = (linesS d).1.length ∧ Below w.heap.size w w' := by
  rw [← rlines_eq]
  have hsp := rsplit_any 10 10 rfl d w hs
  obtain ⟨R, hR⟩ : ∃ R, R = rlinesS d := ⟨_, rfl⟩
  rw [← hR]
  unfold rlinesS at hR
  generalize splitS 10 d = ls at *
  have HSP := Lib.hid hsp
  clear hsp
  by_cases h1 : (65536 : Int) < (d.length : Int)
  · have HR := Lib.hid (show R = ([], 10) from hR.trans (if_pos (by omega)))
    clear hR
    go_enter Tryz.func60, Tryz.ntmps60
    go_wp2_with fail
    go_ret2
    exact ⟨none, 0, 0, by rw [HR.out]; rfl, by rw [HR.out]; exact Own.nil _ _ _ _, by rw [HR.out]; rfl, Below.refl _ _⟩
  · rw [if_neg (by omega)] at hR
    have HR0 := Lib.hid hR
    clear hR
    go_enter Tryz.func60, Tryz.ntmps60
    go_wp2_with fail
    refine HSP.out.mono ?_
    rintro e w1 ⟨A, c', rfl, ho, hb⟩
    have HO := Lib.hid ho; have HB := Lib.hid hb
    clear ho hb HSP
    by_cases h2 : (1024 : Int) < (ls.length : Int)
    · have HR := Lib.hid (show R = ([], 10) from HR0.out.trans (if_pos (by omega)))
      clear HR0
      go_wp2_with fail
      go_ret2
      exact ⟨none, 0, 0, by rw [HR.out]; rfl, by rw [HR.out]; exact Own.nil _ _ _ _, by rw [HR.out]; rfl, HB.out⟩
    · have HR := Lib.hid (show R = (ls, 0) from HR0.out.trans (if_neg (by omega)))
      clear HR0
      go_wp2_with fail
      go_ret2
      exact ⟨A, _, c', by rw [HR.out]; rfl, by rw [HR.out]; exact HO.out, by rw [HR.out], HB.out⟩
set_option maxHeartbeats 4000000 in
theorem rcheckT_any (A : Option Addr) (n c : Nat) (w : World) (S : Nat → Prop) (t : List Fil) (hl : Sl w S A n c t) (hs : ∀ f ∈ t, f.path.length ≤ 4294967000) :
    Calls Tryz.prog 53 #[.slice A n c] w fun e w' => e = .returned (.int .i64 (treeS t)) ∧ Below w.heap.size w w' := by
  have hn := hl.len
  have hnc := hl.2.1
  have hlen := hl.le
  subst hn
  obtain ⟨v, hv⟩ : ∃ v, v = treeS t := ⟨_, rfl⟩
  rw [← hv]
  unfold treeS at hv
  have HS := Lib.hid hs; have HSL := Lib.hid hl
  clear hs hl
  by_cases h64 : (64 : Int) < (t.length : Int)
  · rw [if_pos (by omega)] at hv
    subst hv
    go_enter Tryz.func53, Tryz.ntmps53
    go_wp2_with fail
    go_ret
    exact ⟨rfl, by ((repeat (first | (with_reducible exact Below.refl _ _) | (with_reducible refine belowA ?_ _) | (with_reducible refine belowD ?_) | (with_reducible refine belowS ?_ (Nat.le_refl _) _ _) | (with_reducible refine next ?_ (by assumption) (Nat.le_refl _)))); done)⟩
  · rw [if_neg (by omega)] at hv
    have Hf : Hid (v = checkT (t.take 0) (t.drop 0)) := Lib.hid hv
    clear hv
    go_enter Tryz.func53, Tryz.ntmps53
    go_wp2_with fail
    go_loopw [11] (fun i wr => ∃ j : Nat, j ≤ t.length ∧ i = .int .i64 j ∧ Below w.heap.size w wr ∧ Hid (v = checkT (t.take j) (t.drop j))) (fun i _ => t.length - (intOf i).toNat)
    case atStart => exact ⟨0, by omega, rfl, Below.refl _ _, Hf⟩
    case round =>
      obtain ⟨i, hi, rfl, hb, hf⟩ := hrel
      by_cases hlt : i < t.length
      · obtain ⟨b, o, rfl, -, hbs, c0, c1⟩ := (HSL.out.below hb).fil hlt
        have hd := hf.out
        rw [drop_get hlt, checkT_cons] at hd
        have htk : t.take i ++ [t[i]] = t.take (i + 1) := by rw [List.take_succ_eq_append_getElem hlt]
        rw [htk] at hd
        have hpl := HS.out _ (List.getElem_mem hlt)
        have hpa := fun w => rpath_any t[i].path w hpl
        generalize pathS t[i].path = q1 at *
        have HD := Lib.hid hd; have HPA := Lib.hid hpa; have HB := Lib.hid hb
        clear hd hpa htk hf
        go_upto_region 6 with fail
        have hg : (wr.alloc (.cells #[.string ⟨t[i].path.toArray⟩, .string ⟨t[i].data.toArray⟩] 73)).heap[wr.heap.size]? = some (.cells #[.string ⟨t[i].path.toArray⟩, .string ⟨t[i].data.toArray⟩] 73 (0, 0)) := blkAt _ _ rfl
        have hB : Below w.heap.size w (wr.alloc (.cells #[.string ⟨t[i].path.toArray⟩, .string ⟨t[i].data.toArray⟩] 73)) := belowA hb _
        generalize (wr.alloc (.cells #[.string ⟨t[i].path.toArray⟩, .string ⟨t[i].data.toArray⟩] 73)) = W at *
        generalize wr.heap.size = gb at *
        have p0 := (cell_blk hg 0).trans rfl
        have HG := Lib.hid hg; have HBW := Lib.hid hB
        clear hg hB hb hbs c0 c1 Hf
        go_wp2_with fail
        refine (HPA.out W).mono ?_
        rintro e w1 ⟨rfl, hb1⟩
        have HB1 := Lib.hid (HBW.out.trans (hb1.mono HBW.out.size))
        have HG1 := Lib.hid (keptBlk hb1 HG.out)
        clear p0 hb1 HPA HBW HG HB
        unfold errB
        cases q1 with
        | false =>
          have HD2 := Lib.hid (show v = 2 from HD.out)
          go_wp2_with fail
          go_ret
          exact ⟨ret_int HD2.out, HB1.out⟩
        | true =>
          have p1 := (cell_blk HG1.out 1).trans rfl
          have hd := HD.out
          rw [if_neg (by simp)] at hd
          by_cases h65 : (65536 : Int) < (t[i].data.length : Int)
          · rw [if_pos (by omega)] at hd
            have HD2 := Lib.hid hd
            clear hd HD
            go_wp2_with fail
            go_ret
            exact ⟨ret_int HD2.out, HB1.out⟩
          · rw [if_neg (by omega)] at hd
            obtain ⟨b5, hb5⟩ : ∃ b5, b5 = ordB (t.take i) t[i].path := ⟨_, rfl⟩
            rw [← hb5] at hd
            have HD2 := Lib.hid hd
            have HB5 := Lib.hid hb5
            clear hd HD hb5
            go_upto_region 10 with fail
            go_cut [36] from 24 to 36 (fun x wx => x = .bool b5 ∧ Below w.heap.size w wx ∧ wx.heap[gb]? = some (.cells #[.string ⟨t[i].path.toArray⟩, .string ⟨t[i].data.toArray⟩] 73 (0, 0)))
            case first =>
              cases i with
              | zero =>
                have hb5 : b5 = false := HB5.out
                subst hb5
                have HX := Lib.hid (fun (z : World) (hz : True) => hz)
                refine wpH_region (fun z => True) (by kernel_rfl) ?_
                have hS : True := trivial
                (refine tkW 0 (v := ?_) hS ?_ ?_; rotate_left; (focus (intro x hx; have fx := HX.out x hx; go_simp; (try with_reducible rfl); done)); (try simp only [Act.put, lsa, lsz, lss]))
                (refine tkW 1 (v := ?_) hS ?_ ?_; rotate_left; (focus (intro x hx; have fx := HX.out x hx; go_simp; (try with_reducible rfl); done)); (try simp only [Act.put, lsa, lsz, lss]))
                (refine tkW 2 (v := ?_) hS ?_ ?_; rotate_left; (focus (intro x hx; have fx := HX.out x hx; go_simp; (try with_reducible rfl); done)); (try simp only [Act.put, lsa, lsz, lss]))
                (refine tkU 3 hS ?_; (try simp only [Act.put, lsa, lsz, lss]))
                (refine tkU 4 hS ?_; (try simp only [Act.put, lsa, lsz, lss]))
                (refine tkU 5 hS ?_; (try simp only [Act.put, lsa, lsz, lss]))
                (refine tkU 6 hS ?_; (try simp only [Act.put, lsa, lsz, lss]))
                (refine tkU 7 hS ?_; (try simp only [Act.put, lsa, lsz, lss]))
                (refine tkU 8 hS ?_; (try simp only [Act.put, lsa, lsz, lss]))
                (refine tkU 9 hS ?_; (try simp only [Act.put, lsa, lsz, lss]))
                (refine tkU 10 hS ?_; (try simp only [Act.put, lsa, lsz, lss]))
                (refine tkU 11 hS ?_; (try simp only [Act.put, lsa, lsz, lss]))
                (refine tkW 12 (v := ?_) hS ?_ ?_; rotate_left; (focus (intro x hx; have fx := HX.out x hx; go_simp; (try with_reducible rfl); done)); (try simp only [Act.put, lsa, lsz, lss]))
                refine wpAnyH_done (by kernel_rfl) ?_ _
                go_wp2_with fail
                go_meet
                exact ⟨rfl, HB1.out.drew, HG1.out⟩
              | succ j =>
                have hj : j < t.length := by omega
                obtain ⟨b8, o8, he, -, -, d0, -⟩ := (HSL.out.below HB1.out).fil hj
                cases he
                have hb5 : b5 = !ltS t[j].path t[j + 1].path := by rw [HB5.out]; unfold ordB; rw [last_take t j hj]
                have HX := Lib.hid (fun (z : World) (hz : z.cell? ⟨b, o + j * 2, none⟩ = some (.string ⟨t[j].path.toArray⟩) ∧ z.heap[gb]? = some (.cells #[.string ⟨t[j + 1].path.toArray⟩, .string ⟨t[j + 1].data.toArray⟩] 73 (0, 0))) => And.intro hz.1 ((cell_blk hz.2 0).trans rfl))
                refine wpH_region (fun z => z.cell? ⟨b, o + j * 2, none⟩ = some (.string ⟨t[j].path.toArray⟩) ∧ z.heap[gb]? = some (.cells #[.string ⟨t[j + 1].path.toArray⟩, .string ⟨t[j + 1].data.toArray⟩] 73 (0, 0))) (by kernel_rfl) ?_
                have hS : w1.drew.cell? ⟨b, o + j * 2, none⟩ = some (.string ⟨t[j].path.toArray⟩) ∧ w1.drew.heap[gb]? = some (.cells #[.string ⟨t[j + 1].path.toArray⟩, .string ⟨t[j + 1].data.toArray⟩] 73 (0, 0)) := ⟨d0, HG1.out⟩
                have hin : (j : Int) < (t.length : Int) := by omega
                have hwi : IntKind.i64.wrap (j : Int) = (j : Int) := IntWalk.i64_in _ (by omega)
                clear HD2 HB5 hpl p1 d0
                (refine tkW 0 (v := ?_) hS ?_ ?_; rotate_left; (focus (intro x hx; have fx := HX.out x hx; go_simp; (try with_reducible rfl); done)); (try simp only [Act.put, lsa, lsz, lss]))
                (refine tkW 1 (v := ?_) hS ?_ ?_; rotate_left; (focus (intro x hx; have fx := HX.out x hx; go_simp; (try with_reducible rfl); done)); (try simp only [Act.put, lsa, lsz, lss]))
                (refine tkW 2 (v := ?_) hS ?_ ?_; rotate_left; (focus (intro x hx; have fx := HX.out x hx; go_simp; (try with_reducible rfl); done)); (try simp only [Act.put, lsa, lsz, lss]))
                (refine tkW 3 (v := ?_) hS ?_ ?_; rotate_left; (focus (intro x hx; have fx := HX.out x hx; go_simp; (try with_reducible rfl); done)); (try simp only [Act.put, lsa, lsz, lss]))
                (refine tkW 4 (v := ?_) hS ?_ ?_; rotate_left; (focus (intro x hx; have fx := HX.out x hx; go_simp; (try with_reducible rfl); done)); (try simp only [Act.put, lsa, lsz, lss]))
                (refine tkW 5 (v := ?_) hS ?_ ?_; rotate_left; (focus (intro x hx; have fx := HX.out x hx; go_simp; (try with_reducible rfl); done)); (try simp only [Act.put, lsa, lsz, lss]))
                (refine tkW 6 (v := ?_) hS ?_ ?_; rotate_left; (focus (intro x hx; have fx := HX.out x hx; go_simp; (try with_reducible rfl); done)); (try simp only [Act.put, lsa, lsz, lss]))
                (refine tkW 7 (v := ?_) hS ?_ ?_; rotate_left; (focus (intro x hx; have fx := HX.out x hx; go_simp; (try with_reducible rfl); done)); (try simp only [Act.put, lsa, lsz, lss]))
                (refine tkW 8 (v := ?_) hS ?_ ?_; rotate_left; (focus (intro x hx; have fx := HX.out x hx; go_simp; (try with_reducible rfl); done)); (try simp only [Act.put, lsa, lsz, lss]))
                (refine tkW 9 (v := ?_) hS ?_ ?_; rotate_left; (focus (intro x hx; have fx := HX.out x hx; go_simp; (try with_reducible rfl); done)); (try simp only [Act.put, lsa, lsz, lss]))
                (refine tkW 10 (v := ?_) hS ?_ ?_; rotate_left; (focus (intro x hx; have fx := HX.out x hx; go_simp; (try with_reducible rfl); done)); (try simp only [Act.put, lsa, lsz, lss]))
                (refine tkW 11 (v := ?_) hS ?_ ?_; rotate_left; (focus (intro x hx; have fx := HX.out x hx; go_simp; (try with_reducible rfl); done)); (try simp only [Act.put, lsa, lsz, lss]))
                (refine tkW 12 (v := ?_) hS ?_ ?_; rotate_left; (focus (intro x hx; have fx := HX.out x hx; go_simp; (try with_reducible rfl); done)); (try simp only [Act.put, lsa, lsz, lss]))
                refine wpAnyH_done (by kernel_rfl) ?_ _
                go_wp2_with fail
                go_meet
                exact ⟨congrArg Value.bool (by rw [hb5, less_ltS]; exact leq_lt _ _), HB1.out.drew, HG1.out⟩
            case rest =>
              obtain ⟨rfl, hB, hg⟩ := hcut
              have HB2 := Lib.hid hB; have HG2 := Lib.hid hg
              have hd := HD2.out
              clear hB hg HB1 HG1 HB5 HD2 p1
              cases b5 with
              | true =>
                have HD3 := Lib.hid (show v = 5 from hd)
                clear hd
                go_wp2_with fail
                go_ret
                exact ⟨ret_int HD3.out, HB2.out⟩
              | false =>
                have Hf3 : Hid (v = if ((t.take i).drop 0).any (fun g => underS t[i].path g.path) then 6 else checkT (t.take (i + 1)) (t.drop (i + 1))) := Lib.hid hd
                clear hd
                go_wp2_with fail
                go_loopw [5] (fun a wx => ∃ j : Nat, j ≤ i ∧ a = .int .i64 j ∧ Below w.heap.size w wx ∧ wx.heap[gb]? = some (.cells #[.string ⟨t[i].path.toArray⟩, .string ⟨t[i].data.toArray⟩] 73 (0, 0)) ∧ Hid (v = if ((t.take i).drop j).any (fun g => underS t[i].path g.path) then 6 else checkT (t.take (i + 1)) (t.drop (i + 1)))) (fun a _ => i - (intOf a).toNat)
                case atStart => exact ⟨0, by omega, rfl, HB2.out, HG2.out, Hf3⟩
                case round =>
                  obtain ⟨j, hj, rfl, hB, hg, hf⟩ := hrel
                  by_cases hji : j < i
                  · have hjt : j < t.length := by omega
                    obtain ⟨b8, o8, he, -, -, d0, -⟩ := (HSL.out.below hB).fil hjt
                    cases he
                    have hjl : j < (t.take i).length := by rw [List.length_take]; omega
                    have hd := hf.out
                    rw [drop_get hjl, List.any_cons, List.getElem_take] at hd
                    have hpj := HS.out _ (List.getElem_mem hjt)
                    have hbe := fun w => rbelow_any t[i].path t[j].path w (by omega) (by omega)
                    have p0 := (cell_blk hg 0).trans rfl
                    generalize underS t[i].path t[j].path = q at *
                    have HD3 := Lib.hid hd; have HBE := Lib.hid hbe; have HG3 := Lib.hid hg; have HB3 := Lib.hid hB
                    have hin : (j : Int) < (t.length : Int) := by omega
                    clear hd hbe hg hB hf Hf3 hpj hpl hjl
                    go_wp2_with fail
                    go_quiet ((go_at_call 94; exact Calls.quiet_of_same (HBE.out _)))
                    cases q with
                    | true =>
                      have HD4 := Lib.hid (show v = 6 from HD3.out)
                      go_wp2_with fail
                      go_ret
                      exact ⟨ret_int HD4.out, dN HB3.out _⟩
                    | false =>
                      go_wp2_with fail
                      go_roundw
                      case rel => exact ⟨j + 1, by omega, by go_num, dN HB3.out _, HG3.out, Lib.hid HD3.out⟩
                      case measure => simp [intOf]; omega
                  · obtain rfl : j = i := by omega
                    have hd := hf.out
                    rw [drop_end (show ¬ j < (t.take j).length by rw [List.length_take]; omega)] at hd
                    have HD3 := Lib.hid (show v = checkT (t.take (j + 1)) (t.drop (j + 1)) from hd)
                    clear hd hf Hf3
                    have HB3 := Lib.hid hB
                    clear hB hg
                    go_wp2_with fail
                    go_roundw
                    case rel => exact ⟨j + 1, by omega, by go_num, HB3.out, HD3⟩
                    case measure => simp [intOf]; omega
      · have hd : v = 0 := by rw [hf.out, drop_end hlt]; rfl
        subst hd
        go_wp2_with fail
        go_ret
        exact ⟨rfl, hb⟩
end Go.Proofs.YtpeamehplhpcjaaGreatDoor
