/- A part of the proofs of the laws of one package; see the law's own text, which comes last in 'order'. No conditions of its own. -/
import Derived.Test.YtpeamehplhpcjaaGreatDoorZ13
import Derived.Test.YtpeamehplhpcjaaGreatDoorZ15
import Derived.Test.YtpeamehplhpcjaaGreatDoorZ27
set_option linter.unusedVariables false
set_option linter.unusedSimpArgs false
namespace Go.Proofs.YtpeamehplhpcjaaGreatDoor
open Go.RowKit
theorem u8b (x n : UInt8) : (x == n) = ((x.toNat : Int) == (n.toNat : Int)) := by
  rw [Bool.eq_iff_iff, beq_iff_eq, beq_iff_eq, ← UInt8.toNat_inj]
  omega
theorem leq_lt (a b : Bs) : (ltS a b || a == b) = !ltS b a := by
  rcases ltS_tot a b with h | h | h
  · have : ltS b a = false := by
      cases e : ltS b a with
      | false => rfl
      | true => have := ltS_trans _ _ _ h e; rw [ltS_irr] at this; cases this
    rw [h, this]; rfl
  · subst h
    rw [ltS_irr]; simp
  · have h2 : ltS a b = false := by
      cases e : ltS a b with
      | false => rfl
      | true => have := ltS_trans _ _ _ h e; rw [ltS_irr] at this; cases this
    have h3 : (a == b) = false := by
      rw [beq_eq_false_iff_ne]
      intro e
      subst e
      rw [ltS_irr] at h; cases h
    rw [h, h2, h3]; rfl
theorem under_cut (p d : Bs) : underS p d = (decide (d.length < p.length) && ((p.take d.length == d) && (p.getD d.length 0 == 47))) := by
  unfold underS
  rw [Bool.eq_iff_iff]
  simp only [List.isPrefixOf_iff_prefix, Bool.and_eq_true, decide_eq_true_eq, beq_iff_eq]
  constructor
  · rintro ⟨r, rfl⟩
    refine ⟨by simp, by simp, ?_⟩
    rw [List.append_assoc, List.getD_eq_getElem?_getD, List.getElem?_append_right (Nat.le_refl _)]
    simp
  · rintro ⟨h1, h2, h3⟩
    rw [List.getD_eq_getElem?_getD, List.getElem?_eq_getElem h1] at h3
    have h3 : p[d.length] = 47 := h3
    refine ⟨p.drop (d.length + 1), ?_⟩
    have e := List.take_append_drop d.length p
    rw [h2, drop_get h1, h3] at e
    rw [← e]
    simp
set_option maxHeartbeats 1000000 in
theorem rbelow_any (p d : Bs) (w : World) (hp : p.length ≤ 9223372036854775807) (hdl : d.length ≤ 9223372036854775807) :
    Calls Tryz.prog 94 #[.string ⟨p.toArray⟩, .string ⟨d.toArray⟩] w fun e w' => e = .returned (.bool (underS p d)) ∧ w' = w := by
  obtain ⟨v, hv⟩ : ∃ v, v = underS p d := ⟨_, rfl⟩
  rw [← hv]
  rw [under_cut] at hv
  by_cases h1 : (d.length : Int) < (p.length : Int)
  · have hlt : d.length < p.length := by omega
    have e1 : p.getD d.length 0 = p[d.length] := by rw [List.getD_eq_getElem?_getD, List.getElem?_eq_getElem hlt]; rfl
    rw [decide_eq_true hlt, e1, u8b] at hv
    have e47 : ((47 : UInt8).toNat : Int) = 47 := rfl
    rw [e47] at hv
    clear e1 e47
    cases h2 : (p.take d.length == d)
    · have HV : Hid (v = false) := Lib.hid (by rw [hv, h2]; rfl)
      clear hv
      go_enter Tryz.func94, Tryz.ntmps94
      go_wp2_with fail
      go_ret
      exact ⟨ret_bool HV.out, by first | rfl | trivial⟩
    · cases h3 : ((p[d.length].toNat : Int) == 47)
      · have HV : Hid (v = false) := Lib.hid (by rw [hv, h2, h3]; rfl)
        clear hv
        go_enter Tryz.func94, Tryz.ntmps94
        go_wp2_with fail
        go_ret
        exact ⟨ret_bool HV.out, by first | rfl | trivial⟩
      · have HV : Hid (v = true) := Lib.hid (by rw [hv, h2, h3]; rfl)
        clear hv
        go_enter Tryz.func94, Tryz.ntmps94
        go_wp2_with fail
        go_ret
        exact ⟨ret_bool HV.out, by first | rfl | trivial⟩
  · have HV : Hid (v = false) := Lib.hid (by rw [hv, decide_eq_false (show ¬ d.length < p.length by omega)]; rfl)
    clear hv
    go_enter Tryz.func94, Tryz.ntmps94
    go_wp2_with fail
    go_ret
    exact ⟨ret_bool HV.out, by first | rfl | trivial⟩
theorem findT_cons (f : Fil) (r : List Fil) (p : Bs) : findT (f :: r) p = if f.path == p then some f.data else findT r p := by
  unfold findT
  rw [List.find?_cons]
  cases f.path == p <;> rfl
set_option maxHeartbeats 1000000 in
theorem rfindT_any (A : Option Addr) (n c : Nat) (w : World) (S : Nat → Prop) (t : List Fil) (hl : Sl w S A n c t) (p : Bs) :
    Calls Tryz.prog 59 #[.slice A n c, .string ⟨p.toArray⟩] w fun e w' => e = .returned (findV (findT t p)) ∧ Below w.heap.size w w' := by
  have hn := hl.le
  have hlen := hl.len
  subst hlen
  have HL := Lib.hid hl; clear hl
  obtain ⟨v, hv⟩ : ∃ v, v = findT t p := ⟨_, rfl⟩
  rw [← hv]
  have Hf : Hid (v = findT (t.drop 0) p) := hv
  clear hv
  go_enter Tryz.func59, Tryz.ntmps59
  go_wp2_with fail
  go_loopw [10] (fun i wr => ∃ k : Nat, k ≤ t.length ∧ i = .int .i64 k ∧ Below w.heap.size w wr ∧ Hid (v = findT (t.drop k) p)) (fun i _ => t.length - (intOf i).toNat)
  case atStart => exact ⟨0, by omega, rfl, Below.refl _ _, Hf⟩
  case round =>
    obtain ⟨k, hk, rfl, hb, hf⟩ := hrel
    by_cases hlt : k < t.length
    · obtain ⟨b, o, rfl, -, hbs, h1, h2⟩ := (HL.out.below hb).fil hlt
      have hd := hf.out
      rw [drop_get hlt, findT_cons] at hd
      clear hf
      generalize t[k] = f at *
      obtain ⟨fp, fd⟩ := f
      simp only at hd h1 h2
      cases hp : (fp == p)
      · have HD : Hid (v = findT (t.drop (k + 1)) p) := Lib.hid (by rw [hd, hp]; rfl)
        clear hd
        go_wp2_with fail
        go_roundw
        case rel => exact ⟨k + 1, by omega, by go_num, hb.alloc hb.size _, HD⟩
        case measure => simp [intOf]; omega
      · have HD : Hid (v = some fd) := Lib.hid (by rw [hd, hp]; rfl)
        clear hd
        go_wp2_with fail
        go_ret2
        exact ⟨by rw [HD.out]; rfl, hb.alloc hb.size _⟩
    · have HD : Hid (v = none) := Lib.hid (by rw [hf.out, drop_end hlt]; rfl)
      go_wp2
      go_ret2
      exact ⟨by rw [HD.out]; rfl, hb⟩
set_option maxHeartbeats 1000000 in
theorem rlinesT_any (d : Bs) (w : World) (hs : d.length ≤ 4294967000) :
    Calls Tryz.prog 60 #[.string ⟨d.toArray⟩] w fun e w' => ∃ A n c, e = .returned (.tuple #[.slice A n c, .int .i64 (linesS d).2]) ∧ Own w' (fun _ => False) w.heap.size 9 A c (linesS d).1 ∧ n = (linesS d).1.length ∧ Below w.heap.size w w' := by
  rw [← rlines_eq]
  have hsp := rsplit_any 10 10 rfl d w hs
  obtain ⟨R, hR⟩ : ∃ R, R = rlinesS d := ⟨_, rfl⟩
  rw [← hR]
  unfold rlinesS at hR
  generalize splitS 10 d = ls at *
  have HSP := Lib.hid hsp
  clear hsp
  by_cases h1 : (65536 : Int) < (d.length : Int)
  · have HR := Lib.hid (show R = ([], 10) from hR.trans (if_pos (by omega)))
    clear hR
    go_enter Tryz.func60, Tryz.ntmps60
    go_wp2_with fail
    go_ret2
    exact ⟨none, 0, 0, by rw [HR.out]; rfl, by rw [HR.out]; exact Own.nil _ _ _ _, by rw [HR.out]; rfl, Below.refl _ _⟩
  · rw [if_neg (by omega)] at hR
    have HR0 := Lib.hid hR
    clear hR
    go_enter Tryz.func60, Tryz.ntmps60
    go_wp2_with fail
    refine HSP.out.mono ?_
    rintro e w1 ⟨A, c', rfl, ho, hb⟩
    have HO := Lib.hid ho; have HB := Lib.hid hb
    clear ho hb HSP
    by_cases h2 : (1024 : Int) < (ls.length : Int)
    · have HR := Lib.hid (show R = ([], 10) from HR0.out.trans (if_pos (by omega)))
      clear HR0
      go_wp2_with fail
      go_ret2
      exact ⟨none, 0, 0, by rw [HR.out]; rfl, by rw [HR.out]; exact Own.nil _ _ _ _, by rw [HR.out]; rfl, HB.out⟩
    · have HR := Lib.hid (show R = (ls, 0) from HR0.out.trans (if_neg (by omega)))
      clear HR0
      go_wp2_with fail
      go_ret2
      exact ⟨A, _, c', by rw [HR.out]; rfl, by rw [HR.out]; exact HO.out, by rw [HR.out], HB.out⟩
set_option maxHeartbeats 4000000 in
theorem rcheckT_any (A : Option Addr) (n c : Nat) (w : World) (S : Nat → Prop) (t : List Fil) (hl : Sl w S A n c t) (hs : ∀ f ∈ t, f.path.length ≤ 4294967000) :
    Calls Tryz.prog 53 #[.slice A n c] w fun e w' => e = .returned (.int .i64 (treeS t)) ∧ Below w.heap.size w w' := by
  have hn := hl.len
  have hnc := hl.2.1
  have hlen := hl.le
  subst hn
  obtain ⟨v, hv⟩ : ∃ v, v = treeS t := ⟨_, rfl⟩
  rw [← hv]
  unfold treeS at hv
  have HS := Lib.hid hs; have HSL := Lib.hid hl
  clear hs hl
  by_cases h64 : (64 : Int) < (t.length : Int)
  · rw [if_pos (by omega)] at hv
    subst hv
    go_enter Tryz.func53, Tryz.ntmps53
    go_wp2_with fail
    go_ret
    exact ⟨rfl, by ((repeat (first | (with_reducible exact Below.refl _ _) | (with_reducible refine belowA ?_ _) | (with_reducible refine belowD ?_) | (with_reducible refine belowS ?_ (Nat.le_refl _) _ _) | (with_reducible refine next ?_ (by assumption) (Nat.le_refl _)))); done)⟩
  · rw [if_neg (by omega)] at hv
    have Hf : Hid (v = checkT (t.take 0) (t.drop 0)) := Lib.hid hv
    clear hv
    go_enter Tryz.func53, Tryz.ntmps53
    go_wp2_with fail
    go_loopw [11] (fun i wr => ∃ j : Nat, j ≤ t.length ∧ i = .int .i64 j ∧ Below w.heap.size w wr ∧ Hid (v = checkT (t.take j) (t.drop j))) (fun i _ => t.length - (intOf i).toNat)
    case atStart => exact ⟨0, by omega, rfl, Below.refl _ _, Hf⟩
    case round =>
      obtain ⟨i, hi, rfl, hb, hf⟩ := hrel
      by_cases hlt : i < t.length
      · obtain ⟨b, o, rfl, -, hbs, c0, c1⟩ := (HSL.out.below hb).fil hlt
        have hd := hf.out
        rw [drop_get hlt, checkT_cons] at hd
        have htk : t.take i ++ [t[i]] = t.take (i + 1) := by rw [List.take_succ_eq_append_getElem hlt]
        rw [htk] at hd
        have hpl := HS.out _ (List.getElem_mem hlt)
        have hpa := fun w => rpath_any t[i].path w hpl
        generalize pathS t[i].path = q1 at *
        have HD := Lib.hid hd; have HPA := Lib.hid hpa; have HB := Lib.hid hb
        clear hd hpa htk hf
        go_upto_region 6 with fail
        have hg : (wr.alloc (.cells #[.string ⟨t[i].path.toArray⟩, .string ⟨t[i].data.toArray⟩] 73)).heap[wr.heap.size]? = some (.cells #[.string ⟨t[i].path.toArray⟩, .string ⟨t[i].data.toArray⟩] 73 (0, 0)) := blkAt _ _ rfl
        have hB : Below w.heap.size w (wr.alloc (.cells #[.string ⟨t[i].path.toArray⟩, .string ⟨t[i].data.toArray⟩] 73)) := belowA hb _
        generalize (wr.alloc (.cells #[.string ⟨t[i].path.toArray⟩, .string ⟨t[i].data.toArray⟩] 73)) = W at *
        generalize wr.heap.size = gb at *
        have p0 := (cell_blk hg 0).trans rfl
        have HG := Lib.hid hg; have HBW := Lib.hid hB
        clear hg hB hb hbs c0 c1 Hf
        go_wp2_with fail
        refine (HPA.out W).mono ?_
        rintro e w1 ⟨rfl, hb1⟩
        have HB1 := Lib.hid (HBW.out.trans (hb1.mono HBW.out.size))
        have HG1 := Lib.hid (keptBlk hb1 HG.out)
        clear p0 hb1 HPA HBW HG HB
        unfold errB
        cases q1 with
        | false =>
          have HD2 := Lib.hid (show v = 2 from HD.out)
          go_wp2_with fail
          go_ret
          exact ⟨ret_int HD2.out, HB1.out⟩
        | true =>
          have p1 := (cell_blk HG1.out 1).trans rfl
          have hd := HD.out
          rw [if_neg (by simp)] at hd
          by_cases h65 : (65536 : Int) < (t[i].data.length : Int)
          · rw [if_pos (by omega)] at hd
            have HD2 := Lib.hid hd
            clear hd HD
            go_wp2_with fail
            go_ret
            exact ⟨ret_int HD2.out, HB1.out⟩
          · rw [if_neg (by omega)] at hd
            obtain ⟨b5, hb5⟩ : ∃ b5, b5 = ordB (t.take i) t[i].path := ⟨_, rfl⟩
            rw [← hb5] at hd
            have HD2 := Lib.hid hd
            have HB5 := Lib.hid hb5
            clear hd HD hb5
            go_upto_region 10 with fail
            go_cut [36] from 24 to 36 (fun x wx => x = .bool b5 ∧ Below w.heap.size w wx ∧ wx.heap[gb]? = some (.cells #[.string ⟨t[i].path.toArray⟩, .string ⟨t[i].data.toArray⟩] 73 (0, 0)))
            case first =>
              cases i with
              | zero =>
                have hb5 : b5 = false := HB5.out
                subst hb5
                have HX := Lib.hid (fun (z : World) (hz : True) => hz)
                refine wpH_region (fun z => True) (by kernel_rfl) ?_
                have hS : True := trivial
                (refine tkW 0 (v := ?_) hS ?_ ?_; rotate_left; (focus (intro x hx; have fx := HX.out x hx; go_simp; (try with_reducible rfl); done)); (try simp only [Act.put, lsa, lsz, lss]))
                (refine tkW 1 (v := ?_) hS ?_ ?_; rotate_left; (focus (intro x hx; have fx := HX.out x hx; go_simp; (try with_reducible rfl); done)); (try simp only [Act.put, lsa, lsz, lss]))
                (refine tkW 2 (v := ?_) hS ?_ ?_; rotate_left; (focus (intro x hx; have fx := HX.out x hx; go_simp; (try with_reducible rfl); done)); (try simp only [Act.put, lsa, lsz, lss]))
                (refine tkU 3 hS ?_; (try simp only [Act.put, lsa, lsz, lss]))
                (refine tkU 4 hS ?_; (try simp only [Act.put, lsa, lsz, lss]))
                (refine tkU 5 hS ?_; (try simp only [Act.put, lsa, lsz, lss]))
                (refine tkU 6 hS ?_; (try simp only [Act.put, lsa, lsz, lss]))
                (refine tkU 7 hS ?_; (try simp only [Act.put, lsa, lsz, lss]))
                (refine tkU 8 hS ?_; (try simp only [Act.put, lsa, lsz, lss]))
                (refine tkU 9 hS ?_; (try simp only [Act.put, lsa, lsz, lss]))
                (refine tkU 10 hS ?_; (try simp only [Act.put, lsa, lsz, lss]))
                (refine tkU 11 hS ?_; (try simp only [Act.put, lsa, lsz, lss]))
                (refine tkW 12 (v := ?_) hS ?_ ?_; rotate_left; (focus (intro x hx; have fx := HX.out x hx; go_simp; (try with_reducible rfl); done)); (try simp only [Act.put, lsa, lsz, lss]))
                refine wpAnyH_done (by kernel_rfl) ?_ _
                go_wp2_with fail
                go_meet
                exact ⟨rfl, HB1.out.drew, HG1.out⟩
              | succ j =>
                have hj : j < t.length := by omega
                obtain ⟨b8, o8, he, -, -, d0, -⟩ := (HSL.out.below HB1.out).fil hj
                cases he
                have hb5 : b5 = !ltS t[j].path t[j + 1].path := by rw [HB5.out]; unfold ordB; rw [last_take t j hj]
                have HX := Lib.hid (fun (z : World) (hz : z.cell? ⟨b, o + j * 2, none⟩ = some (.string ⟨t[j].path.toArray⟩) ∧ z.heap[gb]? = some (.cells #[.string ⟨t[j + 1].path.toArray⟩, .string ⟨t[j + 1].data.toArray⟩] 73 (0, 0))) => And.intro hz.1 ((cell_blk hz.2 0).trans rfl))
                refine wpH_region (fun z => z.cell? ⟨b, o + j * 2, none⟩ = some (.string ⟨t[j].path.toArray⟩) ∧ z.heap[gb]? = some (.cells #[.string ⟨t[j + 1].path.toArray⟩, .string ⟨t[j + 1].data.toArray⟩] 73 (0, 0))) (by kernel_rfl) ?_
                have hS : w1.drew.cell? ⟨b, o + j * 2, none⟩ = some (.string ⟨t[j].path.toArray⟩) ∧ w1.drew.heap[gb]? = some (.cells #[.string ⟨t[j + 1].path.toArray⟩, .string ⟨t[j + 1].data.toArray⟩] 73 (0, 0)) := ⟨d0, HG1.out⟩
                have hin : (j : Int) < (t.length : Int) := by omega
                have hwi : IntKind.i64.wrap (j : Int) = (j : Int) := IntWalk.i64_in _ (by omega)
                clear HD2 HB5 hpl p1 d0
                (refine tkW 0 (v := ?_) hS ?_ ?_; rotate_left; (focus (intro x hx; have fx := HX.out x hx; go_simp; (try with_reducible rfl); done)); (try simp only [Act.put, lsa, lsz, lss]))
                (refine tkW 1 (v := ?_) hS ?_ ?_; rotate_left; (focus (intro x hx; have fx := HX.out x hx; go_simp; (try with_reducible rfl); done)); (try simp only [Act.put, lsa, lsz, lss]))
                (refine tkW 2 (v := ?_) hS ?_ ?_; rotate_left; (focus (intro x hx; have fx := HX.out x hx; go_simp; (try with_reducible rfl); done)); (try simp only [Act.put, lsa, lsz, lss]))
                (refine tkW 3 (v := ?_) hS ?_ ?_; rotate_left; (focus (intro x hx; have fx := HX.out x hx; go_simp; (try with_reducible rfl); done)); (try simp only [Act.put, lsa, lsz, lss]))
                (refine tkW 4 (v := ?_) hS ?_ ?_; rotate_left; (focus (intro x hx; have fx := HX.out x hx; go_simp; (try with_reducible rfl); done)); (try simp only [Act.put, lsa, lsz, lss]))
                (refine tkW 5 (v := ?_) hS ?_ ?_; rotate_left; (focus (intro x hx; have fx := HX.out x hx; go_simp; (try with_reducible rfl); done)); (try simp only [Act.put, lsa, lsz, lss]))
                (refine tkW 6 (v := ?_) hS ?_ ?_; rotate_left; (focus (intro x hx; have fx := HX.out x hx; go_simp; (try with_reducible rfl); done)); (try simp only [Act.put, lsa, lsz, lss]))
                (refine tkW 7 (v := ?_) hS ?_ ?_; rotate_left; (focus (intro x hx; have fx := HX.out x hx; go_simp; (try with_reducible rfl); done)); (try simp only [Act.put, lsa, lsz, lss]))
                (refine tkW 8 (v := ?_) hS ?_ ?_; rotate_left; (focus (intro x hx; have fx := HX.out x hx; go_simp; (try with_reducible rfl); done)); (try simp only [Act.put, lsa, lsz, lss]))
                (refine tkW 9 (v := ?_) hS ?_ ?_; rotate_left; (focus (intro x hx; have fx := HX.out x hx; go_simp; (try with_reducible rfl); done)); (try simp only [Act.put, lsa, lsz, lss]))
                (refine tkW 10 (v := ?_) hS ?_ ?_; rotate_left; (focus (intro x hx; have fx := HX.out x hx; go_simp; (try with_reducible rfl); done)); (try simp only [Act.put, lsa, lsz, lss]))
                (refine tkW 11 (v := ?_) hS ?_ ?_; rotate_left; (focus (intro x hx; have fx := HX.out x hx; go_simp; (try with_reducible rfl); done)); (try simp only [Act.put, lsa, lsz, lss]))
                (refine tkW 12 (v := ?_) hS ?_ ?_; rotate_left; (focus (intro x hx; have fx := HX.out x hx; go_simp; (try with_reducible rfl); done)); (try simp only [Act.put, lsa, lsz, lss]))
                refine wpAnyH_done (by kernel_rfl) ?_ _
                go_wp2_with fail
                go_meet
                exact ⟨congrArg Value.bool (by rw [hb5, less_ltS]; exact leq_lt _ _), HB1.out.drew, HG1.out⟩
            case rest =>
              obtain ⟨rfl, hB, hg⟩ := hcut
              have HB2 := Lib.hid hB; have HG2 := Lib.hid hg
              have hd := HD2.out
              clear hB hg HB1 HG1 HB5 HD2 p1
              cases b5 with
              | true =>
                have HD3 := Lib.hid (show v = 5 from hd)
                clear hd
                go_wp2_with fail
                go_ret
                exact ⟨ret_int HD3.out, HB2.out⟩
              | false =>
                have Hf3 : Hid (v = if ((t.take i).drop 0).any (fun g => underS t[i].path g.path) then 6 else checkT (t.take (i + 1)) (t.drop (i + 1))) := Lib.hid hd
                clear hd
                go_wp2_with fail
                go_loopw [5] (fun a wx => ∃ j : Nat, j ≤ i ∧ a = .int .i64 j ∧ Below w.heap.size w wx ∧ wx.heap[gb]? = some (.cells #[.string ⟨t[i].path.toArray⟩, .string ⟨t[i].data.toArray⟩] 73 (0, 0)) ∧ Hid (v = if ((t.take i).drop j).any (fun g => underS t[i].path g.path) then 6 else checkT (t.take (i + 1)) (t.drop (i + 1)))) (fun a _ => i - (intOf a).toNat)
                case atStart => exact ⟨0, by omega, rfl, HB2.out, HG2.out, Hf3⟩
                case round =>
                  obtain ⟨j, hj, rfl, hB, hg, hf⟩ := hrel
                  by_cases hji : j < i
                  · have hjt : j < t.length := by omega
                    obtain ⟨b8, o8, he, -, -, d0, -⟩ := (HSL.out.below hB).fil hjt
                    cases he
                    have hjl : j < (t.take i).length := by rw [List.length_take]; omega
                    have hd := hf.out
                    rw [drop_get hjl, List.any_cons, List.getElem_take] at hd
                    have hpj := HS.out _ (List.getElem_mem hjt)
                    have hbe := fun w => rbelow_any t[i].path t[j].path w (by omega) (by omega)
                    have p0 := (cell_blk hg 0).trans rfl
                    generalize underS t[i].path t[j].path = q at *
                    have HD3 := Lib.hid hd; have HBE := Lib.hid hbe; have HG3 := Lib.hid hg; have HB3 := Lib.hid hB
                    have hin : (j : Int) < (t.length : Int) := by omega
                    clear hd hbe hg hB hf Hf3 hpj hpl hjl
                    go_wp2_with fail
                    go_quiet ((go_at_call 94; exact Calls.quiet_of_same (HBE.out _)))
                    cases q with
                    | true =>
                      have HD4 := Lib.hid (show v = 6 from HD3.out)
                      go_wp2_with fail
                      go_ret
                      exact ⟨ret_int HD4.out, dN HB3.out _⟩
                    | false =>
                      go_wp2_with fail
                      go_roundw
                      case rel => exact ⟨j + 1, by omega, by go_num, dN HB3.out _, HG3.out, Lib.hid HD3.out⟩
                      case measure => simp [intOf]; omega
                  · obtain rfl : j = i := by omega
                    have hd := hf.out
                    rw [drop_end (show ¬ j < (t.take j).length by rw [List.length_take]; omega)] at hd
                    have HD3 := Lib.hid (show v = checkT (t.take (j + 1)) (t.drop (j + 1)) from hd)
                    clear hd hf Hf3
                    have HB3 := Lib.hid hB
                    clear hB hg
                    go_wp2_with fail
                    go_roundw
                    case rel => exact ⟨j + 1, by omega, by go_num, HB3.out, HD3⟩
                    case measure => simp [intOf]; omega
      · have hd : v = 0 := by rw [hf.out, drop_end hlt]; rfl
        subst hd
        go_wp2_with fail
        go_ret
        exact ⟨rfl, hb⟩
end Go.Proofs.YtpeamehplhpcjaaGreatDoor
namespace Go.Proofs.YtpeamehplhpcjaaGreatDoor
open Go.RowKit
structure RcP where
  tA : Option Addr
  tn : Nat
  tc : Nat
  fA : Option Addr
  fn : Nat
  fc : Nat
  mA : Option Addr
  mn : Nat
  mc : Nat
  iA : Option Addr
  ic : Nat
  hA : Option Addr
  hn : Nat
  hc : Nat
  lA : Option Addr
  ln : Nat
  lc : Nat
  oA : Option Addr
  oc : Nat
def rcC (q : RcP) (p : Bs) (s : Rst) : Array Value :=
  #[.slice q.tA q.tn q.tc, .string ⟨p.toArray⟩, .slice q.fA q.fn q.fc, .slice q.mA q.mn q.mc, .slice q.iA s.items.length q.ic, .slice q.hA q.hn q.hc, .slice q.lA q.ln q.lc, .slice q.oA s.opn.length q.oc, .int .i64 s.count]
structure RcB (W : World) (M : Nat → Prop) (B g : Nat) (q : RcP) (t : List Fil) (p : Bs) (s : Rst) : Prop where
  cells : W.heap[g]? = some (.cells (rcC q p s) 106 (0, 0))
  tree : Sl W (fun k => k < B) q.tA q.tn q.tc t
  flags : Sl W (fun k => ¬ M k) q.fA q.fn q.fc s.flags
  macs : Sl W (fun k => ¬ M k) q.mA q.mn q.mc s.macros
  items : Own W (fun k => ¬ M k) B 48 q.iA q.ic s.items
  heads : Sl W (fun k => ¬ M k) q.hA q.hn q.hc s.heads
  files : Sl W (fun k => ¬ M k) q.lA q.ln q.lc s.files
  opn : Own W (fun _ => False) B 9 q.oA q.oc s.opn
  own : ∀ k, (k = g ∨ q.iA.map Addr.block = some k ∨ q.oA.map Addr.block = some k) → M k
  old : ∀ k, M k → B ≤ k
  lt : ∀ k, M k → k < W.heap.size
  difi : ∀ k, q.iA.map Addr.block = some k → k ≠ g ∧ q.oA.map Addr.block ≠ some k
  difo : ∀ k, q.oA.map Addr.block = some k → k ≠ g
def qO (g : Nat) (q : RcP) (k : Nat) : Prop := k = g ∨ q.iA.map Addr.block = some k ∨ q.oA.map Addr.block = some k
structure RcT (W : World) (M : Nat → Prop) (g : Nat) (q : RcP) (W' : World) (M' : Nat → Prop) (q' : RcP) : Prop where
  out : ScOut W M W' M'
  sub : ∀ k, M k → M' k
  own : ScOut W (qO g q) W' (qO g q')
theorem RcT.below {W W' : World} (M : Nat → Prop) (g : Nat) (q : RcP) (hb : Below W.heap.size W W') : RcT W M g q W' M q := ⟨ScOut.below M hb, fun _ h => h, ScOut.below _ hb⟩
theorem RcT.trans {W W1 W2 : World} {M M1 M2 : Nat → Prop} {g : Nat} {q q1 q2 : RcP} (h : RcT W M g q W1 M1 q1) (h' : RcT W1 M1 g q1 W2 M2 q2) : RcT W M g q W2 M2 q2 := ⟨h.out.trans h'.out, fun k hk => h'.sub k (h.sub k hk), h.own.trans h'.own⟩
section
variable {W W' : World} {M : Nat → Prop} {B g : Nat} {q : RcP} {t : List Fil} {p : Bs} {s : Rst}
theorem RcB.below (H : RcB W M B g q t p s) (hb : Below W.heap.size W W') : RcB W' M B g q t p s where
  cells := keptBlk hb H.cells
  tree := H.tree.below hb
  flags := H.flags.below hb
  macs := H.macs.below hb
  items := H.items.below hb
  heads := H.heads.below hb
  files := H.files.below hb
  opn := H.opn.below hb
  own := H.own
  old := H.old
  lt := fun k hk => Nat.lt_of_lt_of_le (H.lt k hk) hb.size
  difi := H.difi
  difo := H.difo
theorem RcB.alloc (H : RcB W M B g q t p s) (o : Obj) : RcB (W.alloc o) M B g q t p s := H.below ((Below.refl _ _).alloc (Nat.le_refl _) _)
theorem RcB.turn (H : RcB W M B g q t p s) (q' : RcP) (s' : Rst) (hc : W'.heap[g]? = some (.cells (rcC q' p s') 106 (0, 0)))
    (ht : q'.tA = q.tA ∧ q'.tn = q.tn ∧ q'.tc = q.tc) (hi : q'.iA = q.iA ∧ q'.ic = q.ic ∧ s'.items = s.items) (ho : q'.oA = q.oA ∧ q'.oc = q.oc ∧ s'.opn = s.opn)
    (hk : ∀ k, k < W.heap.size → k ≠ g → W'.heap[k]? = W.heap[k]?) (hz : W.heap.size ≤ W'.heap.size)
    (hfl : Sl W' (fun k => ¬ M k) q'.fA q'.fn q'.fc s'.flags) (hma : Sl W' (fun k => ¬ M k) q'.mA q'.mn q'.mc s'.macros)
    (hhd : Sl W' (fun k => ¬ M k) q'.hA q'.hn q'.hc s'.heads) (hfi : Sl W' (fun k => ¬ M k) q'.lA q'.ln q'.lc s'.files) : RcB W' M B g q' t p s' where
  cells := hc
  tree := by rw [ht.1, ht.2.1, ht.2.2]; exact H.tree.keep fun k hk' hb => hk k hk' (fun e => by have := H.old g (H.own g (.inl rfl)); have hb : k < B := hb; omega)
  flags := hfl
  macs := hma
  items := by
    rw [hi.1, hi.2.1, hi.2.2]
    exact H.items.keep fun k hk' hb => hk k hk' (fun e => by
      subst e
      rcases hb with hb | hb
      · exact hb (H.own k (.inl rfl))
      · exact (H.difi k hb).1 rfl)
  heads := hhd
  files := hfi
  opn := by
    rw [ho.1, ho.2.1, ho.2.2]
    exact H.opn.keep fun k hk' hb => hk k hk' (fun e => by
      subst e
      rcases hb with hb | hb
      · exact hb
      · exact (H.difo k hb) rfl)
  own := by rw [hi.1, ho.1]; exact H.own
  old := H.old
  lt := fun k hk => Nat.lt_of_lt_of_le (H.lt k hk) hz
  difi := by rw [hi.1, ho.1]; exact H.difi
  difo := by rw [ho.1]; exact H.difo
theorem RcB.oldf (H : RcB W M B g q t p s) (hk : ∀ k, k < W.heap.size → k ≠ g → W'.heap[k]? = W.heap[k]?) {α : Type} [GoT α] {A : Option Addr} {n c : Nat} {xs : List α} (h : Sl W (fun k => ¬ M k) A n c xs) : Sl W' (fun k => ¬ M k) A n c xs :=
  h.keep fun k hk' hM => hk k hk' (fun e => hM (e ▸ H.own g (.inl rfl)))
theorem RcB.turned (H : RcB W M B g q t p s) (hk : ∀ k, k < W.heap.size → k ≠ g → W'.heap[k]? = W.heap[k]?) (hz : W.heap.size ≤ W'.heap.size) (ho : W'.os = W.os) (hta : W'.tape = W.tape) (hou : W'.output = W.output) : ScOut W M W' M :=
  ⟨fun _ h => .inl h, ho, hta, hou, hz, fun k hk' hm => hk k hk' (fun e => hm (e ▸ H.own g (.inl rfl)))⟩
theorem RcB.turnedT (H : RcB W M B g q t p s) {q' : RcP} (hi : q'.iA = q.iA) (hq : q'.oA = q.oA) (hk : ∀ k, k < W.heap.size → k ≠ g → W'.heap[k]? = W.heap[k]?) (hz : W.heap.size ≤ W'.heap.size) (ho : W'.os = W.os) (hta : W'.tape = W.tape) (hou : W'.output = W.output) : RcT W M g q W' M q' :=
  ⟨H.turned hk hz ho hta hou, fun _ h => h, ⟨fun k h => .inl (by unfold qO at h ⊢; rw [hi, hq] at h; exact h), ho, hta, hou, hz, fun k hk' hm => hk k hk' (fun e => hm (.inl e))⟩⟩
theorem RcB.slices (H : RcB W M B g q t p s) (xs : List Itm) (ys : List Bs) {A' : Option Addr} {c' : Nat} {O' : Option Addr} {d' : Nat}
    (hc : W'.heap[g]? = some (.cells (rcC { q with iA := A', ic := c', oA := O', oc := d' } p { s with items := xs, opn := ys }) 106 (0, 0)))
    (hi : Own W' (fun k => ¬ M k ∧ O'.map Addr.block ≠ some k) B 48 A' c' xs) (ho : Own W' (fun _ => False) B 9 O' d' ys)
    (hf : Frm (fun k => k = g ∨ q.iA.map Addr.block = some k ∨ q.oA.map Addr.block = some k) W W')
    (hat : A'.map Addr.block = q.iA.map Addr.block ∨ ∃ z, A'.map Addr.block = some z ∧ W.heap.size ≤ z) (hao : O'.map Addr.block = q.oA.map Addr.block ∨ ∃ z, O'.map Addr.block = some z ∧ W.heap.size ≤ z)
    (hdd : ∀ k, A'.map Addr.block = some k → O'.map Addr.block ≠ some k) :
    ∃ M', RcB W' M' B g { q with iA := A', ic := c', oA := O', oc := d' } t p { s with items := xs, opn := ys } ∧ RcT W M g q W' M' { q with iA := A', ic := c', oA := O', oc := d' } := by
  have hz := hf.size
  have hg := H.own g (.inl rfl)
  have hMi : ∀ k, q.iA.map Addr.block = some k → M k := fun k e => H.own k (.inr (.inl e))
  have hMo : ∀ k, q.oA.map Addr.block = some k → M k := fun k e => H.own k (.inr (.inr e))
  have hkM : ∀ k, k < W.heap.size → ¬ M k → W'.heap[k]? = W.heap[k]? := fun k hk' hm => hf.block k hk' (fun h => hm (by
    rcases h with h | h | h
    · exact h ▸ hg
    · exact hMi k h
    · exact hMo k h))
  have hnewi : ∀ k, A'.map Addr.block = some k → M k ∨ W.heap.size ≤ k := fun k e => by
    rcases hat with h | ⟨z, h, hq⟩
    · exact .inl (hMi k (h ▸ e))
    · rw [h] at e; injection e with e; exact .inr (by omega)
  have hnewo : ∀ k, O'.map Addr.block = some k → M k ∨ W.heap.size ≤ k := fun k e => by
    rcases hao with h | ⟨z, h, hq⟩
    · exact .inl (hMo k (h ▸ e))
    · rw [h] at e; injection e with e; exact .inr (by omega)
  have hMM : ∀ k, k < W.heap.size → (M k ∨ A'.map Addr.block = some k ∨ O'.map Addr.block = some k) → M k := fun k hk' h => by
    rcases h with h | h | h
    · exact h
    · exact (hnewi k h).elim id fun h => absurd hk' (by omega)
    · exact (hnewo k h).elim id fun h => absurd hk' (by omega)
  have hl : ∀ j k, M j → W.heap.size ≤ k → k ≠ j := fun j k hj hk e => by have := H.lt j hj; omega
  have hsl : ∀ {α : Type} [GoT α] {A : Option Addr} {n c : Nat} {zs : List α} (_ : 0 < GoT.size α), Sl W (fun k => ¬ M k) A n c zs → Sl W' (fun k => ¬ (M k ∨ A'.map Addr.block = some k ∨ O'.map Addr.block = some k)) A n c zs :=
    fun hz0 h => (h.wide (S' := fun k => ¬ (M k ∨ A'.map Addr.block = some k ∨ O'.map Addr.block = some k)) (fun k hk' hn hm => hn (hMM k hk' hm)) hz0).keep fun k hk' hn => hkM k hk' fun h => hn (.inl h)
  refine ⟨fun k => M k ∨ A'.map Addr.block = some k ∨ O'.map Addr.block = some k, ⟨hc, H.tree.keep fun k hk' hb => hkM k hk' (fun hm => by have := H.old k hm; have hb : k < B := hb; omega), hsl (by decide) H.flags, hsl (by decide) H.macs, ?_, hsl (by decide) H.heads, hsl (by decide) H.files, ho, ?_, ?_, ?_, ?_, ?_⟩, ⟨?_, ?_⟩, fun _ h => .inl h, ⟨?_, hf⟩⟩
  · obtain ⟨cs, h1, h3⟩ := hi
    exact ⟨cs, h1, fun i hi => GoT.wide (fun k _ hk => ⟨fun hm => hm.elim hk.1.1 (fun h => h.elim hk.2 hk.1.2), hk.2⟩) (h3 i hi)⟩
  · rintro k (h | h | h)
    · exact .inl (H.own k (.inl h))
    · exact .inr (.inl h)
    · exact .inr (.inr h)
  · rintro k (h | h | h)
    · exact H.old k h
    · exact (hi.lt k h).1
    · exact (ho.lt k h).1
  · rintro k (h | h | h)
    · have := H.lt k h; omega
    · exact (hi.lt k h).2
    · exact (ho.lt k h).2
  · intro k e
    have hd := hdd k e
    rcases hat with h | ⟨z, h, hq⟩
    · exact ⟨(H.difi k (h ▸ e)).1, hd⟩
    · have hkq : k = z := by have e : A'.map Addr.block = some k := e
                             rw [h] at e; injection e with e; exact e.symm
      exact ⟨hl _ k hg (by omega), hd⟩
  · intro k e
    rcases hao with h | ⟨z, h, hq⟩
    · exact H.difo k (h ▸ e)
    · have hkq : k = z := by have e : O'.map Addr.block = some k := e
                             rw [h] at e; injection e with e; exact e.symm
      exact hl _ k hg (by omega)
  · rintro k (h | h | h)
    · exact .inl h
    · exact hnewi k h
    · exact hnewo k h
  · exact hf.mono fun k _ h => by
      rcases h with h | h | h
      · exact h ▸ hg
      · exact hMi k h
      · exact hMo k h
  · rintro k (h | h | h)
    · exact .inl (.inl h)
    · rcases hat with h' | ⟨z, h', hq⟩
      · exact .inl (.inr (.inl (h' ▸ h)))
      · have h : A'.map Addr.block = some k := h
        rw [h'] at h; injection h with h; exact .inr (by omega)
    · rcases hao with h' | ⟨z, h', hq⟩
      · exact .inl (.inr (.inr (h' ▸ h)))
      · have h : O'.map Addr.block = some k := h
        rw [h'] at h; injection h with h; exact .inr (by omega)
theorem RcB.app (H : RcB W M B g q t p s) (x : Itm) {A' : Option Addr} {c' : Nat}
    (hc : W'.heap[g]? = some (.cells (rcC { q with iA := A', ic := c' } p { s with items := s.items ++ [x] }) 106 (0, 0)))
    (hi : Own W' (fun k => ¬ M k) B 48 A' c' (s.items ++ [x]))
    (hf : Frm (fun k => k = g ∨ q.iA.map Addr.block = some k) W W') (hat : A'.map Addr.block = q.iA.map Addr.block ∨ ∃ z, A'.map Addr.block = some z ∧ W.heap.size ≤ z) :
    ∃ M', RcB W' M' B g { q with iA := A', ic := c' } t p { s with items := s.items ++ [x] } ∧ RcT W M g q W' M' { q with iA := A', ic := c' } := by
  have hMo : ∀ k, q.oA.map Addr.block = some k → M k := fun k e => H.own k (.inr (.inr e))
  have ho : Own W' (fun _ => False) B 9 q.oA q.oc s.opn := H.opn.keep fun k hk hb => hf.block k hk (fun h => by
    rcases hb with hb | hb
    · exact hb
    · rcases h with h | h
      · exact (H.difo k hb) h
      · exact (H.difi k h).2 hb)
  refine H.slices (s.items ++ [x]) s.opn hc (hi.wide fun k _ hk => ⟨hk, fun e => hk (hMo k e)⟩) ho (hf.mono fun k _ h => by rcases h with h | h; exact .inl h; exact .inr (.inl h)) hat (.inl rfl) (fun k e eo => ?_)
  rcases hat with h | ⟨z, h, hq⟩
  · exact (H.difi k (h ▸ e)).2 eo
  · have := H.lt k (hMo k eo)
    rw [h] at e; injection e with e; omega
theorem RcB.opened (H : RcB W M B g q t p s) (ys : List Bs) {O' : Option Addr} {d' : Nat}
    (hc : W'.heap[g]? = some (.cells (rcC { q with oA := O', oc := d' } p { s with opn := ys }) 106 (0, 0)))
    (ho : Own W' (fun _ => False) B 9 O' d' ys)
    (hf : Frm (fun k => k = g ∨ q.oA.map Addr.block = some k) W W') (hao : O'.map Addr.block = q.oA.map Addr.block ∨ ∃ z, O'.map Addr.block = some z ∧ W.heap.size ≤ z) :
    ∃ M', RcB W' M' B g { q with oA := O', oc := d' } t p { s with opn := ys } ∧ RcT W M g q W' M' { q with oA := O', oc := d' } := by
  have hMo : ∀ k, q.oA.map Addr.block = some k → M k := fun k e => H.own k (.inr (.inr e))
  have hMi : ∀ k, q.iA.map Addr.block = some k → M k := fun k e => H.own k (.inr (.inl e))
  have hi0 : Own W (fun k => ¬ M k ∧ O'.map Addr.block ≠ some k) B 48 q.iA q.ic s.items := H.items.wide fun k hk hm => ⟨hm, fun e => by
    rcases hao with h | ⟨z, h, hq⟩
    · exact hm (hMo k (h ▸ e))
    · rw [h] at e; injection e with e; omega⟩
  have hi : Own W' (fun k => ¬ M k ∧ O'.map Addr.block ≠ some k) B 48 q.iA q.ic s.items := hi0.keep fun k hk hb => hf.block k hk (fun h => by
    rcases hb with hb | hb
    · rcases h with h | h
      · exact hb.1 (h ▸ H.own g (.inl rfl))
      · exact hb.1 (hMo k h)
    · rcases h with h | h
      · exact (H.difi k hb).1 h
      · exact (H.difi k hb).2 h)
  refine H.slices s.items ys hc hi ho (hf.mono fun k _ h => by rcases h with h | h; exact .inl h; exact .inr (.inr h)) (.inl rfl) hao (fun k e eo => ?_)
  rcases hao with h | ⟨z, h, hq⟩
  · exact (H.difi k e).2 (h ▸ eo)
  · have := H.lt k (hMi k e)
    rw [h] at eo; injection eo with eo; omega
end
def RcW (W : World) (M : Nat → Prop) (B g : Nat) (t : List Fil) (p : Bs) (s : Rst) : Prop := ∃ q, RcB W M B g q t p s
theorem RcW.below {W W' : World} {M : Nat → Prop} {B g : Nat} {t : List Fil} {p : Bs} {s : Rst} (H : RcW W M B g t p s) (hb : Below W.heap.size W W') : RcW W' M B g t p s := by
  obtain ⟨q, H⟩ := H
  exact ⟨q, H.below hb⟩
theorem RcW.old {W : World} {M : Nat → Prop} {B g : Nat} {t : List Fil} {p : Bs} {s : Rst} (H : RcW W M B g t p s) : ∀ k, M k → B ≤ k ∧ k < W.heap.size := by
  obtain ⟨q, H⟩ := H
  exact fun k hk => ⟨H.old k hk, H.lt k hk⟩
theorem RcW.at_ {W : World} {M : Nat → Prop} {B g : Nat} {t : List Fil} {p : Bs} {s : Rst} (H : RcW W M B g t p s) : M g := by
  obtain ⟨q, H⟩ := H
  exact H.own g (.inl rfl)
def RcR (W : World) (M : Nat → Prop) (B g : Nat) (q : RcP) (t : List Fil) (p : Bs) (v : Value) (s : Rst) (e : Ending) (w' : World) : Prop := e = .returned v ∧ ∃ M' q', RcB w' M' B g q' t p s ∧ RcT W M g q w' M' q'
end Go.Proofs.YtpeamehplhpcjaaGreatDoor
