/- A part of the proofs of the laws of one package; see the law's own text, which comes last in 'order'. No conditions of its own. -/
import Derived.Test.YtpeamehplhpcjaaGreatDoorWC13
import Derived.Test.YtpeamehplhpcjaaGreatDoorWC16
set_option linter.unusedVariables false
set_option linter.unusedSimpArgs false
namespace Go.Proofs.YtpeamehplhpcjaaGreatDoor
open Go.RowKit
set_option maxHeartbeats 1000000 in
theorem sameStr_any (A A' : Option Addr) (n c n' c' : Nat) (w : World) (S S' : Nat → Prop) (l : List Bs) (hl : Sl w S A n c l) (hl' : Sl w S' A' n' c' l) :
    Calls Tryz.prog 62 #[.slice A n c, .slice A' n' c'] w fun e w' => e = .returned (.bool true) ∧ Below w.heap.size w w' := by
  have hn := hl.le
  have hlen := hl.len
  subst hlen
  have hlen' := hl'.len
  subst hlen'
  have HL := Lib.hid hl; clear hl
  have HL' := Lib.hid hl'; clear hl'
  go_enter Tryz.func62, Tryz.ntmps62
  go_wp2
  go_loopw [13] (fun i wr => ∃ k : Nat, k ≤ l.length ∧ i = .int .i64 k ∧ Below w.heap.size w wr) (fun i _ => l.length - (intOf i).toNat)
  case atStart => exact ⟨0, by omega, rfl, Below.refl _ _⟩
  case round =>
    obtain ⟨k, hk, rfl, hb⟩ := hrel
    by_cases hlt : k < l.length
    · obtain ⟨b, o, rfl, -, hbs, h1⟩ := (HL.out.below hb).str hlt
      obtain ⟨b', o', rfl, -, hbs', h1'⟩ := (HL'.out.below hb).str hlt
      go_wp2
      go_quiet (fail)
      go_wp2
      go_roundw
      case rel => exact ⟨k + 1, by omega, by go_num, dN hb _⟩
      case measure => simp [intOf]; omega
    · go_wp2
      go_ret
      exact ⟨rfl, hb⟩
set_option maxHeartbeats 1000000 in
theorem sameLns_any (A A' : Option Addr) (n c n' c' : Nat) (w : World) (S S' : Nat → Prop) (l : List Spn) (hl : Sl w S A n c l) (hl' : Sl w S' A' n' c' l) :
    Calls Tryz.prog 63 #[.slice A n c, .slice A' n' c'] w fun e w' => e = .returned (.bool true) ∧ Below w.heap.size w w' := by
  have hn := hl.le
  have hlen := hl.len
  subst hlen
  have hlen' := hl'.len
  subst hlen'
  have HL := Lib.hid hl; clear hl
  have HL' := Lib.hid hl'; clear hl'
  go_enter Tryz.func63, Tryz.ntmps63
  go_wp2
  go_loopw [13] (fun i wr => ∃ k : Nat, k ≤ l.length ∧ i = .int .i64 k ∧ Below w.heap.size w wr) (fun i _ => l.length - (intOf i).toNat)
  case atStart => exact ⟨0, by omega, rfl, Below.refl _ _⟩
  case round =>
    obtain ⟨k, hk, rfl, hb⟩ := hrel
    by_cases hlt : k < l.length
    · obtain ⟨b, o, rfl, -, hbs, h1, h2, h3⟩ := (HL.out.below hb).spn hlt
      obtain ⟨b', o', rfl, -, hbs', h1', h2', h3'⟩ := (HL'.out.below hb).spn hlt
      go_wp2
      go_quiet (fail)
      go_wp2
      go_roundw
      case rel => exact ⟨k + 1, by omega, by go_num, dN hb _⟩
      case measure => simp [intOf]; omega
    · go_wp2
      go_ret
      exact ⟨rfl, hb⟩
set_option maxHeartbeats 1000000 in
theorem sameItm_any (w : World) (S S' : Nat → Prop) (v v' : Value) (x : Itm) (h : VItm w S v x) (h' : VItm w S' v' x) :
    Calls Tryz.prog 19 #[v, v'] w fun e w' => e = .returned (.bool true) ∧ Below w.heap.size w w' := by
  obtain ⟨A, n, c, rfl, hs⟩ := h
  obtain ⟨A', n', c', rfl, hs'⟩ := h'
  have HS := Lib.hid hs; have HS' := Lib.hid hs'
  clear hs hs'
  go_enter Tryz.func19, Tryz.ntmps19
  go_upto_region 1 with fail
  have hq1 := blkOld (blkAt w (.cells #[.string ⟨x.name.toArray⟩, .int .i64 x.kind, .int .i64 x.mode, .slice A n c, .string ⟨x.body.path.toArray⟩, .int .i64 x.body.fr, .int .i64 x.body.tu] 48) rfl) (.cells #[.string ⟨x.name.toArray⟩, .int .i64 x.kind, .int .i64 x.mode, .slice A' n' c', .string ⟨x.body.path.toArray⟩, .int .i64 x.body.fr, .int .i64 x.body.tu] 48)
  have hq2 := blkAt (w.alloc (.cells #[.string ⟨x.name.toArray⟩, .int .i64 x.kind, .int .i64 x.mode, .slice A n c, .string ⟨x.body.path.toArray⟩, .int .i64 x.body.fr, .int .i64 x.body.tu] 48)) (.cells #[.string ⟨x.name.toArray⟩, .int .i64 x.kind, .int .i64 x.mode, .slice A' n' c', .string ⟨x.body.path.toArray⟩, .int .i64 x.body.fr, .int .i64 x.body.tu] 48) rfl
  have hb : Below w.heap.size w ((w.alloc (.cells #[.string ⟨x.name.toArray⟩, .int .i64 x.kind, .int .i64 x.mode, .slice A n c, .string ⟨x.body.path.toArray⟩, .int .i64 x.body.fr, .int .i64 x.body.tu] 48)).alloc (.cells #[.string ⟨x.name.toArray⟩, .int .i64 x.kind, .int .i64 x.mode, .slice A' n' c', .string ⟨x.body.path.toArray⟩, .int .i64 x.body.fr, .int .i64 x.body.tu] 48)) := by ((repeat (first | (with_reducible exact Below.refl _ _) | (with_reducible refine belowA ?_ _) | (with_reducible refine belowD ?_) | (with_reducible refine belowS ?_ (Nat.le_refl _) _ _) | (with_reducible refine next ?_ (by assumption) (Nat.le_refl _)))); done)
  rw [show (w.alloc (.cells #[.string ⟨x.name.toArray⟩, .int .i64 x.kind, .int .i64 x.mode, .slice A n c, .string ⟨x.body.path.toArray⟩, .int .i64 x.body.fr, .int .i64 x.body.tu] 48)).heap.size = w.heap.size + 1 by simp] at hq2
  generalize ((w.alloc (.cells #[.string ⟨x.name.toArray⟩, .int .i64 x.kind, .int .i64 x.mode, .slice A n c, .string ⟨x.body.path.toArray⟩, .int .i64 x.body.fr, .int .i64 x.body.tu] 48)).alloc (.cells #[.string ⟨x.name.toArray⟩, .int .i64 x.kind, .int .i64 x.mode, .slice A' n' c', .string ⟨x.body.path.toArray⟩, .int .i64 x.body.fr, .int .i64 x.body.tu] 48)) = W at *
  have p0 := (cell_blk hq1 0).trans rfl; have p1 := (cell_blk hq1 1).trans rfl; have p2 := (cell_blk hq1 2).trans rfl; have p3 := (cell_blk hq1 3).trans rfl; have p4 := (cell_blk hq1 4).trans rfl; have p5 := (cell_blk hq1 5).trans rfl; have p6 := (cell_blk hq1 6).trans rfl
  have q0 := (cell_blk hq2 0).trans rfl; have q1 := (cell_blk hq2 1).trans rfl; have q2 := (cell_blk hq2 2).trans rfl; have q3 := (cell_blk hq2 3).trans rfl; have q4 := (cell_blk hq2 4).trans rfl; have q5 := (cell_blk hq2 5).trans rfl; have q6 := (cell_blk hq2 6).trans rfl
  have HB := Lib.hid hb
  clear hb hq1 hq2
  go_wp2_with fail
  refine (sameStr_any A A' n c n' c' W _ _ _ (HS.out.below HB.out) (HS'.out.below HB.out)).mono ?_
  rintro e w1 ⟨rfl, hb1⟩
  have HB1 := Lib.hid (HB.out.trans (hb1.mono HB.out.size)); clear hb1
  go_wp2_with fail
  go_ret
  exact ⟨rfl, HB1.out⟩
def fewGo (size : Int) : List Fil → Int → Bool
  | [], _ => true
  | f :: r, n => !(decide (300 < (f.path.length : Int)) || decide (size < IntKind.i64.wrap (n + f.data.length))) && fewGo size r (IntKind.i64.wrap (n + f.data.length))
def fewT (t : List Fil) (files size : Int) : Bool := decide ((t.length : Int) ≤ files) && fewGo size t 0
theorem fewGo_path (size : Int) : ∀ (t : List Fil) (n : Int), fewGo size t n = true → ∀ f ∈ t, f.path.length ≤ 300 := by
  intro t
  induction t with
  | nil => intro n _ f hf; cases hf
  | cons x r ih =>
    intro n h f hf
    unfold fewGo at h
    simp only [Bool.and_eq_true, Bool.not_eq_true', Bool.or_eq_false_iff, decide_eq_false_iff_not] at h
    rcases List.mem_cons.1 hf with rfl | hf
    · have := h.1.1; omega
    · exact ih _ h.2 f hf
theorem fewT_ok {t : List Fil} {files size : Int} (h : fewT t files size = true) : (t.length : Int) ≤ files ∧ ∀ f ∈ t, f.path.length ≤ 300 := by
  unfold fewT at h
  simp only [Bool.and_eq_true, decide_eq_true_eq] at h
  exact ⟨h.1, fewGo_path _ _ _ h.2⟩
set_option maxHeartbeats 2000000 in
theorem rfew_any (A : Option Addr) (n c : Nat) (w : World) (S : Nat → Prop) (t : List Fil) (hl : Sl w S A n c t) (files size : Int) :
    Calls Tryz.prog 45 #[.slice A n c, .int .i64 files, .int .i64 size] w fun e w' => e = .returned (.bool (fewT t files size)) ∧ Below w.heap.size w w' := by
  have hn := hl.le
  have hlen := hl.len
  subst hlen
  have HL := Lib.hid hl; clear hl
  obtain ⟨v, hv⟩ : ∃ v, v = fewT t files size := ⟨_, rfl⟩
  rw [← hv]
  unfold fewT at hv
  by_cases h1 : files < (t.length : Int)
  · have HV : Hid (v = false) := Lib.hid (by rw [hv, show decide ((t.length : Int) ≤ files) = false by rw [decide_eq_false_iff_not]; omega]; rfl)
    clear hv
    go_enter Tryz.func45, Tryz.ntmps45
    go_wp2_with fail
    go_ret
    exact ⟨ret_bool HV.out, Below.refl _ _⟩
  · have Hf : Hid (v = fewGo size (t.drop 0) 0) := Lib.hid (by rw [hv, show decide ((t.length : Int) ≤ files) = true by rw [decide_eq_true_eq]; omega]; rfl)
    clear hv
    go_enter Tryz.func45, Tryz.ntmps45
    go_wp2_with fail
    clear h1
    go_loopw [7, 16] (fun a i wr => ∃ (k : Nat) (m : Int), k ≤ t.length ∧ a = .int .i64 m ∧ i = .int .i64 k ∧ Below w.heap.size w wr ∧ Hid (v = fewGo size (t.drop k) m)) (fun _ i _ => t.length - (intOf i).toNat)
    case atStart => exact ⟨0, 0, by omega, rfl, rfl, Below.refl _ _, Hf⟩
    case round =>
      obtain ⟨k, m, hk, rfl, rfl, hb, hf⟩ := hrel
      by_cases hlt : k < t.length
      · obtain ⟨b, o, rfl, -, hbs, h1, h2⟩ := (HL.out.below hb).fil hlt
        have hd := hf.out
        rw [drop_get hlt, fewGo] at hd
        clear hf
        generalize t[k] = f at *
        obtain ⟨fp, fd⟩ := f
        simp only at hd h1 h2
        by_cases hp : (300 : Int) < (fp.length : Int)
        · have HD : Hid (v = false) := Lib.hid (by rw [hd, decide_eq_true hp]; rfl)
          clear hd
          go_wp2_with fail
          go_ret
          exact ⟨ret_bool HD.out, hb.alloc hb.size _⟩
        · rw [decide_eq_false hp, Bool.false_or] at hd
          generalize hM : IntKind.i64.wrap (m + (fd.length : Int)) = M at *
          by_cases hs : size < M
          · have HD : Hid (v = false) := Lib.hid (by rw [hd, decide_eq_true hs]; rfl)
            clear hd
            go_wp2_with fail
            go_ret
            exact ⟨ret_bool HD.out, hb.alloc hb.size _⟩
          · have HD : Hid (v = fewGo size (t.drop (k + 1)) M) := Lib.hid (by rw [hd, decide_eq_false hs]; rfl)
            clear hd
            go_wp2_with fail
            go_roundw
            case rel => exact ⟨k + 1, M, by omega, rfl, by go_num, hb.alloc hb.size _, HD⟩
            case measure => simp [intOf]; omega
      · have HD : Hid (v = true) := Lib.hid (by rw [hf.out, drop_end hlt]; rfl)
        go_wp2
        go_ret
        exact ⟨ret_bool HD.out, hb⟩
def few6S (t : List Fil) (fl : List Bs) : Bool := fl.all (fun s => decide (s.length ≤ 100)) && (fewT t 20 6000 && (decide (fl.length ≤ 20) || (decide (126 < fl.length) && decide (fl.length < 132))))
theorem few6_ok {t : List Fil} {fl : List Bs} (h : few6S t fl = true) : (∀ f ∈ t, f.path.length ≤ 300) ∧ t.length ≤ 20 ∧ (∀ s ∈ fl, s.length ≤ 100) ∧ fl.length ≤ 131 := by
  unfold few6S at h
  simp only [Bool.and_eq_true, Bool.or_eq_true, List.all_eq_true, decide_eq_true_eq] at h
  have := fewT_ok h.2.1
  exact ⟨this.2, by omega, h.1, by omega⟩
set_option maxHeartbeats 2000000 in
theorem few6_any (A A2 : Option Addr) (n c n2 c2 : Nat) (w : World) (S S2 : Nat → Prop) (t : List Fil) (fl : List Bs) (hl : Sl w S A n c t) (hl2 : Sl w S2 A2 n2 c2 fl) :
    Calls Tryz.prog 12 #[.slice A n c, .slice A2 n2 c2] w fun e w' => e = .returned (.bool (few6S t fl)) ∧ Below w.heap.size w w' := by
  have hn := hl2.le
  have hlen := hl2.len
  subst hlen
  have HT := Lib.hid hl; have HL := Lib.hid hl2; clear hl hl2
  have hfw := fun w h => rfew_any A n c w S t h 20 6000
  obtain ⟨p, hp⟩ : ∃ p : Bs → Bool, p = (fun s => decide (s.length ≤ 100)) := ⟨_, rfl⟩
  obtain ⟨v, hv⟩ : ∃ v, v = few6S t fl := ⟨_, rfl⟩
  rw [← hv]
  unfold few6S at hv
  generalize fewT t 20 6000 = q at *
  obtain ⟨v2, hv2⟩ : ∃ v2, v2 = (q && (decide (fl.length ≤ 20) || (decide (126 < fl.length) && decide (fl.length < 132)))) := ⟨_, rfl⟩
  rw [← hp, ← hv2] at hv
  have Hf : Hid (v = ((fl.drop 0).all p && v2)) := hv
  have Hp := Lib.hid hp; have HV2 := Lib.hid hv2; have HF := Lib.hid hfw
  clear hp hv hv2 hfw
  go_enter Tryz.func12, Tryz.ntmps12
  go_wp2_with fail
  go_loop [9] (fun i => ∃ k : Nat, k ≤ fl.length ∧ i = .int .i64 k ∧ Hid (v = ((fl.drop k).all p && v2))) (fun i => fl.length - (intOf i).toNat)
  case atStart => exact ⟨0, by omega, rfl, Hf⟩
  case round =>
    obtain ⟨k, hk, rfl, hf⟩ := hrel
    by_cases hlt : k < fl.length
    · obtain ⟨b, o, rfl, -, hbs, h1⟩ := HL.out.str hlt
      have hd := hf.out
      rw [drop_get hlt, List.all_cons] at hd
      clear hf
      generalize fl[k] = s at *
      by_cases hs : (100 : Int) < (s.length : Int)
      · have HD : Hid (v = false) := Lib.hid (by rw [hd, Hp.out]; simp only; rw [decide_eq_false (by omega)]; rfl)
        clear hd
        go_wp2_with fail
        go_ret
        exact ⟨ret_bool HD.out, Below.refl _ _⟩
      · have HD : Hid (v = ((fl.drop (k + 1)).all p && v2)) := Lib.hid (by rw [hd, Hp.out]; simp only; rw [decide_eq_true (show s.length ≤ 100 by omega)]; rfl)
        clear hd
        go_wp2_with fail
        go_round
        case rel => exact ⟨k + 1, by omega, by go_num, HD⟩
        case measure => simp [intOf]; omega
    · have HD : Hid (v = v2) := Lib.hid (by rw [hf.out, drop_end hlt]; rfl)
      clear hf Hf
      go_wp2_with fail
      refine (HF.out _ HT.out).mono ?_
      rintro e w1 ⟨rfl, hb⟩
      have HB := Lib.hid hb; clear hb
      have h2 := HV2.out
      cases q
      · have HD2 := Lib.hid (HD.out.trans h2)
        clear h2
        go_wp2_with fail
        go_ret
        exact ⟨ret_bool (by first | exact HD2.out | (rw [HD2.out]; symm; simp; omega) | (rw [HD2.out]; simp; omega)), HB.out⟩
      · by_cases h20 : (fl.length : Int) ≤ 20
        · have HD2 := Lib.hid (show v = true from HD.out.trans (h2.trans (by rw [decide_eq_true (show fl.length ≤ 20 by omega)]; rfl)))
          clear h2
          go_wp2_with fail
          go_ret
          exact ⟨ret_bool (by first | exact HD2.out | (rw [HD2.out]; symm; simp; omega) | (rw [HD2.out]; simp; omega)), HB.out⟩
        · by_cases h126 : (126 : Int) < (fl.length : Int)
          · by_cases h132 : (fl.length : Int) < 132
            · have HD2 := Lib.hid (show v = true from HD.out.trans (h2.trans (by rw [decide_eq_true (show 126 < fl.length by omega), decide_eq_true (show fl.length < 132 by omega)]; simp)))
              clear h2
              go_wp2_with fail
              go_ret
              exact ⟨ret_bool (by first | exact HD2.out | (rw [HD2.out]; symm; simp; omega) | (rw [HD2.out]; simp; omega)), HB.out⟩
            · have HD2 := Lib.hid (show v = false from HD.out.trans (h2.trans (by rw [decide_eq_false (show ¬ fl.length ≤ 20 by omega), decide_eq_false (show ¬ fl.length < 132 by omega)]; simp)))
              clear h2
              go_wp2_with fail
              go_ret
              exact ⟨ret_bool (by first | exact HD2.out | (rw [HD2.out]; symm; simp; omega) | (rw [HD2.out]; simp; omega)), HB.out⟩
          · have HD2 := Lib.hid (show v = false from HD.out.trans (h2.trans (by rw [decide_eq_false (show ¬ fl.length ≤ 20 by omega), decide_eq_false (show ¬ 126 < fl.length by omega)]; simp)))
            clear h2
            go_wp2_with fail
            go_ret
            exact ⟨ret_bool (by first | exact HD2.out | (rw [HD2.out]; symm; simp; omega) | (rw [HD2.out]; simp; omega)), HB.out⟩
end Go.Proofs.YtpeamehplhpcjaaGreatDoor
