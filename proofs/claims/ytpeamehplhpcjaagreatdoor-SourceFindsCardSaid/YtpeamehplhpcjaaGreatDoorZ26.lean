/- A part of the proofs of the laws of one package; see the law's own text, which comes last in 'order'. No conditions of its own. -/
import Derived.Test.YtpeamehplhpcjaaGreatDoorZ11
import Derived.Test.YtpeamehplhpcjaaGreatDoorZ13
import Derived.Test.YtpeamehplhpcjaaGreatDoorZ22
set_option linter.unusedVariables false
set_option linter.unusedSimpArgs false
namespace Go.Proofs.YtpeamehplhpcjaaGreatDoor
open Go.RowKit
set_option maxHeartbeats 1000000 in
theorem sameStr_any (A A' : Option Addr) (n c n' c' : Nat) (w : World) (S S' : Nat → Prop) (l : List Bs) (hl : Sl w S A n c l) (hl' : Sl w S' A' n' c' l) :
    Calls Tryz.prog 62 #[.slice A n c, .slice A' n' c'] w fun e w' => e = .returned (.bool true) ∧ Below w.heap.size w w' := by
  have hn := hl.le
  have hlen := hl.len
  subst hlen
  have hlen' := hl'.len
  subst hlen'
  have HL := Lib.hid hl; clear hl
  have HL' := Lib.hid hl'; clear hl'
  go_enter Tryz.func62, Tryz.ntmps62
  go_wp2
  go_loopw [13] (fun i wr => ∃ k : Nat, k ≤ l.length ∧ i = .int .i64 k ∧ Below w.heap.size w wr) (fun i _ => l.length - (intOf i).toNat)
  case atStart => exact ⟨0, by omega, rfl, Below.refl _ _⟩
  case round =>
    obtain ⟨k, hk, rfl, hb⟩ := hrel
    by_cases hlt : k < l.length
    · obtain ⟨b, o, rfl, -, hbs, h1⟩ := (HL.out.below hb).str hlt
      obtain ⟨b', o', rfl, -, hbs', h1'⟩ := (HL'.out.below hb).str hlt
      go_wp2
      go_quiet (fail)
      go_wp2
      go_roundw
      case rel => exact ⟨k + 1, by omega, by go_num, dN hb _⟩
      case measure => simp [intOf]; omega
    · go_wp2
      go_ret
      exact ⟨rfl, hb⟩
set_option maxHeartbeats 1000000 in
theorem sameLns_any (A A' : Option Addr) (n c n' c' : Nat) (w : World) (S S' : Nat → Prop) (l : List Spn) (hl : Sl w S A n c l) (hl' : Sl w S' A' n' c' l) :
    Calls Tryz.prog 63 #[.slice A n c, .slice A' n' c'] w fun e w' => e = .returned (.bool true) ∧ Below w.heap.size w w' := by
  have hn := hl.le
  have hlen := hl.len
  subst hlen
  have hlen' := hl'.len
  subst hlen'
  have HL := Lib.hid hl; clear hl
  have HL' := Lib.hid hl'; clear hl'
  go_enter Tryz.func63, Tryz.ntmps63
  go_wp2
  go_loopw [13] (fun i wr => ∃ k : Nat, k ≤ l.length ∧ i = .int .i64 k ∧ Below w.heap.size w wr) (fun i _ => l.length - (intOf i).toNat)
  case atStart => exact ⟨0, by omega, rfl, Below.refl _ _⟩
  case round =>
    obtain ⟨k, hk, rfl, hb⟩ := hrel
    by_cases hlt : k < l.length
    · obtain ⟨b, o, rfl, -, hbs, h1, h2, h3⟩ := (HL.out.below hb).spn hlt
      obtain ⟨b', o', rfl, -, hbs', h1', h2', h3'⟩ := (HL'.out.below hb).spn hlt
      go_wp2
      go_quiet (fail)
      go_wp2
      go_roundw
      case rel => exact ⟨k + 1, by omega, by go_num, dN hb _⟩
      case measure => simp [intOf]; omega
    · go_wp2
      go_ret
      exact ⟨rfl, hb⟩
set_option maxHeartbeats 1000000 in
theorem sameItm_any (w : World) (S S' : Nat → Prop) (v v' : Value) (x : Itm) (h : VItm w S v x) (h' : VItm w S' v' x) :
    Calls Tryz.prog 19 #[v, v'] w fun e w' => e = .returned (.bool true) ∧ Below w.heap.size w w' := by
  obtain ⟨A, n, c, rfl, hs⟩ := h
  obtain ⟨A', n', c', rfl, hs'⟩ := h'
  have HS := Lib.hid hs; have HS' := Lib.hid hs'
  clear hs hs'
  go_enter Tryz.func19, Tryz.ntmps19
  go_upto_region 1 with fail
  have hq1 := blkOld (blkAt w (.cells #[.string ⟨x.name.toArray⟩, .int .i64 x.kind, .int .i64 x.mode, .slice A n c, .string ⟨x.body.path.toArray⟩, .int .i64 x.body.fr, .int .i64 x.body.tu] 48) rfl) (.cells #[.string ⟨x.name.toArray⟩, .int .i64 x.kind, .int .i64 x.mode, .slice A' n' c', .string ⟨x.body.path.toArray⟩, .int .i64 x.body.fr, .int .i64 x.body.tu] 48)
  have hq2 := blkAt (w.alloc (.cells #[.string ⟨x.name.toArray⟩, .int .i64 x.kind, .int .i64 x.mode, .slice A n c, .string ⟨x.body.path.toArray⟩, .int .i64 x.body.fr, .int .i64 x.body.tu] 48)) (.cells #[.string ⟨x.name.toArray⟩, .int .i64 x.kind, .int .i64 x.mode, .slice A' n' c', .string ⟨x.body.path.toArray⟩, .int .i64 x.body.fr, .int .i64 x.body.tu] 48) rfl
  have hb : Below w.heap.size w ((w.alloc (.cells #[.string ⟨x.name.toArray⟩, .int .i64 x.kind, .int .i64 x.mode, .slice A n c, .string ⟨x.body.path.toArray⟩, .int .i64 x.body.fr, .int .i64 x.body.tu] 48)).alloc (.cells #[.string ⟨x.name.toArray⟩, .int .i64 x.kind, .int .i64 x.mode, .slice A' n' c', .string ⟨x.body.path.toArray⟩, .int .i64 x.body.fr, .int .i64 x.body.tu] 48)) := by ((repeat (first | (with_reducible exact Below.refl _ _) | (with_reducible refine belowA ?_ _) | (with_reducible refine belowD ?_) | (with_reducible refine belowS ?_ (Nat.le_refl _) _ _) | (with_reducible refine next ?_ (by assumption) (Nat.le_refl _)))); done)
  rw [show (w.alloc (.cells #[.string ⟨x.name.toArray⟩, .int .i64 x.kind, .int .i64 x.mode, .slice A n c, .string ⟨x.body.path.toArray⟩, .int .i64 x.body.fr, .int .i64 x.body.tu] 48)).heap.size = w.heap.size + 1 by simp] at hq2
  generalize ((w.alloc (.cells #[.string ⟨x.name.toArray⟩, .int .i64 x.kind, .int .i64 x.mode, .slice A n c, .string ⟨x.body.path.toArray⟩, .int .i64 x.body.fr, .int .i64 x.body.tu] 48)).alloc (.cells #[.string ⟨x.name.toArray⟩, .int .i64 x.kind, .int .i64 x.mode, .slice A' n' c', .string ⟨x.body.path.toArray⟩, .int .i64 x.body.fr, .int .i64 x.body.tu] 48)) = W at *
  have p0 := (cell_blk hq1 0).trans rfl; have p1 := (cell_blk hq1 1).trans rfl; have p2 := (cell_blk hq1 2).trans rfl; have p3 := (cell_blk hq1 3).trans rfl; have p4 := (cell_blk hq1 4).trans rfl; have p5 := (cell_blk hq1 5).trans rfl; have p6 := (cell_blk hq1 6).trans rfl
  have q0 := (cell_blk hq2 0).trans rfl; have q1 := (cell_blk hq2 1).trans rfl; have q2 := (cell_blk hq2 2).trans rfl; have q3 := (cell_blk hq2 3).trans rfl; have q4 := (cell_blk hq2 4).trans rfl; have q5 := (cell_blk hq2 5).trans rfl; have q6 := (cell_blk hq2 6).trans rfl
  have HB := Lib.hid hb
  clear hb hq1 hq2
  go_wp2_with fail
  refine (sameStr_any A A' n c n' c' W _ _ _ (HS.out.below HB.out) (HS'.out.below HB.out)).mono ?_
  rintro e w1 ⟨rfl, hb1⟩
  have HB1 := Lib.hid (HB.out.trans (hb1.mono HB.out.size)); clear hb1
  go_wp2_with fail
  go_ret
  exact ⟨rfl, HB1.out⟩
def fewGo (size : Int) : List Fil → Int → Bool
  | [], _ => true
  | f :: r, n => !(decide (300 < (f.path.length : Int)) || decide (size < IntKind.i64.wrap (n + f.data.length))) && fewGo size r (IntKind.i64.wrap (n + f.data.length))
def fewT (t : List Fil) (files size : Int) : Bool := decide ((t.length : Int) ≤ files) && fewGo size t 0
theorem fewGo_path (size : Int) : ∀ (t : List Fil) (n : Int), fewGo size t n = true → ∀ f ∈ t, f.path.length ≤ 300 := by
  intro t
  induction t with
  | nil => intro n _ f hf; cases hf
  | cons x r ih =>
    intro n h f hf
    unfold fewGo at h
    simp only [Bool.and_eq_true, Bool.not_eq_true', Bool.or_eq_false_iff, decide_eq_false_iff_not] at h
    rcases List.mem_cons.1 hf with rfl | hf
    · have := h.1.1; omega
    · exact ih _ h.2 f hf
theorem fewT_ok {t : List Fil} {files size : Int} (h : fewT t files size = true) : (t.length : Int) ≤ files ∧ ∀ f ∈ t, f.path.length ≤ 300 := by
  unfold fewT at h
  simp only [Bool.and_eq_true, decide_eq_true_eq] at h
  exact ⟨h.1, fewGo_path _ _ _ h.2⟩
set_option maxHeartbeats 2000000 in
theorem rfew_any (A : Option Addr) (n c : Nat) (w : World) (S : Nat → Prop) (t : List Fil) (hl : Sl w S A n c t) (files size : Int) :
    Calls Tryz.prog 45 #[.slice A n c, .int .i64 files, .int .i64 size] w fun e w' => e = .returned (.bool (fewT t files size)) ∧ Below w.heap.size w w' := by
  have hn := hl.le
  have hlen := hl.len
  subst hlen
  have HL := Lib.hid hl; clear hl
  obtain ⟨v, hv⟩ : ∃ v, v = fewT t files size := ⟨_, rfl⟩
  rw [← hv]
  unfold fewT at hv
  by_cases h1 : files < (t.length : Int)
  · have HV : Hid (v = false) := Lib.hid (by rw [hv, show decide ((t.length : Int) ≤ files) = false by rw [decide_eq_false_iff_not]; omega]; rfl)
    clear hv
    go_enter Tryz.func45, Tryz.ntmps45
    go_wp2_with fail
    go_ret
    exact ⟨ret_bool HV.out, Below.refl _ _⟩
  · have Hf : Hid (v = fewGo size (t.drop 0) 0) := Lib.hid (by rw [hv, show decide ((t.length : Int) ≤ files) = true by rw [decide_eq_true_eq]; omega]; rfl)
    clear hv
    go_enter Tryz.func45, Tryz.ntmps45
    go_wp2_with fail
    clear h1
    go_loopw [7, 16] (fun a i wr => ∃ (k : Nat) (m : Int), k ≤ t.length ∧ a = .int .i64 m ∧ i = .int .i64 k ∧ Below w.heap.size w wr ∧ Hid (v = fewGo size (t.drop k) m)) (fun _ i _ => t.length - (intOf i).toNat)
    case atStart => exact ⟨0, 0, by omega, rfl, rfl, Below.refl _ _, Hf⟩
    case round =>
      obtain ⟨k, m, hk, rfl, rfl, hb, hf⟩ := hrel
      by_cases hlt : k < t.length
      · obtain ⟨b, o, rfl, -, hbs, h1, h2⟩ := (HL.out.below hb).fil hlt
        have hd := hf.out
        rw [drop_get hlt, fewGo] at hd
        clear hf
        generalize t[k] = f at *
        obtain ⟨fp, fd⟩ := f
        simp only at hd h1 h2
        by_cases hp : (300 : Int) < (fp.length : Int)
        · have HD : Hid (v = false) := Lib.hid (by rw [hd, decide_eq_true hp]; rfl)
          clear hd
          go_wp2_with fail
          go_ret
          exact ⟨ret_bool HD.out, hb.alloc hb.size _⟩
        · rw [decide_eq_false hp, Bool.false_or] at hd
          generalize hM : IntKind.i64.wrap (m + (fd.length : Int)) = M at *
          by_cases hs : size < M
          · have HD : Hid (v = false) := Lib.hid (by rw [hd, decide_eq_true hs]; rfl)
            clear hd
            go_wp2_with fail
            go_ret
            exact ⟨ret_bool HD.out, hb.alloc hb.size _⟩
          · have HD : Hid (v = fewGo size (t.drop (k + 1)) M) := Lib.hid (by rw [hd, decide_eq_false hs]; rfl)
            clear hd
            go_wp2_with fail
            go_roundw
            case rel => exact ⟨k + 1, M, by omega, rfl, by go_num, hb.alloc hb.size _, HD⟩
            case measure => simp [intOf]; omega
      · have HD : Hid (v = true) := Lib.hid (by rw [hf.out, drop_end hlt]; rfl)
        go_wp2
        go_ret
        exact ⟨ret_bool HD.out, hb⟩
def few6S (t : List Fil) (fl : List Bs) : Bool := fl.all (fun s => decide (s.length ≤ 100)) && (fewT t 20 6000 && (decide (fl.length ≤ 20) || (decide (126 < fl.length) && decide (fl.length < 132))))
theorem few6_ok {t : List Fil} {fl : List Bs} (h : few6S t fl = true) : (∀ f ∈ t, f.path.length ≤ 300) ∧ t.length ≤ 20 ∧ (∀ s ∈ fl, s.length ≤ 100) ∧ fl.length ≤ 131 := by
  unfold few6S at h
  simp only [Bool.and_eq_true, Bool.or_eq_true, List.all_eq_true, decide_eq_true_eq] at h
  have := fewT_ok h.2.1
  exact ⟨this.2, by omega, h.1, by omega⟩
set_option maxHeartbeats 2000000 in
theorem few6_any (A A2 : Option Addr) (n c n2 c2 : Nat) (w : World) (S S2 : Nat → Prop) (t : List Fil) (fl : List Bs) (hl : Sl w S A n c t) (hl2 : Sl w S2 A2 n2 c2 fl) :
    Calls Tryz.prog 12 #[.slice A n c, .slice A2 n2 c2] w fun e w' => e = .returned (.bool (few6S t fl)) ∧ Below w.heap.size w w' := by
  have hn := hl2.le
  have hlen := hl2.len
  subst hlen
  have HT := Lib.hid hl; have HL := Lib.hid hl2; clear hl hl2
  have hfw := fun w h => rfew_any A n c w S t h 20 6000
  obtain ⟨p, hp⟩ : ∃ p : Bs → Bool, p = (fun s => decide (s.length ≤ 100)) := ⟨_, rfl⟩
  obtain ⟨v, hv⟩ : ∃ v, v = few6S t fl := ⟨_, rfl⟩
  rw [← hv]
  unfold few6S at hv
  generalize fewT t 20 6000 = q at *
  obtain ⟨v2, hv2⟩ : ∃ v2, v2 = (q && (decide (fl.length ≤ 20) || (decide (126 < fl.length) && decide (fl.length < 132)))) := ⟨_, rfl⟩
  rw [← hp, ← hv2] at hv
  have Hf : Hid (v = ((fl.drop 0).all p && v2)) := hv
  have Hp := Lib.hid hp; have HV2 := Lib.hid hv2; have HF := Lib.hid hfw
  clear hp hv hv2 hfw
  go_enter Tryz.func12, Tryz.ntmps12
  go_wp2_with fail
  go_loop [9] (fun i => ∃ k : Nat, k ≤ fl.length ∧ i = .int .i64 k ∧ Hid (v = ((fl.drop k).all p && v2))) (fun i => fl.length - (intOf i).toNat)
  case atStart => exact ⟨0, by omega, rfl, Hf⟩
  case round =>
    obtain ⟨k, hk, rfl, hf⟩ := hrel
    by_cases hlt : k < fl.length
    · obtain ⟨b, o, rfl, -, hbs, h1⟩ := HL.out.str hlt
      have hd := hf.out
      rw [drop_get hlt, List.all_cons] at hd
      clear hf
      generalize fl[k] = s at *
      by_cases hs : (100 : Int) < (s.length : Int)
      · have HD : Hid (v = false) := Lib.hid (by rw [hd, Hp.out]; simp only; rw [decide_eq_false (by omega)]; rfl)
        clear hd
        go_wp2_with fail
        go_ret
        exact ⟨ret_bool HD.out, Below.refl _ _⟩
      · have HD : Hid (v = ((fl.drop (k + 1)).all p && v2)) := Lib.hid (by rw [hd, Hp.out]; simp only; rw [decide_eq_true (show s.length ≤ 100 by omega)]; rfl)
        clear hd
        go_wp2_with fail
        go_round
        case rel => exact ⟨k + 1, by omega, by go_num, HD⟩
        case measure => simp [intOf]; omega
    · have HD : Hid (v = v2) := Lib.hid (by rw [hf.out, drop_end hlt]; rfl)
      clear hf Hf
      go_wp2_with fail
      refine (HF.out _ HT.out).mono ?_
      rintro e w1 ⟨rfl, hb⟩
      have HB := Lib.hid hb; clear hb
      have h2 := HV2.out
      cases q
      · have HD2 := Lib.hid (HD.out.trans h2)
        clear h2
        go_wp2_with fail
        go_ret
        exact ⟨ret_bool (by first | exact HD2.out | (rw [HD2.out]; symm; simp; omega) | (rw [HD2.out]; simp; omega)), HB.out⟩
      · by_cases h20 : (fl.length : Int) ≤ 20
        · have HD2 := Lib.hid (show v = true from HD.out.trans (h2.trans (by rw [decide_eq_true (show fl.length ≤ 20 by omega)]; rfl)))
          clear h2
          go_wp2_with fail
          go_ret
          exact ⟨ret_bool (by first | exact HD2.out | (rw [HD2.out]; symm; simp; omega) | (rw [HD2.out]; simp; omega)), HB.out⟩
        · by_cases h126 : (126 : Int) < (fl.length : Int)
          · by_cases h132 : (fl.length : Int) < 132
            · have HD2 := Lib.hid (show v = true from HD.out.trans (h2.trans (by rw [decide_eq_true (show 126 < fl.length by omega), decide_eq_true (show fl.length < 132 by omega)]; simp)))
              clear h2
              go_wp2_with fail
              go_ret
              exact ⟨ret_bool (by first | exact HD2.out | (rw [HD2.out]; symm; simp; omega) | (rw [HD2.out]; simp; omega)), HB.out⟩
            · have HD2 := Lib.hid (show v = false from HD.out.trans (h2.trans (by rw [decide_eq_false (show ¬ fl.length ≤ 20 by omega), decide_eq_false (show ¬ fl.length < 132 by omega)]; simp)))
              clear h2
              go_wp2_with fail
              go_ret
              exact ⟨ret_bool (by first | exact HD2.out | (rw [HD2.out]; symm; simp; omega) | (rw [HD2.out]; simp; omega)), HB.out⟩
          · have HD2 := Lib.hid (show v = false from HD.out.trans (h2.trans (by rw [decide_eq_false (show ¬ fl.length ≤ 20 by omega), decide_eq_false (show ¬ 126 < fl.length by omega)]; simp)))
            clear h2
            go_wp2_with fail
            go_ret
            exact ⟨ret_bool (by first | exact HD2.out | (rw [HD2.out]; symm; simp; omega) | (rw [HD2.out]; simp; omega)), HB.out⟩
end Go.Proofs.YtpeamehplhpcjaaGreatDoor
namespace Go.Proofs.YtpeamehplhpcjaaGreatDoor
open Go.RowKit
structure SaW (w W : World) (c1 c2 : Array Value) : Prop where
  bl : Below w.heap.size w W
  b1 : W.heap[w.heap.size]? = some (.cells c1 36 (0, 0))
  b2 : W.heap[w.heap.size + 1]? = some (.cells c2 36 (0, 0))
theorem SaW.below {w W W' : World} {c1 c2 : Array Value} (h : SaW w W c1 c2) (hb : Below W.heap.size W W') : SaW w W' c1 c2 := ⟨h.bl.trans (hb.mono h.bl.size), keptBlk hb h.b1, keptBlk hb h.b2⟩
set_option maxRecDepth 100000 in
set_option maxHeartbeats 8000000 in
theorem sameU_any (w : World) (v v' : Value) (u : Unt) (h : VUnt w v u) (h' : VUnt w v' u) :
    Calls Tryz.prog 15 #[v, v'] w fun e w' => e = .returned (.bool true) ∧ Below w.heap.size w w' := by
  obtain ⟨A1, n1, c1, A2, n2, c2, A3, n3, c3, A4, n4, c4, A5, n5, c5, rfl, h1, h2, h3, h4, h5⟩ := h
  obtain ⟨A1', n1', c1', A2', n2', c2', A3', n3', c3', A4', n4', c4', A5', n5', c5', rfl, h1', h2', h3', h4', h5'⟩ := h'
  obtain ⟨up, uf, um, ui, uh, ul⟩ := u
  simp only at h1 h2 h3 h4 h5 h1' h2' h3' h4' h5' ⊢
  have e2 := h2.len; have e2' := h2'.len; have e3 := h3.len; have e3' := h3'.len
  have l2 := h2.le; have l3 := h3.le
  subst e2 e2' e3 e3'
  have H1 := Lib.hid h1; have H2 := Lib.hid h2; have H3 := Lib.hid h3; have H4 := Lib.hid h4; have H5 := Lib.hid h5
  have H1' := Lib.hid h1'; have H2' := Lib.hid h2'; have H3' := Lib.hid h3'; have H4' := Lib.hid h4'; have H5' := Lib.hid h5'
  clear h1 h2 h3 h4 h5 h1' h2' h3' h4' h5'
  go_enter Tryz.func15, Tryz.ntmps15
  go_upto_region 1 with fail
  have hW : SaW w ((w.alloc (.cells #[.string ⟨up.toArray⟩, .slice A1 n1 c1, .slice A2 um.length c2, .slice A3 ui.length c3, .slice A4 n4 c4, .slice A5 n5 c5] 36)).alloc (.cells #[.string ⟨up.toArray⟩, .slice A1' n1' c1', .slice A2' um.length c2', .slice A3' ui.length c3', .slice A4' n4' c4', .slice A5' n5' c5'] 36)) #[.string ⟨up.toArray⟩, .slice A1 n1 c1, .slice A2 um.length c2, .slice A3 ui.length c3, .slice A4 n4 c4, .slice A5 n5 c5] #[.string ⟨up.toArray⟩, .slice A1' n1' c1', .slice A2' um.length c2', .slice A3' ui.length c3', .slice A4' n4' c4', .slice A5' n5' c5'] := ⟨by ((repeat (first | (with_reducible exact Below.refl _ _) | (with_reducible refine belowA ?_ _) | (with_reducible refine belowD ?_) | (with_reducible refine belowS ?_ (Nat.le_refl _) _ _) | (with_reducible refine next ?_ (by assumption) (Nat.le_refl _)))); done), blkOld (blkAt _ _ rfl) _, blkAt _ _ (by simp)⟩
  generalize ((w.alloc (.cells #[.string ⟨up.toArray⟩, .slice A1 n1 c1, .slice A2 um.length c2, .slice A3 ui.length c3, .slice A4 n4 c4, .slice A5 n5 c5] 36)).alloc (.cells #[.string ⟨up.toArray⟩, .slice A1' n1' c1', .slice A2' um.length c2', .slice A3' ui.length c3', .slice A4' n4' c4', .slice A5' n5' c5'] 36)) = W at *
  have HW := Lib.hid hW
  clear hW
  have p0 := (cell_blk HW.out.b1 0).trans rfl; have p1 := (cell_blk HW.out.b1 1).trans rfl
  have q0 := (cell_blk HW.out.b2 0).trans rfl; have q1 := (cell_blk HW.out.b2 1).trans rfl
  go_wp2_with fail
  refine (sameStr_any A1 A1' n1 c1 n1' c1' W _ _ uf (H1.out.below HW.out.bl) (H1'.out.below HW.out.bl)).mono ?_
  rintro e w1 ⟨rfl, hb1⟩
  have HW1 := Lib.hid (HW.out.below hb1)
  clear hb1 p0 p1 q0 q1
  have p2 := (cell_blk HW1.out.b1 2).trans rfl; have p3 := (cell_blk HW1.out.b1 3).trans rfl; have p4 := (cell_blk HW1.out.b1 4).trans rfl
  have q2 := (cell_blk HW1.out.b2 2).trans rfl; have q3 := (cell_blk HW1.out.b2 3).trans rfl; have q4 := (cell_blk HW1.out.b2 4).trans rfl
  go_wp2_with fail
  refine (sameLns_any A4 A4' n4 c4 n4' c4' w1 _ _ uh (H4.out.below HW1.out.bl) (H4'.out.below HW1.out.bl)).mono ?_
  rintro e w2 ⟨rfl, hb2⟩
  have HW2 := Lib.hid (HW1.out.below hb2)
  clear hb2 p2 p3 p4 q2 q3 q4
  have p5 := (cell_blk HW2.out.b1 5).trans rfl; have q5 := (cell_blk HW2.out.b2 5).trans rfl
  go_wp2_with fail
  refine (sameStr_any A5 A5' n5 c5 n5' c5' w2 _ _ ul (H5.out.below HW2.out.bl) (H5'.out.below HW2.out.bl)).mono ?_
  rintro e w3 ⟨rfl, hb3⟩
  have HW3 := Lib.hid (HW2.out.below hb3)
  clear hb3 p5 q5
  have p2 := (cell_blk HW3.out.b1 2).trans rfl
  go_wp2_with fail
  go_loopw [60] (fun i wr => ∃ k : Nat, k ≤ um.length ∧ i = .int .i64 k ∧ SaW w wr #[.string ⟨up.toArray⟩, .slice A1 n1 c1, .slice A2 um.length c2, .slice A3 ui.length c3, .slice A4 n4 c4, .slice A5 n5 c5] #[.string ⟨up.toArray⟩, .slice A1' n1' c1', .slice A2' um.length c2', .slice A3' ui.length c3', .slice A4' n4' c4', .slice A5' n5' c5']) (fun i _ => um.length - (intOf i).toNat)
  case atStart => exact ⟨0, by omega, rfl, HW3.out⟩
  case round =>
    obtain ⟨k, hk, rfl, hw⟩ := hrel
    have HWr := Lib.hid hw
    clear hw p2
    by_cases hlt : k < um.length
    · obtain ⟨b, o, rfl, -, hbs, B1, m1, d1, a0, a1, a2, a3, a4, hs⟩ := (H2.out.below HWr.out.bl).mac hlt
      obtain ⟨b', o', rfl, -, hbs', B1', m1', d1', a0', a1', a2', a3', a4', hs'⟩ := (H2'.out.below HWr.out.bl).mac hlt
      generalize um[k] = x at *
      have q2 := (cell_blk HWr.out.b2 2).trans rfl
      have HS := Lib.hid hs; have HS' := Lib.hid hs'
      clear hs hs'
      have hwb := HWr.out.bl.size
      have hlt1 : w.heap.size + 1 < wr.heap.size := (Array.getElem?_eq_some_iff.1 HWr.out.b2).1
      go_upto_region 7 with fail
      have hbW : Below wr.heap.size wr ((wr.alloc (.cells #[.string ⟨x.name.toArray⟩, .slice B1 m1 d1, .string ⟨x.body.path.toArray⟩, .int .i64 x.body.fr, .int .i64 x.body.tu] 63)).alloc (.cells #[.string ⟨x.name.toArray⟩, .slice B1' m1' d1', .string ⟨x.body.path.toArray⟩, .int .i64 x.body.fr, .int .i64 x.body.tu] 63)) := by ((repeat (first | (with_reducible exact Below.refl _ _) | (with_reducible refine belowA ?_ _) | (with_reducible refine belowD ?_) | (with_reducible refine belowS ?_ (Nat.le_refl _) _ _) | (with_reducible refine next ?_ (by assumption) (Nat.le_refl _)))); done)
      have hg1 : ((wr.alloc (.cells #[.string ⟨x.name.toArray⟩, .slice B1 m1 d1, .string ⟨x.body.path.toArray⟩, .int .i64 x.body.fr, .int .i64 x.body.tu] 63)).alloc (.cells #[.string ⟨x.name.toArray⟩, .slice B1' m1' d1', .string ⟨x.body.path.toArray⟩, .int .i64 x.body.fr, .int .i64 x.body.tu] 63)).heap[wr.heap.size]? = some (.cells #[.string ⟨x.name.toArray⟩, .slice B1 m1 d1, .string ⟨x.body.path.toArray⟩, .int .i64 x.body.fr, .int .i64 x.body.tu] 63 (0, 0)) := blkOld (blkAt _ _ rfl) _
      have hg2 : ((wr.alloc (.cells #[.string ⟨x.name.toArray⟩, .slice B1 m1 d1, .string ⟨x.body.path.toArray⟩, .int .i64 x.body.fr, .int .i64 x.body.tu] 63)).alloc (.cells #[.string ⟨x.name.toArray⟩, .slice B1' m1' d1', .string ⟨x.body.path.toArray⟩, .int .i64 x.body.fr, .int .i64 x.body.tu] 63)).heap[wr.heap.size + 1]? = some (.cells #[.string ⟨x.name.toArray⟩, .slice B1' m1' d1', .string ⟨x.body.path.toArray⟩, .int .i64 x.body.fr, .int .i64 x.body.tu] 63 (0, 0)) := blkAt _ _ (by simp)
      generalize ((wr.alloc (.cells #[.string ⟨x.name.toArray⟩, .slice B1 m1 d1, .string ⟨x.body.path.toArray⟩, .int .i64 x.body.fr, .int .i64 x.body.tu] 63)).alloc (.cells #[.string ⟨x.name.toArray⟩, .slice B1' m1' d1', .string ⟨x.body.path.toArray⟩, .int .i64 x.body.fr, .int .i64 x.body.tu] 63)) = W4 at *
      have HW4 := Lib.hid (HWr.out.below hbW); have HS4 := Lib.hid (HS.out.below hbW); have HS4' := Lib.hid (HS'.out.below hbW)
      clear a0 a1 a2 a3 a4 a0' a1' a2' a3' a4' q2 hbW hbs hbs'
      have x0 := (cell_blk hg1 0).trans rfl; have x1 := (cell_blk hg1 1).trans rfl; have x2 := (cell_blk hg1 2).trans rfl; have x3 := (cell_blk hg1 3).trans rfl; have x4 := (cell_blk hg1 4).trans rfl
      have y0 := (cell_blk hg2 0).trans rfl; have y1 := (cell_blk hg2 1).trans rfl; have y2 := (cell_blk hg2 2).trans rfl; have y3 := (cell_blk hg2 3).trans rfl; have y4 := (cell_blk hg2 4).trans rfl
      clear hg1 hg2
      go_wp2_with fail
      refine (sameStr_any B1 B1' m1 d1 m1' d1' W4 _ _ x.params HS4.out HS4'.out).mono ?_
      rintro e w5 ⟨rfl, hb5⟩
      have HW5 := Lib.hid (HW4.out.below hb5)
      clear hb5 x0 x1 x2 x3 x4 y0 y1 y2 y3 y4
      go_wp2_with fail
      go_roundw
      case rel => exact ⟨k + 1, by omega, by go_num, HW5.out⟩
      case measure => simp [intOf]; omega
    · obtain rfl : k = um.length := by omega
      have p3 := (cell_blk HWr.out.b1 3).trans rfl
      go_wp2_with fail
      obtain ⟨wo, hwo⟩ : ∃ wo, wo = wr := ⟨_, rfl⟩
      clear hwo
      go_loopw [94] (fun i wx => ∃ j : Nat, j ≤ ui.length ∧ i = .int .i64 j ∧ SaW w wx #[.string ⟨up.toArray⟩, .slice A1 n1 c1, .slice A2 um.length c2, .slice A3 ui.length c3, .slice A4 n4 c4, .slice A5 n5 c5] #[.string ⟨up.toArray⟩, .slice A1' n1' c1', .slice A2' um.length c2', .slice A3' ui.length c3', .slice A4' n4' c4', .slice A5' n5' c5']) (fun i _ => ui.length - (intOf i).toNat)
      case atStart => exact ⟨0, by omega, rfl, HWr.out⟩
      case round =>
        obtain ⟨j, hj, rfl, hw⟩ := hrel
        have HWr2 := Lib.hid hw
        clear hw p3
        by_cases hlt : j < ui.length
        · obtain ⟨b, o, rfl, -, hbs, B1, m1, d1, a0, a1, a2, a3, a4, a5, a6, hs⟩ := (H3.out.below HWr2.out.bl).itm hlt
          obtain ⟨b', o', rfl, -, hbs', B1', m1', d1', a0', a1', a2', a3', a4', a5', a6', hs'⟩ := (H3'.out.below HWr2.out.bl).itm hlt
          generalize ui[j] = x at *
          have HS := Lib.hid hs; have HS' := Lib.hid hs'
          clear hs hs'
          go_upto_region 13 with fail
          have hbW : Below wr.heap.size wr (wr.alloc (.cells #[.string ⟨x.name.toArray⟩, .int .i64 x.kind, .int .i64 x.mode, .slice B1 m1 d1, .string ⟨x.body.path.toArray⟩, .int .i64 x.body.fr, .int .i64 x.body.tu] 48)) := by ((repeat (first | (with_reducible exact Below.refl _ _) | (with_reducible refine belowA ?_ _) | (with_reducible refine belowD ?_) | (with_reducible refine belowS ?_ (Nat.le_refl _) _ _) | (with_reducible refine next ?_ (by assumption) (Nat.le_refl _)))); done)
          have hg1 : (wr.alloc (.cells #[.string ⟨x.name.toArray⟩, .int .i64 x.kind, .int .i64 x.mode, .slice B1 m1 d1, .string ⟨x.body.path.toArray⟩, .int .i64 x.body.fr, .int .i64 x.body.tu] 48)).heap[wr.heap.size]? = some (.cells #[.string ⟨x.name.toArray⟩, .int .i64 x.kind, .int .i64 x.mode, .slice B1 m1 d1, .string ⟨x.body.path.toArray⟩, .int .i64 x.body.fr, .int .i64 x.body.tu] 48 (0, 0)) := blkAt _ _ rfl
          generalize (wr.alloc (.cells #[.string ⟨x.name.toArray⟩, .int .i64 x.kind, .int .i64 x.mode, .slice B1 m1 d1, .string ⟨x.body.path.toArray⟩, .int .i64 x.body.fr, .int .i64 x.body.tu] 48)) = W4 at *
          have hw4 := HWr2.out.below hbW
          have hin : (j : Int) < (ui.length : Int) := by omega
          have HX := Lib.hid (fun (z : World) (hz : Below W4.heap.size W4 z) => (And.intro ((cell_blk (keptBlk hz hg1) 0).trans rfl) (And.intro ((cell_blk (keptBlk hz hg1) 1).trans rfl) (And.intro ((cell_blk (keptBlk hz hg1) 2).trans rfl) (And.intro ((cell_blk (keptBlk hz hg1) 3).trans rfl) (And.intro ((cell_blk (keptBlk hz hg1) 4).trans rfl) (And.intro ((cell_blk (keptBlk hz hg1) 5).trans rfl) (And.intro ((cell_blk (keptBlk hz hg1) 6).trans rfl) (And.intro ((cell_blk (keptBlk hz hw4.b2) 3).trans rfl) (And.intro (cell_later hz (cell_later hbW a0')) (And.intro (cell_later hz (cell_later hbW a1')) (And.intro (cell_later hz (cell_later hbW a2')) (And.intro (cell_later hz (cell_later hbW a3')) (And.intro (cell_later hz (cell_later hbW a4')) (And.intro (cell_later hz (cell_later hbW a5')) (cell_later hz (cell_later hbW a6')))))))))))))))))
          have HW4 := Lib.hid hw4; have HS4 := Lib.hid (HS.out.below hbW); have HS4' := Lib.hid (HS'.out.below hbW)
          clear a0 a1 a2 a3 a4 a5 a6 a0' a1' a2' a3' a4' a5' a6' hbW hbs hbs' hg1 hw4
          refine wpH_region (fun z => Below W4.heap.size W4 z) (by kernel_rfl) ?_
          have hS : Below W4.heap.size W4 W4.drew := (Below.refl _ _).drew
          (refine tkW 0 (v := ?_) hS ?_ ?_; rotate_left; (focus (intro x hx; have fx := HX.out x hx; go_simp; (try with_reducible rfl); done)); (try simp only [Act.put, lsa, lsz, lss]))
          (refine tkW 1 (v := ?_) hS ?_ ?_; rotate_left; (focus (intro x hx; have fx := HX.out x hx; go_simp; (try with_reducible rfl); done)); (try simp only [Act.put, lsa, lsz, lss]))
          (refine tkW 2 (v := ?_) hS ?_ ?_; rotate_left; (focus (intro x hx; have fx := HX.out x hx; go_simp; (try with_reducible rfl); done)); (try simp only [Act.put, lsa, lsz, lss]))
          (refine tkW 3 (v := ?_) hS ?_ ?_; rotate_left; (focus (intro x hx; have fx := HX.out x hx; go_simp; (try with_reducible rfl); done)); (try simp only [Act.put, lsa, lsz, lss]))
          (refine tkW 4 (v := ?_) hS ?_ ?_; rotate_left; (focus (intro x hx; have fx := HX.out x hx; go_simp; (try with_reducible rfl); done)); (try simp only [Act.put, lsa, lsz, lss]))
          (refine tkW 5 (v := ?_) hS ?_ ?_; rotate_left; (focus (intro x hx; have fx := HX.out x hx; go_simp; (try with_reducible rfl); done)); (try simp only [Act.put, lsa, lsz, lss]))
          refine wpAnyH_one 6 (by kernel_rfl) rfl ?_
          intro K' hK'
          go_simp
          refine (sameItm_any _ _ _ _ _ x ⟨B1, m1, d1, rfl, HS4.out.below hS⟩ ⟨B1', m1', d1', rfl, HS4'.out.below hS⟩).mono ?_
          rintro e w5 ⟨rfl, hb5⟩
          have hS5 : Below W4.heap.size W4 w5 := hS.trans (hb5.mono hS.size)
          refine hK'.out _ _ hS5 ?_
          clear hK' K' hb5 hS
          have hS := hS5
          (refine tkW 7 (v := ?_) hS ?_ ?_; rotate_left; (focus (intro x hx; have fx := HX.out x hx; go_simp; (try with_reducible rfl); done)); (try simp only [Act.put, lsa, lsz, lss]))
          refine wpAnyH_done (by kernel_rfl) ?_ _
          have HW5 := Lib.hid (HW4.out.below hS)
          clear hS hS5 HX
          go_wp2_with fail
          go_roundw
          case rel => exact ⟨j + 1, by omega, by go_num, HW5.out⟩
          case measure => simp [intOf]; omega
        · go_wp2_with fail
          go_ret
          exact ⟨rfl, HWr2.out.bl⟩
end Go.Proofs.YtpeamehplhpcjaaGreatDoor
