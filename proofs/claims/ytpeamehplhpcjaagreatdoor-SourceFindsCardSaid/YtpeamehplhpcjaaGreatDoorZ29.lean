/- A part of the proofs of the laws of one package; see the law's own text, which comes last in 'order'. No conditions of its own. -/
import Derived.Test.YtpeamehplhpcjaaGreatDoorZ03
import Derived.Test.YtpeamehplhpcjaaGreatDoorZ04
import Derived.Test.YtpeamehplhpcjaaGreatDoorZ22
import Derived.Test.YtpeamehplhpcjaaGreatDoorZ23
import Derived.Test.YtpeamehplhpcjaaGreatDoorZ28
set_option linter.unusedVariables false
set_option linter.unusedSimpArgs false
namespace Go.Proofs.YtpeamehplhpcjaaGreatDoor
open Go.RowKit
theorem letter5_any (c : Int) (w : World) :
    Calls Tryz.prog 135 #[.int .u8 c] w fun e w' => e = .returned (.bool (letr c)) ∧ w = w' := by
  go_enter Tryz.func135, Tryz.ntmps135
  go_wp2
  all_goals go_ret
  all_goals (simp_all [letr]; try omega)
theorem digit5_any (c : Int) (w : World) :
    Calls Tryz.prog 136 #[.int .u8 c] w fun e w' => e = .returned (.bool (digt c)) ∧ w = w' := by
  go_enter Tryz.func136, Tryz.ntmps136
  go_wp2
  all_goals go_ret
  all_goals (simp_all [digt]; try omega)
set_option maxHeartbeats 800000 in
theorem form5_any (l : Bs) (w : World) (hl : l.length ≤ 9223372036854775807) :
    Calls Tryz.prog 95 #[.string ⟨l.toArray⟩] w fun e w' => e = .returned (.bool (form l)) ∧ w = w' := by
  obtain ⟨v, hv⟩ : ∃ v, v = form l := ⟨_, rfl⟩
  rw [← hv]
  by_cases h1 : 1 ≤ l.length
  · by_cases h2 : l.length ≤ 32
    · have hz : 0 < l.length := h1
      by_cases h3 : letr l[0].toNat = true
      · have Hf : Hid (v = (l.drop 0).all nameB) := by show v = _; rw [hv]; unfold form; rw [headD_get hz]; simp [h1, h2, h3]
        clear hv
        go_enter Tryz.func95, Tryz.ntmps95
        go_wp2_with (first | (go_at_call 135; refine (letter5_any _ _).mono ?_; rintro e w' ⟨rfl, rfl⟩) | (go_at_call 136; refine (digit5_any _ _).mono ?_; rintro e w' ⟨rfl, rfl⟩))
        go_loop [3] (fun i => ∃ k : Nat, k ≤ l.length ∧ i = .int .i64 k ∧ Hid (v = (l.drop k).all nameB)) (fun i => l.length - (intOf i).toNat)
        case atStart => exact ⟨0, by omega, rfl, Hf⟩
        case round =>
          obtain ⟨k, hk, rfl, hf⟩ := hrel
          by_cases hlt : k < l.length
          · have hd : Hid (v = (nameB l[k] && (l.drop (k + 1)).all nameB)) := by show v = _; rw [hf.out, drop_get hlt, List.all_cons]
            clear hf
            go_wp2_with (first | (go_at_call 135; refine (letter5_any _ _).mono ?_; rintro e w' ⟨rfl, rfl⟩) | (go_at_call 136; refine (digit5_any _ _).mono ?_; rintro e w' ⟨rfl, rfl⟩))
            all_goals first
              | (go_round
                 case rel => exact ⟨k + 1, by omega, by go_num, by show v = _; rw [hd.out]; simp_all [nameB]⟩
                 case measure => simp [intOf]; omega)
              | (go_ret; exact ⟨ret_bool (by rw [hd.out]; simp_all [nameB]), rfl⟩)
          · go_wp2
            go_ret
            exact ⟨ret_bool (by rw [hf.out, drop_end hlt]; rfl), rfl⟩
      · have Hf : Hid (v = false) := by show v = _; rw [hv]; unfold form; rw [headD_get hz]; simp [h3]
        clear hv
        go_enter Tryz.func95, Tryz.ntmps95
        go_wp2_with (first | (go_at_call 135; refine (letter5_any _ _).mono ?_; rintro e w' ⟨rfl, rfl⟩) | (go_at_call 136; refine (digit5_any _ _).mono ?_; rintro e w' ⟨rfl, rfl⟩))
        go_ret
        exact ⟨ret_bool Hf.out, rfl⟩
    · have Hf : Hid (v = false) := by show v = _; rw [hv]; unfold form; simp [h2]
      clear hv
      go_enter Tryz.func95, Tryz.ntmps95
      go_wp2
      go_ret
      exact ⟨ret_bool Hf.out, rfl⟩
  · have Hf : Hid (v = false) := by show v = _; rw [hv]; unfold form; simp [h1]
    clear hv
    go_enter Tryz.func95, Tryz.ntmps95
    go_wp2
    go_ret
    exact ⟨ret_bool Hf.out, rfl⟩
set_option maxHeartbeats 400000 in
theorem has5_any (A : Option Addr) (n c : Nat) (w : World) (S : Nat → Prop) (l : List Bs) (x : Bs) (hl : Sl w S A n c l) :
    Calls Tryz.prog 57 #[.slice A n c, .string ⟨x.toArray⟩] w fun e w' => e = .returned (.bool (l.contains x)) ∧ w = w' := by
  have hn := hl.le
  have hlen := hl.len
  subst hlen
  have HL := Lib.hid hl; clear hl
  obtain ⟨v, hv⟩ : ∃ v, v = l.contains x := ⟨_, rfl⟩
  rw [← hv]
  have Hf : Hid (v = (l.drop 0).contains x) := hv
  clear hv
  go_enter Tryz.func57, Tryz.ntmps57
  go_wp2
  go_loop [9] (fun i => ∃ k : Nat, k ≤ l.length ∧ i = .int .i64 k ∧ Hid (v = (l.drop k).contains x)) (fun i => l.length - (intOf i).toNat)
  case atStart => exact ⟨0, by omega, rfl, Hf⟩
  case round =>
    obtain ⟨k, hk, rfl, hf⟩ := hrel
    by_cases hlt : k < l.length
    · obtain ⟨b, o, rfl, -, hbs, h1⟩ := HL.out.str hlt
      have hd : Hid (v = ((l[k] == x) || (l.drop (k + 1)).contains x)) := by show v = _; rw [hf.out, drop_get hlt, List.contains_cons, BEq.comm]
      clear hf
      go_wp2
      all_goals first
        | (go_round
           case rel => exact ⟨k + 1, by omega, by go_num, by have hx : (l[k] == x) = false := by assumption
                                                             show v = _; rw [hd.out, hx, Bool.false_or]⟩
           case measure => simp [intOf]; omega)
        | (go_ret; exact ⟨ret_bool (by have hx : (l[k] == x) = true := by assumption
                                       rw [hd.out, hx, Bool.true_or]), rfl⟩)
    · go_wp2
      go_ret
      exact ⟨ret_bool (by rw [hf.out, drop_end hlt]; rfl), rfl⟩
theorem Sl.lits {w : World} {b : Nat} {xs : List Bs} {cs : Array Value} {t : TypeId} {fz : Nat × Nat} (hb : w.heap[b]? = some (.cells cs t fz)) (hc : cs = (xs.map fun x => Value.string ⟨x.toArray⟩).toArray) (hm : xs.length ≤ 9223372036854775807) {S : Nat → Prop} (hS : S b) {n c : Nat} (hn : n = xs.length) (hcc : c = xs.length) :
    Sl w S (some ⟨b, 0, none⟩) n c xs := by
  subst hn hcc hc
  refine ⟨rfl, Nat.le_refl _, hm, fun i hi => ⟨_, rfl, hS, fun _ => .string ⟨xs[i].toArray⟩, fun j hj => ?_, rfl⟩⟩
  obtain rfl : j = 0 := by simp only [GoT.size] at hj; omega
  rw [add_plain]
  simp [World.cell?, hb, GoT.size]
set_option maxHeartbeats 400000 in
theorem keyword5_any (s : Bs) (w : World) :
    Calls Tryz.prog 96 #[.string ⟨s.toArray⟩] w fun e w' => e = .returned (.bool (kws.contains s)) ∧ Below w.heap.size w w' := by
  obtain ⟨v, hv⟩ : ∃ v, v = kws.contains s := ⟨_, rfl⟩
  rw [← hv]
  have Hv := Lib.hid hv; clear hv
  go_enter Tryz.func96, Tryz.ntmps96
  go_wp2_with fail
  refine (has5_any _ _ _ _ (fun _ => True) kws s (Sl.lits (heap_alloc_new w _) rfl (by decide) trivial rfl rfl)).mono ?_
  rw [← Hv.out]
  rintro e w' ⟨rfl, rfl⟩
  go_wp2
  go_ret
  exact ⟨rfl, (Below.refl _ _).alloc (Nat.le_refl _) _⟩
set_option maxHeartbeats 400000 in
theorem name5_any (s : Bs) (w : World) (hl : s.length ≤ 9223372036854775807) :
    Calls Tryz.prog 56 #[.string ⟨s.toArray⟩] w fun e w' => e = .returned (.bool (name5 s)) ∧ Below w.heap.size w w' := by
  have h5 : name5 s = (form s && !kws.contains s) := rfl
  rw [h5]
  generalize hk : kws.contains s = k at *
  have Hk := Lib.hid hk; clear hk h5
  cases hf : form s
  · go_enter Tryz.func56, Tryz.ntmps56
    go_wp2_with fail
    refine (form5_any _ _ hl).mono ?_
    rw [hf]
    rintro e w' ⟨rfl, rfl⟩
    go_wp2
    go_ret
    exact ⟨rfl, Below.refl _ _⟩
  · go_enter Tryz.func56, Tryz.ntmps56
    go_wp2_with fail
    refine (form5_any _ _ hl).mono ?_
    rw [hf]
    rintro e w' ⟨rfl, rfl⟩
    go_wp2_with fail
    refine (keyword5_any _ _).mono ?_
    rw [Hk.out]
    rintro e w' ⟨rfl, hb⟩
    go_wp2
    go_ret
    exact ⟨rfl, hb⟩
end Go.Proofs.YtpeamehplhpcjaaGreatDoor
namespace Go.Proofs.YtpeamehplhpcjaaGreatDoor
open Go.RowKit
set_option maxHeartbeats 800000 in
theorem rfault_any (e : Int) (p : Bs) (n : Int) (w : World) : Calls Tryz.prog 54 #[.int .i64 e, .string ⟨p.toArray⟩, .int .i64 n] w fun x w' => x = .returned (vFlt (rflt e p n)) ∧ Below w.heap.size w w' := by
  go_enter Tryz.func54, Tryz.ntmps54
  go_upto_region 1 with fail
  have hb : Below w.heap.size w (w.alloc (.cells #[.int .i64 0, .int .i64 0, .int .i64 0, .string ⟨#[]⟩, .int .i64 0] 40)) := by ((repeat (first | (with_reducible exact Below.refl _ _) | (with_reducible refine belowA ?_ _) | (with_reducible refine belowD ?_) | (with_reducible refine belowS ?_ (Nat.le_refl _) _ _) | (with_reducible refine next ?_ (by assumption) (Nat.le_refl _)))); done)
  have hg := blkAt w (.cells #[.int .i64 0, .int .i64 0, .int .i64 0, .string ⟨#[]⟩, .int .i64 0] 40) rfl
  generalize (w.alloc (.cells #[.int .i64 0, .int .i64 0, .int .i64 0, .string ⟨#[]⟩, .int .i64 0] 40)) = W at *
  have HB := Lib.hid hb; have HG := Lib.hid hg
  have r0 := (cell_blk hg 0).trans rfl; have r1 := (cell_blk hg 1).trans rfl; have r2 := (cell_blk hg 2).trans rfl; have r3 := (cell_blk hg 3).trans rfl; have r4 := (cell_blk hg 4).trans rfl
  have f0 := frz_blk hg 0; have f1 := frz_blk hg 1; have f2 := frz_blk hg 2; have f3 := frz_blk hg 3; have f4 := frz_blk hg 4
  clear hb hg
  go_wp2_with fail
  have hRF := set5' _ HG.out 0 1 2 3 4 (.int .i64 e) (.int .i64 (-1)) (.int .i64 (-1)) (.string ⟨p.toArray⟩) (.int .i64 n)
  have q0 := (cell_blk hRF 0).trans rfl; have q1 := (cell_blk hRF 1).trans rfl; have q2 := (cell_blk hRF 2).trans rfl; have q3 := (cell_blk hRF 3).trans rfl; have q4 := (cell_blk hRF 4).trans rfl
  refine bodyPost_ret (v := .agg #[.int .i64 e, .int .i64 (-1), .int .i64 (-1), .string ⟨p.toArray⟩, .int .i64 n]) (by simp [results, Tryz.results54, go_sem, q0, q1, q2, q3, q4]) rfl ⟨rfl, ?_⟩
  exact ((((HB.out.setCell (p := ⟨w.heap.size, 0, none⟩) (Nat.le_refl _) _).setCell (p := ⟨w.heap.size, 1, none⟩) (Nat.le_refl _) _).setCell (p := ⟨w.heap.size, 2, none⟩) (Nat.le_refl _) _).setCell (p := ⟨w.heap.size, 3, none⟩) (Nat.le_refl _) _).setCell (p := ⟨w.heap.size, 4, none⟩) (Nat.le_refl _) _
theorem rinsGo_cons (x : Bs) (r : List Bs) (s : Bs) (d : Bool) : rinsGo (x :: r) s d = (if !d && !ltS x s then [s] else []) ++ (if x = s then [] else [x]) ++ rinsGo r s (d || !ltS x s) := rfl
set_option maxRecDepth 100000 in
set_option maxHeartbeats 4000000 in
theorem rins_any (A : Option Addr) (n c : Nat) (w : World) (S : Nat → Prop) (l : List Bs) (hl : Sl w S A n c l) (s : Bs) (hN : l.length ≤ 1000000) :
    Calls Tryz.prog 58 #[.slice A n c, .string ⟨s.toArray⟩] w fun e w' => ∃ A' n' c', e = .returned (.slice A' n' c') ∧ Sl w' (fun b => w.heap.size ≤ b) A' n' c' (rins l s) ∧ Below w.heap.size w w' := by
  have hn := hl.len
  have hlen := hl.le
  subst hn
  obtain ⟨V, hV⟩ : ∃ V, V = rins l s := ⟨_, rfl⟩
  rw [← hV]
  have Hf : Hid (V = [] ++ rinsGo (l.drop 0) s false) := hV
  have HL := Lib.hid hl
  clear hV hl
  go_enter Tryz.func58, Tryz.ntmps58
  go_wp2_with fail
  go_loopw [5, 6, 11] (fun o dn i wr => ∃ (k : Nat) (out : List Bs) (A' : Option Addr) (c' : Nat) (d : Bool), k ≤ l.length ∧ o = .slice A' out.length c' ∧ dn = .bool d ∧ i = .int .i64 k ∧ out.length ≤ 2 * k ∧ Own wr (fun _ => False) w.heap.size 9 A' c' out ∧ Below w.heap.size w wr ∧ Hid (V = out ++ rinsGo (l.drop k) s d)) (fun _ _ i _ => l.length - (intOf i).toNat)
  case atStart => exact ⟨0, [], none, 0, false, by omega, rfl, rfl, rfl, by simp, Own.nil _ _ _ _, Below.refl _ _, Hf⟩
  case round =>
    obtain ⟨k, out, A', c', d, hk, rfl, rfl, rfl, hol, ho, hb, hf⟩ := hrel
    have hsW := hb.size
    by_cases hlt : k < l.length
    · obtain ⟨b, o, rfl, -, hbs, c0⟩ := (HL.out.below hb).str hlt
      have hd := hf.out
      rw [drop_get hlt, rinsGo_cons] at hd
      have HO := Lib.hid ho; have HB := Lib.hid hb
      clear hf Hf ho hb
      generalize l[k] = x at *
      have hls := less_ltS x s
      generalize ltS x s = lt at *
      have HLS := Lib.hid hls; have HD := Lib.hid hd
      clear hls hd
      cases d with
      | true =>
        have hd3 := HD.out
        simp only [Bool.true_or, Bool.not_true, Bool.false_and, Bool.false_eq_true, if_false, List.nil_append] at hd3
        go_upto_region 9 with fail
        (cases hxf : (x == s)); (focus (have HD3 := Lib.hid (show V = (out ++ [x]) ++ rinsGo (l.drop (k + 1)) s true by (rw [hd3]; simp [show x ≠ s from fun e => by simp [e] at hxf]))); (have hnf : (x != s) = true := by (rw [bne, hxf]; rfl)); (go_wp2_with (at_builtin; go_loud (refine wpList_app1 rfl _ _ eltStr rfl (by decide) rfl rfl (by first | rfl | exact HOL3.out.symm) (HO.out.alloc _) rfl [.string ⟨x.toArray⟩] x (blkAt _ _ (by simp)) rfl rfl (by (try have := HOL3.out); omega) (by (try have := HOL3.out); omega) (by have := HB.out.size; simp; omega) ?_); intro A9 c9 w9 hown9 hg9 hat9)); (have hbl9 := (HB.out.alloc HB.out.size _).grown hg9 (by have := HB.out.size; simp; omega) (fun k hk => by have := (HO.out.lt k hk).1; omega)); go_roundw; (case rel => exact ⟨k + 1, out ++ [x], A9, c9, true, by omega, (by first | rfl | (simp only [List.length_append, List.length_cons, List.length_nil]; done) | (simp only [List.length_append, List.length_cons, List.length_nil]; rw [HOL3.out])), rfl, by go_num, (by (try have := HOL3.out); simp only [List.length_append, List.length_cons, List.length_nil]; omega), hown9, hbl9, HD3⟩); (case measure => simp [intOf]; omega)); (focus (have HD3 := Lib.hid (show V = out ++ rinsGo (l.drop (k + 1)) s true by (rw [hd3]; simp [show x = s by simpa using hxf]))); (have hnf : (x != s) = false := by (rw [bne, hxf]; rfl)); (go_wp2_with fail); go_roundw; (case rel => exact ⟨k + 1, out, A', c', true, by omega, (by first | rfl | (rw [HOL3.out])), rfl, by go_num, by (try have := HOL3.out); omega, HO.out, HB.out, HD3⟩); (case measure => simp [intOf]; omega))
      | false =>
        cases lt with
        | true =>
          have hd3 := HD.out
          simp only [Bool.false_or, Bool.not_true, Bool.not_false, Bool.and_false, Bool.false_eq_true, if_false, List.nil_append] at hd3
          have hls := HLS.out
          go_upto_region 9 with fail
          clear hls
          (cases hxf : (x == s)); (focus (have HD3 := Lib.hid (show V = (out ++ [x]) ++ rinsGo (l.drop (k + 1)) s false by (rw [hd3]; simp [show x ≠ s from fun e => by simp [e] at hxf]))); (have hnf : (x != s) = true := by (rw [bne, hxf]; rfl)); (go_wp2_with (at_builtin; go_loud (refine wpList_app1 rfl _ _ eltStr rfl (by decide) rfl rfl (by first | rfl | exact HOL3.out.symm) (HO.out.alloc _) rfl [.string ⟨x.toArray⟩] x (blkAt _ _ (by simp)) rfl rfl (by (try have := HOL3.out); omega) (by (try have := HOL3.out); omega) (by have := HB.out.size; simp; omega) ?_); intro A9 c9 w9 hown9 hg9 hat9)); (have hbl9 := (HB.out.alloc HB.out.size _).grown hg9 (by have := HB.out.size; simp; omega) (fun k hk => by have := (HO.out.lt k hk).1; omega)); go_roundw; (case rel => exact ⟨k + 1, out ++ [x], A9, c9, false, by omega, (by first | rfl | (simp only [List.length_append, List.length_cons, List.length_nil]; done) | (simp only [List.length_append, List.length_cons, List.length_nil]; rw [HOL3.out])), rfl, by go_num, (by (try have := HOL3.out); simp only [List.length_append, List.length_cons, List.length_nil]; omega), hown9, hbl9, HD3⟩); (case measure => simp [intOf]; omega)); (focus (have HD3 := Lib.hid (show V = out ++ rinsGo (l.drop (k + 1)) s false by (rw [hd3]; simp [show x = s by simpa using hxf]))); (have hnf : (x != s) = false := by (rw [bne, hxf]; rfl)); (go_wp2_with fail); go_roundw; (case rel => exact ⟨k + 1, out, A', c', false, by omega, (by first | rfl | (rw [HOL3.out])), rfl, by go_num, by (try have := HOL3.out); omega, HO.out, HB.out, HD3⟩); (case measure => simp [intOf]; omega))
        | false =>
          have hd3 := HD.out
          simp only [Bool.false_or, Bool.not_false, Bool.and_true, Bool.true_and, if_true] at hd3
          have hls := HLS.out
          go_upto_region 9 with (at_builtin; go_loud (refine wpList_app1 rfl _ _ eltStr rfl (by decide) rfl rfl rfl (HO.out.alloc _) rfl [.string ⟨s.toArray⟩] s (blkAt _ _ (by simp)) rfl rfl (by omega) (by omega) (by simp; omega) ?_); intro A3 c3 w3 hown3 hg3 hat3)
          have HB3 := Lib.hid ((HB.out.alloc HB.out.size _).grown hg3 (by simp; omega) (fun k hk => by have := (HO.out.lt k hk).1; omega))
          have HO3 := Lib.hid hown3
          have HOL3 := Lib.hid (show (out ++ [s]).length = out.length + 1 by simp)
          have hd4 : V = (out ++ [s]) ++ ((if x = s then [] else [x]) ++ rinsGo (l.drop (k + 1)) s true) := by rw [hd3]; simp
          generalize hol4 : out ++ [s] = out3 at *
          clear hls hown3 hg3 hd3 hol4
          have hd3 : V = out3 ++ ((if x = s then [] else [x]) ++ rinsGo (l.drop (k + 1)) s true) := hd4
          (cases hxf : (x == s)); (focus (have HD3 := Lib.hid (show V = (out3 ++ [x]) ++ rinsGo (l.drop (k + 1)) s true by (rw [hd3]; simp [show x ≠ s from fun e => by simp [e] at hxf]))); (have hnf : (x != s) = true := by (rw [bne, hxf]; rfl)); (go_wp2_with (at_builtin; go_loud (refine wpList_app1 rfl _ _ eltStr rfl (by decide) rfl rfl (by first | rfl | exact HOL3.out.symm) (HO3.out.alloc _) rfl [.string ⟨x.toArray⟩] x (blkAt _ _ (by simp)) rfl rfl (by (try have := HOL3.out); omega) (by (try have := HOL3.out); omega) (by have := HB3.out.size; simp; omega) ?_); intro A9 c9 w9 hown9 hg9 hat9)); (have hbl9 := (HB3.out.alloc HB3.out.size _).grown hg9 (by have := HB3.out.size; simp; omega) (fun k hk => by have := (HO3.out.lt k hk).1; omega)); go_roundw; (case rel => exact ⟨k + 1, out3 ++ [x], A9, c9, true, by omega, (by first | rfl | (simp only [List.length_append, List.length_cons, List.length_nil]; done) | (simp only [List.length_append, List.length_cons, List.length_nil]; rw [HOL3.out])), rfl, by go_num, (by (try have := HOL3.out); simp only [List.length_append, List.length_cons, List.length_nil]; omega), hown9, hbl9, HD3⟩); (case measure => simp [intOf]; omega)); (focus (have HD3 := Lib.hid (show V = out3 ++ rinsGo (l.drop (k + 1)) s true by (rw [hd3]; simp [show x = s by simpa using hxf]))); (have hnf : (x != s) = false := by (rw [bne, hxf]; rfl)); (go_wp2_with fail); go_roundw; (case rel => exact ⟨k + 1, out3, A3, c3, true, by omega, (by first | rfl | (rw [HOL3.out])), rfl, by go_num, by (try have := HOL3.out); omega, HO3.out, HB3.out, HD3⟩); (case measure => simp [intOf]; omega))
    · have hd := hf.out
      rw [drop_end hlt] at hd
      have HO := Lib.hid ho; have HB := Lib.hid hb
      clear hf Hf ho hb
      cases d with
      | true =>
        have HD := Lib.hid (show V = out by rw [hd]; simp [rinsGo])
        clear hd
        go_wp2_with fail
        go_ret
        exact ⟨A', _, c', rfl, by rw [HD.out]; exact (HO.out.sl (by decide)).wide (fun k _ hk => hk.elim False.elim (fun hk => (HO.out.lt k hk).1)) (by decide), HB.out⟩
      | false =>
        have HD := Lib.hid (show V = out ++ [s] by rw [hd]; simp [rinsGo])
        clear hd
        go_upto_region 14 with (at_builtin; go_loud (refine wpList_app1 rfl _ _ eltStr rfl (by decide) rfl rfl rfl (HO.out.alloc _) rfl [.string ⟨s.toArray⟩] s (blkAt _ _ (by simp)) rfl rfl (by omega) (by omega) (by simp; omega) ?_); intro A3 c3 w3 hown3 hg3 hat3)
        have HB3 := Lib.hid ((HB.out.alloc HB.out.size _).grown hg3 (by simp; omega) (fun k hk => by have := (HO.out.lt k hk).1; omega))
        have HO3 := Lib.hid hown3
        clear hown3 hg3
        go_wp2_with fail
        go_ret
        exact ⟨A3, _, c3, rfl, by rw [HD.out]; exact ((HO3.out.sl (by decide)).cast (by simp)).wide (fun k _ hk => hk.elim False.elim (fun hk => (HO3.out.lt k hk).1)) (by decide), HB3.out⟩
set_option maxHeartbeats 2000000 in
theorem rdefined_any (W : World) (M : Nat → Prop) (B g : Nat) (t : List Fil) (p : Bs) (s : Rst) (H : RcW W M B g t p s) (x : Bs) :
    Calls Tryz.prog 142 #[.pointer (some ⟨g, 0, none⟩), .string ⟨x.toArray⟩] W fun e w' => e = .returned (.bool (rdefined s x)) ∧ Below W.heap.size W w' := by
  obtain ⟨q, H⟩ := H
  have hc := H.cells
  unfold rcC at hc
  have hg := H.lt g (H.own g (.inl rfl))
  have hm := H.macs
  have hh := has5_any q.fA q.fn q.fc W _ s.flags x H.flags
  have hspec : rdefined s x = (s.flags.contains x || s.macros.any fun m => m.name == x) := rfl
  generalize rdefined s x = v at *
  generalize s.flags.contains x = f at *
  generalize s.macros = ms at *
  generalize s.items = its at *
  generalize s.opn = op at *
  generalize s.count = co at *
  clear H
  obtain ⟨tA, tn, tc, fA, fn, fc, mA, mn, mc, iA, ic, hA, hn, hcc, lA, ln, lc, oA, oc⟩ := q
  simp only at hc hm hh
  have hn := hm.len
  have hle := hm.le
  subst hn
  have c2 := (cell_blk hc 2).trans rfl
  have HC := Lib.hid hc; have HM := Lib.hid hm; have HH := Lib.hid hh; have HS := Lib.hid hspec
  clear hc hm hh hspec
  cases f with
  | true =>
    have HD := Lib.hid (show v = true from HS.out)
    go_enter Tryz.func142, Tryz.ntmps142
    go_wp2_with fail
    refine HH.out.mono ?_
    rintro e w1 ⟨rfl, rfl⟩
    go_wp2_with fail
    go_ret
    exact ⟨ret_bool HD.out, Below.refl _ _⟩
  | false =>
    have Hf : Hid (v = (ms.drop 0).any fun m => m.name == x) := HS.out
    have c3 := (cell_blk HC.out 3).trans rfl
    go_enter Tryz.func142, Tryz.ntmps142
    go_wp2_with fail
    refine HH.out.mono ?_
    rintro e w1 ⟨rfl, rfl⟩
    go_wp2_with fail
    go_loopw [20] (fun i wr => ∃ k : Nat, k ≤ ms.length ∧ i = .int .i64 k ∧ Below W.heap.size W wr ∧ Hid (v = (ms.drop k).any fun m => m.name == x)) (fun i _ => ms.length - (intOf i).toNat)
    case atStart => exact ⟨0, by omega, rfl, Below.refl _ _, Hf⟩
    case round =>
      obtain ⟨k, hk, rfl, hb, hf⟩ := hrel
      by_cases hlt : k < ms.length
      · obtain ⟨b, o, rfl, -, hbs, A1, n1, e1, d0, d1, d2, d3, d4, -⟩ := (HM.out.below hb).mac hlt
        have hd := hf.out
        rw [drop_get hlt, List.any_cons] at hd
        clear hf
        generalize ms[k] = m at *
        cases hx : (m.name == x)
        · have HD : Hid (v = (ms.drop (k + 1)).any fun m => m.name == x) := Lib.hid (by rw [hd, hx]; rfl)
          clear hd
          go_wp2_with fail
          go_roundw
          case rel => exact ⟨k + 1, by omega, by go_num, hb.alloc hb.size _, HD⟩
          case measure => simp [intOf]; omega
        · have HD : Hid (v = true) := Lib.hid (by rw [hd, hx]; rfl)
          clear hd
          go_wp2_with fail
          go_ret
          exact ⟨ret_bool HD.out, hb.alloc hb.size _⟩
      · have HD : Hid (v = false) := Lib.hid (by rw [hf.out, drop_end hlt]; rfl)
        go_wp2_with fail
        go_ret
        exact ⟨ret_bool HD.out, hb⟩
end Go.Proofs.YtpeamehplhpcjaaGreatDoor
namespace Go.Proofs.YtpeamehplhpcjaaGreatDoor
open Go.RowKit
structure FjW (w W : World) (cu : Array Value) : Prop where
  bl : Below w.heap.size w W
  un : W.heap[w.heap.size]? = some (.cells cu 36 (0, 0))
  res : W.heap[w.heap.size + 1]? = some (.cells #[.string ⟨#[]⟩, .int .i64 0, .int .i64 0, .slice none 0 0, .string ⟨#[]⟩, .int .i64 0, .int .i64 0] 48 (0, 0))
theorem FjW.below {w W W' : World} {cu : Array Value} (h : FjW w W cu) (hb : Below W.heap.size W W') : FjW w W' cu := ⟨h.bl.trans (hb.mono h.bl.size), keptBlk hb h.un, keptBlk hb h.res⟩
set_option maxRecDepth 100000 in
set_option maxHeartbeats 4000000 in
theorem rfind_any (up : Bs) (A1 : Option Addr) (n1 c1 : Nat) (A2 : Option Addr) (n2 c2 : Nat) (A3 : Option Addr) (n3 c3 : Nat) (A4 : Option Addr) (n4 c4 : Nat) (A5 : Option Addr) (n5 c5 : Nat) (its : List Itm) (w : World) (S : Nat → Prop) (h3 : Sl w S A3 n3 c3 its) (nm : Bs) :
    Calls Tryz.prog 17 #[.agg #[.string ⟨up.toArray⟩, .slice A1 n1 c1, .slice A2 n2 c2, .slice A3 n3 c3, .slice A4 n4 c4, .slice A5 n5 c5], .string ⟨nm.toArray⟩] w fun e w' => ∃ v', e = .returned (.tuple #[v', .bool (its.find? (fun y => y.name == nm)).isSome]) ∧ VItm w' S v' ((its.find? (fun y => y.name == nm)).getD itm0) ∧ Below w.heap.size w w' := by
  have hn3 := h3.len
  have hle3 := h3.le
  subst hn3
  obtain ⟨v, hv⟩ : ∃ v, v = its.find? (fun y => y.name == nm) := ⟨_, rfl⟩
  rw [← hv]
  have Hf : Hid (v = (its.drop 0).find? (fun y => y.name == nm)) := Lib.hid hv
  have H3 := Lib.hid (show Sl w (fun k => S k ∧ k < w.heap.size) A3 its.length c3 its from h3.wide (fun k hk h => ⟨h, hk⟩) (by decide))
  clear hv h3
  go_enter Tryz.func17, Tryz.ntmps17
  go_upto_region 1 with fail
  have hb0 : Below w.heap.size w ((w.alloc (.cells #[.string ⟨up.toArray⟩, .slice A1 n1 c1, .slice A2 n2 c2, .slice A3 its.length c3, .slice A4 n4 c4, .slice A5 n5 c5] 36)).alloc (.cells #[.string ⟨#[]⟩, .int .i64 0, .int .i64 0, .slice none 0 0, .string ⟨#[]⟩, .int .i64 0, .int .i64 0] 48)) := by ((repeat (first | (with_reducible exact Below.refl _ _) | (with_reducible refine belowA ?_ _) | (with_reducible refine belowD ?_) | (with_reducible refine belowS ?_ (Nat.le_refl _) _ _) | (with_reducible refine next ?_ (by assumption) (Nat.le_refl _)))); done)
  have q0 : ((w.alloc (.cells #[.string ⟨up.toArray⟩, .slice A1 n1 c1, .slice A2 n2 c2, .slice A3 its.length c3, .slice A4 n4 c4, .slice A5 n5 c5] 36)).alloc (.cells #[.string ⟨#[]⟩, .int .i64 0, .int .i64 0, .slice none 0 0, .string ⟨#[]⟩, .int .i64 0, .int .i64 0] 48)).heap[w.heap.size]? = some (.cells #[.string ⟨up.toArray⟩, .slice A1 n1 c1, .slice A2 n2 c2, .slice A3 its.length c3, .slice A4 n4 c4, .slice A5 n5 c5] 36 (0, 0)) := blkOld (blkAt w (.cells #[.string ⟨up.toArray⟩, .slice A1 n1 c1, .slice A2 n2 c2, .slice A3 its.length c3, .slice A4 n4 c4, .slice A5 n5 c5] 36) rfl) _
  have q1 : ((w.alloc (.cells #[.string ⟨up.toArray⟩, .slice A1 n1 c1, .slice A2 n2 c2, .slice A3 its.length c3, .slice A4 n4 c4, .slice A5 n5 c5] 36)).alloc (.cells #[.string ⟨#[]⟩, .int .i64 0, .int .i64 0, .slice none 0 0, .string ⟨#[]⟩, .int .i64 0, .int .i64 0] 48)).heap[w.heap.size + 1]? = some (.cells #[.string ⟨#[]⟩, .int .i64 0, .int .i64 0, .slice none 0 0, .string ⟨#[]⟩, .int .i64 0, .int .i64 0] 48 (0, 0)) := blkAt (w.alloc (.cells #[.string ⟨up.toArray⟩, .slice A1 n1 c1, .slice A2 n2 c2, .slice A3 its.length c3, .slice A4 n4 c4, .slice A5 n5 c5] 36)) (.cells #[.string ⟨#[]⟩, .int .i64 0, .int .i64 0, .slice none 0 0, .string ⟨#[]⟩, .int .i64 0, .int .i64 0] 48) (by simp)
  generalize ((w.alloc (.cells #[.string ⟨up.toArray⟩, .slice A1 n1 c1, .slice A2 n2 c2, .slice A3 its.length c3, .slice A4 n4 c4, .slice A5 n5 c5] 36)).alloc (.cells #[.string ⟨#[]⟩, .int .i64 0, .int .i64 0, .slice none 0 0, .string ⟨#[]⟩, .int .i64 0, .int .i64 0] 48)) = W0 at *
  have HW0 := Lib.hid (show FjW w W0 _ from ⟨hb0, q0, q1⟩)
  have c3' := (cell_blk q0 3).trans rfl
  clear hb0 q0 q1
  go_wp2_with fail
  clear c3'
  go_loopw [11] (fun i wr => ∃ k : Nat, k ≤ its.length ∧ i = .int .i64 k ∧ FjW w wr #[.string ⟨up.toArray⟩, .slice A1 n1 c1, .slice A2 n2 c2, .slice A3 its.length c3, .slice A4 n4 c4, .slice A5 n5 c5] ∧ Hid (v = (its.drop k).find? (fun y => y.name == nm))) (fun i _ => its.length - (intOf i).toNat)
  case atStart => exact ⟨0, by omega, rfl, HW0.out, Hf⟩
  case round =>
    obtain ⟨k, hk, rfl, hw, hf⟩ := hrel
    have H31 := Lib.hid (H3.out.below hw.bl)
    by_cases hlt : k < its.length
    · obtain ⟨b3, o3, rfl, -, hb3, Ax, nx, cx, g0, g1, g2, g3, g4, g5, g6, hsx⟩ := H31.out.itm hlt
      have hd := hf.out
      rw [drop_get hlt, List.find?_cons] at hd
      clear hf
      generalize its[k] = x at *
      have hlr := (Array.getElem?_eq_some_iff.1 hw.res).1
      have HW2 := Lib.hid (hw.below (show Below wr.heap.size wr (wr.alloc (.cells #[.string ⟨x.name.toArray⟩, .int .i64 x.kind, .int .i64 x.mode, .slice Ax nx cx, .string ⟨x.body.path.toArray⟩, .int .i64 x.body.fr, .int .i64 x.body.tu] 48)) from boxed))
      have HX2 := Lib.hid (blkAt wr (.cells #[.string ⟨x.name.toArray⟩, .int .i64 x.kind, .int .i64 x.mode, .slice Ax nx cx, .string ⟨x.body.path.toArray⟩, .int .i64 x.body.fr, .int .i64 x.body.tu] 48) rfl)
      have HSX := Lib.hid (hsx.alloc (.cells #[.string ⟨x.name.toArray⟩, .int .i64 x.kind, .int .i64 x.mode, .slice Ax nx cx, .string ⟨x.body.path.toArray⟩, .int .i64 x.body.fr, .int .i64 x.body.tu] 48))
      go_upto_region 4 with fail
      generalize (wr.alloc (.cells #[.string ⟨x.name.toArray⟩, .int .i64 x.kind, .int .i64 x.mode, .slice Ax nx cx, .string ⟨x.body.path.toArray⟩, .int .i64 x.body.fr, .int .i64 x.body.tu] 48)) = w2 at *
      generalize wr.heap.size = gx at *
      have z0 := (cell_blk HX2.out 0).trans rfl
      clear hw hsx g0 g1 g2 g3 g4 g5 g6 H31
      cases hx : (x.name == nm) with
      | true =>
        have HR := Lib.hid (show v = some x by rw [hd, hx])
        clear hd z0
        have x0 := (cell_blk HX2.out 0).trans rfl
        have x1 := (cell_blk HX2.out 1).trans rfl
        have x2 := (cell_blk HX2.out 2).trans rfl
        have x3 := (cell_blk HX2.out 3).trans rfl
        have x4 := (cell_blk HX2.out 4).trans rfl
        have x5 := (cell_blk HX2.out 5).trans rfl
        have x6 := (cell_blk HX2.out 6).trans rfl
        (have r0 := (cell_blk HW2.out.res 0).trans rfl); (have r1 := (cell_blk HW2.out.res 1).trans rfl); (have r2 := (cell_blk HW2.out.res 2).trans rfl); (have r3 := (cell_blk HW2.out.res 3).trans rfl); (have r4 := (cell_blk HW2.out.res 4).trans rfl); (have r5 := (cell_blk HW2.out.res 5).trans rfl); (have r6 := (cell_blk HW2.out.res 6).trans rfl); (have f0 := frz_blk HW2.out.res 0); (have f1 := frz_blk HW2.out.res 1); (have f2 := frz_blk HW2.out.res 2); (have f3 := frz_blk HW2.out.res 3); (have f4 := frz_blk HW2.out.res 4); (have f5 := frz_blk HW2.out.res 5); (have f6 := frz_blk HW2.out.res 6)
        go_wp2_with fail
        (have hRF := set7 _ HW2.out.res (.string ⟨x.name.toArray⟩) (.int .i64 x.kind) (.int .i64 x.mode) (.slice Ax nx cx) (.string ⟨x.body.path.toArray⟩) (.int .i64 x.body.fr) (.int .i64 x.body.tu)); (have t0 := (cell_blk hRF 0).trans rfl); (have t1 := (cell_blk hRF 1).trans rfl); (have t2 := (cell_blk hRF 2).trans rfl); (have t3 := (cell_blk hRF 3).trans rfl); (have t4 := (cell_blk hRF 4).trans rfl); (have t5 := (cell_blk hRF 5).trans rfl); (have t6 := (cell_blk hRF 6).trans rfl)
        refine bodyPost_ret (v := .tuple #[.agg #[.string ⟨x.name.toArray⟩, .int .i64 x.kind, .int .i64 x.mode, .slice Ax nx cx, .string ⟨x.body.path.toArray⟩, .int .i64 x.body.fr, .int .i64 x.body.tu], .bool true]) (by simp [results, Tryz.results17, go_sem, t0, t1, t2, t3, t4, t5, t6]) rfl ?_
        exact ⟨_, by rw [HR.out]; rfl, by rw [HR.out]; exact ⟨Ax, nx, cx, rfl, (HSX.out.keep (fun k _ hk => set7_other _ _ _ _ _ _ _ _ k (by have := hk.2; omega))).wide (fun k _ hk => hk.1) (by decide)⟩, belowS (belowS (belowS (belowS (belowS (belowS (belowS HW2.out.bl (by omega) _ _) (by omega) _ _) (by omega) _ _) (by omega) _ _) (by omega) _ _) (by omega) _ _) (by omega) _ _⟩
      | false =>
        have HD : Hid (v = (its.drop (k + 1)).find? (fun y => y.name == nm)) := Lib.hid (by rw [hd, hx])
        clear hd
        go_wp2_with fail
        go_roundw
        case rel => exact ⟨k + 1, by omega, by go_num, HW2.out, HD⟩
        case measure => simp [intOf]; omega
    · have hd := hf.out
      rw [drop_end hlt] at hd
      have HR := Lib.hid (show v = none from hd)
      have HW1 := Lib.hid hw
      clear hd hf hw H31
      (have r0 := (cell_blk HW1.out.res 0).trans rfl); (have r1 := (cell_blk HW1.out.res 1).trans rfl); (have r2 := (cell_blk HW1.out.res 2).trans rfl); (have r3 := (cell_blk HW1.out.res 3).trans rfl); (have r4 := (cell_blk HW1.out.res 4).trans rfl); (have r5 := (cell_blk HW1.out.res 5).trans rfl); (have r6 := (cell_blk HW1.out.res 6).trans rfl); (have f0 := frz_blk HW1.out.res 0); (have f1 := frz_blk HW1.out.res 1); (have f2 := frz_blk HW1.out.res 2); (have f3 := frz_blk HW1.out.res 3); (have f4 := frz_blk HW1.out.res 4); (have f5 := frz_blk HW1.out.res 5); (have f6 := frz_blk HW1.out.res 6)
      go_wp2_with fail
      (have hRF := set7 _ HW1.out.res (.string ⟨#[]⟩) (.int .i64 0) (.int .i64 0) (.slice none 0 0) (.string ⟨#[]⟩) (.int .i64 0) (.int .i64 0)); (have t0 := (cell_blk hRF 0).trans rfl); (have t1 := (cell_blk hRF 1).trans rfl); (have t2 := (cell_blk hRF 2).trans rfl); (have t3 := (cell_blk hRF 3).trans rfl); (have t4 := (cell_blk hRF 4).trans rfl); (have t5 := (cell_blk hRF 5).trans rfl); (have t6 := (cell_blk hRF 6).trans rfl)
      refine bodyPost_ret (v := .tuple #[.agg #[.string ⟨#[]⟩, .int .i64 0, .int .i64 0, .slice none 0 0, .string ⟨#[]⟩, .int .i64 0, .int .i64 0], .bool false]) (by simp [results, Tryz.results17, go_sem, t0, t1, t2, t3, t4, t5, t6]) rfl ?_
      exact ⟨_, by rw [HR.out]; rfl, by rw [HR.out]; exact ⟨none, 0, 0, rfl, Sl.nil _ _ _ _ (by decide)⟩, belowS (belowS (belowS (belowS (belowS (belowS (belowS HW1.out.bl (by omega) _ _) (by omega) _ _) (by omega) _ _) (by omega) _ _) (by omega) _ _) (by omega) _ _) (by omega) _ _⟩
end Go.Proofs.YtpeamehplhpcjaaGreatDoor
