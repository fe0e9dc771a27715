/- Query (package licitlaw54): a part of the proofs of its laws; see the law's own text, which comes last in 'order'. No conditions of its own. -/
import Derived.Test.YtkjoaodoioicpaaGreatDoorWC02
import Derived.Test.YtkjoaodoioicpaaGreatDoorWC03
import Derived.Test.YtkjoaodoioicpaaGreatDoorWC05
import Derived.Test.YtkjoaodoioicpaaGreatDoorWC30
set_option linter.unusedVariables false
set_option linter.unusedSimpArgs false
namespace Go.Proofs.YtkjoaodoioicpaaGreatDoor
open Go.RowKit
set_option maxHeartbeats 1000000 in
theorem rhas_any (A : Option Addr) (n c : Nat) (l : List Bs) (s : Bs) (w : World) (S : Nat → Prop) (hl : Sl w S A n c l) :
    Calls Tryz.prog 153 #[.slice A n c, .string ⟨s.toArray⟩] w fun e w' => e = .returned (.bool (l.contains s)) ∧ w' = w := by
  obtain ⟨v, hv⟩ : ∃ v, v = l.contains s := ⟨_, rfl⟩
  rw [← hv]
  have hn := hl.len
  subst hn
  have hle := hl.le
  have Hf : Hid (v = (l.drop 0).contains s) := hv
  have HL := Lib.hid hl; clear hv hl
  go_enter Tryz.func153, Tryz.ntmps153
  go_wp2_with fail
  go_loop [5] (fun i => ∃ k : Nat, k ≤ l.length ∧ i = .int .i64 k ∧ Hid (v = (l.drop k).contains s)) (fun i => l.length - (intOf i).toNat)
  case atStart => exact ⟨0, by omega, rfl, Hf⟩
  case round =>
    obtain ⟨k, hk, rfl, hf⟩ := hrel
    by_cases hlt : k < l.length
    · obtain ⟨b, o, rfl, -, hbs, h1⟩ := HL.out.str hlt
      have hd := hf.out
      rw [drop_get hlt, List.contains_cons] at hd
      generalize l[k] = x at *
      by_cases hx : s = x
      · have hxb : (x == s) = true := by simp [hx]
        have HD := Lib.hid (show v = true by rw [hd, hx]; simp); clear hd hf hx
        go_wp2_with fail
        go_ret
        exact ⟨ret_bool HD.out, rfl⟩
      · have hxb : (x == s) = false := by rw [beq_eq_false_iff_ne]; exact fun e => hx e.symm
        have HD := Lib.hid (show v = (l.drop (k + 1)).contains s by rw [hd]; simp [hx]); clear hd hf hx
        go_wp2_with fail
        go_round
        case rel => exact ⟨k + 1, by omega, by go_num, HD.out⟩
        case measure => simp [intOf]; omega
    · have hd := hf.out
      rw [drop_end hlt] at hd
      have HD := Lib.hid (show v = false from hd); clear hd hf
      go_wp2_with fail
      go_ret
      exact ⟨ret_bool HD.out, rfl⟩
theorem grown_trans {w w1 w2 : World} {A A1 : Option Nat} (h : w.grownBy w1 A) (h1 : w1.grownBy w2 A1) (ha : A1 = A ∨ ∃ k, A1 = some k ∧ w.heap.size ≤ k) : w.grownBy w2 A :=
  ⟨h1.os.trans h.os, h1.tape.trans h.tape, h1.output.trans h.output, Nat.le_trans h.size h1.size, fun k hk hne => (h1.block k (Nat.lt_of_lt_of_le hk h.size) (fun e => by
    rcases ha with ha | ⟨q, ha, hq⟩
    · exact hne (e.trans ha)
    · rw [ha] at e; injection e with e; omega)).trans (h.block k hk hne)⟩
theorem grown_alloc {w w1 : World} {A : Option Nat} (o : Obj) (h : (w.alloc o).grownBy w1 A) : w.grownBy w1 A :=
  ⟨h.os, h.tape, h.output, Nat.le_trans (by simp) h.size, fun k hk hne => (h.block k (by simp; omega) hne).trans (Below.heap_alloc _ _ k hk)⟩
theorem grown_refl (w : World) (A : Option Nat) : w.grownBy w A := ⟨rfl, rfl, rfl, Nat.le_refl _, fun _ _ _ => rfl⟩
def AdPost (w : World) (base : Nat) (A : Option Addr) (r : List Bs) (e : Ending) (w' : World) : Prop :=
  ∃ A' c', e = .returned (.slice A' r.length c') ∧ Own w' (fun _ => False) base 9 A' c' r ∧ w.grownBy w' (A.map Addr.block) ∧ (A'.map Addr.block = A.map Addr.block ∨ ∃ k, A'.map Addr.block = some k ∧ w.heap.size ≤ k)
set_option maxRecDepth 100000 in
set_option maxHeartbeats 4000000 in
theorem added_any (base : Nat) (A : Option Addr) (c : Nat) (out : List Bs) (B : Option Addr) (m d : Nat) (l : List Arg) (w : World) (S : Nat → Prop) (ho : Own w (fun _ => False) base 9 A c out) (hl : Sl w S B m d l)
    (hS : ∀ k, S k → A.map Addr.block ≠ some k) (hb : base ≤ w.heap.size) (hlen : out.length + l.length ≤ 1000000) :
    Calls Tryz.prog 135 #[.slice A out.length c, .slice B m d] w (AdPost w base A (addV out l)) := by
  obtain ⟨v, hv⟩ : ∃ v, v = addV out l := ⟨_, rfl⟩
  rw [← hv]
  have hn := hl.len
  subst hn
  have Hf : Hid (v = addV out (l.drop 0)) := hv
  have HL := Lib.hid (hl.wide (S' := fun k => k < w.heap.size ∧ A.map Addr.block ≠ some k) (fun k hk hs => ⟨hk, hS k hs⟩) (by decide)); have HO := Lib.hid ho; clear hv hl hS ho
  go_enter Tryz.func135, Tryz.ntmps135
  go_wp2_with fail
  go_loopw [0, 5] (fun o i wr => ∃ k : Nat, k ≤ l.length ∧ i = .int .i64 k ∧ ∃ (out' : List Bs) (A' : Option Addr) (c' : Nat), o = .slice A' out'.length c' ∧ Own wr (fun _ => False) base 9 A' c' out' ∧ w.grownBy wr (A.map Addr.block) ∧ (A'.map Addr.block = A.map Addr.block ∨ ∃ k, A'.map Addr.block = some k ∧ w.heap.size ≤ k) ∧ out'.length ≤ out.length + k ∧ Hid (v = addV out' (l.drop k))) (fun _ i _ => l.length - (intOf i).toNat)
  case atStart => exact ⟨0, by omega, rfl, out, A, c, rfl, HO.out, grown_refl _ _, .inl rfl, by omega, Hf⟩
  case round =>
    obtain ⟨k, hk, rfl, out', A', c', rfl, hown, hgr, hat, hol, hf⟩ := hrel
    have hsz := hgr.size
    by_cases hlt : k < l.length
    · obtain ⟨b, o, rfl, -, hbs, h1, h2, h3⟩ := (HL.out.keep (w' := wr) (fun z hz hs => hgr.block z hz (fun e => hs.2 e.symm))).arg hlt
      have hd := hf.out
      rw [drop_get hlt, addV] at hd
      have hha := fun t => rhas_any A' out'.length c' out' t wr _ (hown.sl (by decide))
      generalize l[k] = x at *
      obtain ⟨xk, xt, xn⟩ := x
      simp only at h1 h2 h3 hd
      have hha := hha xt
      by_cases hk1 : xk = 1
      · subst hk1
        cases hcn : out'.contains xt
        · rw [hcn] at hha hd
          rw [if_pos (by simp)] at hd
          have HD := Lib.hid hd; have HHA := Lib.hid hha; have HOW := Lib.hid hown; have HGR := Lib.hid hgr; have HAT := Lib.hid hat; clear hd hha hown hgr hat hcn hf
          go_wp2_with fail
          refine HHA.out.mono ?_
          rintro e w' ⟨rfl, rfl⟩
          go_wp2_with (first | (at_builtin; go_loud (refine wpList_app1 rfl _ _ eltStr rfl (by decide) rfl rfl rfl (HOW.out.alloc _) rfl [.string ⟨xt.toArray⟩] xt (blkAt _ _ rfl) rfl rfl (by omega) (by omega) (by simp; omega) ?_); intro A2 c2 w3 hown' hg hat2))
          go_roundw
          case rel => exact ⟨k + 1, by omega, by go_num, out' ++ [xt], A2, c2, by simp, hown', grown_trans HGR.out (grown_alloc _ hg) HAT.out, by
            rcases hat2 with hat2 | hat2
            · rw [hat2]; exact HAT.out
            · exact .inr ⟨_, hat2, by simp; omega⟩, by simp; omega, HD.out⟩
          case measure => simp [intOf]; omega
        · rw [hcn] at hha hd
          rw [if_neg (by simp)] at hd
          have HD := Lib.hid hd; have HHA := Lib.hid hha; have HOW := Lib.hid hown; have HGR := Lib.hid hgr; have HAT := Lib.hid hat; clear hd hha hown hgr hat hcn hf
          go_wp2_with fail
          refine HHA.out.mono ?_
          rintro e w' ⟨rfl, rfl⟩
          go_wp2_with fail
          go_roundw
          case rel => exact ⟨k + 1, by omega, by go_num, out', A', c', rfl, HOW.out, HGR.out, HAT.out, by omega, HD.out⟩
          case measure => simp [intOf]; omega
      · have hkb : (xk == 1) = false := by simpa using hk1
        rw [if_neg (by simp [hk1])] at hd
        have HD := Lib.hid hd; have HOW := Lib.hid hown; have HGR := Lib.hid hgr; have HAT := Lib.hid hat; clear hd hha hown hgr hat hf hk1
        go_wp2_with fail
        go_roundw
        case rel => exact ⟨k + 1, by omega, by go_num, out', A', c', rfl, HOW.out, HGR.out, HAT.out, by omega, HD.out⟩
        case measure => simp [intOf]; omega
    · have hd := hf.out
      rw [drop_end hlt] at hd
      have hd : v = out' := hd
      have HOW := Lib.hid hown; have HGR := Lib.hid hgr; have HAT := Lib.hid hat; have HD := Lib.hid hd; clear hown hgr hat hd hf
      go_wp2_with fail
      go_ret
      rw [HD.out]
      exact ⟨A', c', rfl, HOW.out, HGR.out, HAT.out⟩
set_option maxRecDepth 100000 in
set_option maxHeartbeats 4000000 in
theorem rvariables_any (r : Rul) (A1 : Option Addr) (n1 c1 : Nat) (A2 : Option Addr) (n2 c2 : Nat) (w : World) (S : Nat → Prop) (h1 : Sl w S A1 n1 c1 r.head.args) (h2 : Sl w S A2 n2 c2 r.body) (hlen : r.head.args.length + cntB r.body ≤ 1000000) :
    Calls Tryz.prog 106 #[.agg #[.string ⟨r.head.name.toArray⟩, .slice A1 n1 c1, .slice A2 n2 c2]] w fun e w' => ∃ A c, e = .returned (.slice A (varsS r).length c) ∧ Sl w' (fun b => w.heap.size ≤ b) A (varsS r).length c (varsS r) ∧ Below w.heap.size w w' := by
  obtain ⟨v, hv⟩ : ∃ v, v = varsS r := ⟨_, rfl⟩
  rw [← hv]
  unfold varsS at hv
  have hn2 := h2.len
  have hle := h2.le
  subst hn2
  have ha1 := addV_len r.head.args []
  have H1 := Lib.hid (h1.wide (S' := fun b => b < w.heap.size) (fun k hk _ => hk) (by decide)); have H2 := Lib.hid (h2.wide (S' := fun b => b < w.heap.size) (fun k hk _ => hk) (by decide)); clear h1 h2
  generalize r.head.args = args at *
  generalize r.head.name = nm at *
  generalize r.body = body at *
  simp only [List.length_nil, Nat.zero_add] at ha1
  have HV := Lib.hid hv; clear hv
  go_enter Tryz.func106, Tryz.ntmps106
  go_wp2_with fail
  refine (added_any w.heap.size none 0 [] A1 n1 c1 args _ _ (Own.nil _ _ _ _) (H1.out.alloc _) (fun k _ e => by cases e) (by simp) (by simp; omega)).mono ?_
  rintro e w1 ⟨B1, d1, rfl, hown1, hg1, hat1⟩
  have hg10 := grown_alloc _ hg1
  have hX := grownBlk hg1 (blkAt w (.cells #[.string ⟨nm.toArray⟩, .slice A1 n1 c1, .slice A2 body.length c2] 34) rfl) (fun e => by cases e)
  have hb1 : Below w.heap.size w w1 := (Below.refl _ _).grown hg10 (Nat.le_refl _) (fun k e => by cases e)
  have k2 := (cell_blk hX 2).trans rfl
  have hlb1 := hown1.lt
  have HO1 := Lib.hid hown1; have HB1 := Lib.hid hb1; have HX := Lib.hid hX
  have Hf : Hid (v = addB (addV [] args) (body.drop 0)) := HV
  have hxl := (Array.getElem?_eq_some_iff.1 hX).1
  have hne1 : B1.map Addr.block ≠ some w.heap.size := fun e => by
    rcases hat1 with h | ⟨k, h, hk⟩
    · rw [h] at e; cases e
    · rw [h] at e; injection e with e; simp at hk; omega
  clear hown1 hg1 hat1 hg10 hX hb1 hlb1
  go_wp2_with fail
  go_loopw [3, 4] (fun o i wr => ∃ k : Nat, k ≤ body.length ∧ i = .int .i64 k ∧ ∃ (out : List Bs) (B : Option Addr) (d : Nat), o = .slice B out.length d ∧ Own wr (fun _ => False) w.heap.size 9 B d out ∧ Below w.heap.size w wr ∧ wr.heap[w.heap.size]? = some (.cells #[.string ⟨nm.toArray⟩, .slice A1 n1 c1, .slice A2 body.length c2] 34 (0, 0)) ∧ B.map Addr.block ≠ some w.heap.size ∧ out.length + cntB (body.drop k) ≤ args.length + cntB body ∧ Hid (v = addB out (body.drop k))) (fun _ i _ => body.length - (intOf i).toNat)
  case atStart => exact ⟨0, by omega, rfl, _, B1, d1, rfl, HO1.out, HB1.out, HX.out, hne1, by simp; omega, Hf⟩
  case round =>
    obtain ⟨k, hk, rfl, out, B, d, rfl, hown, hb, hX, hne, hol, hf⟩ := hrel
    have hwr := hb.size
    have k2 := (cell_blk hX 2).trans rfl
    have hxl := (Array.getElem?_eq_some_iff.1 hX).1
    by_cases hlt : k < body.length
    · obtain ⟨b, o, rfl, hbn, hbs, A3, n3, c3, g1, g2, g3, g4, hs⟩ := (H2.out.below hb).ltl hlt
      have hd := hf.out
      rw [drop_get hlt, addB] at hd
      rw [cntB_drop hlt] at hol
      generalize body[k] = x at *
      have hlen2 := addV_len x.atom.args out
      have had := added_any w.heap.size B d out A3 n3 c3 x.atom.args wr _ hown hs (fun q hq e => by have := (hown.lt q e).1; omega) (by omega) (by omega)
      have HAD := Lib.hid had; have HD := Lib.hid hd; have HB := Lib.hid hb; have HX := Lib.hid hX; have HOW := Lib.hid hown
      clear had hd hb hX hown hf hs
      go_wp2_with fail
      refine HAD.out.mono ?_
      rintro e w2 ⟨B2, d2, rfl, hown2, hg2, hat2⟩
      have hX2 := grownBlk hg2 HX.out hne
      go_wp2_with fail
      go_roundw
      case rel => exact ⟨k + 1, by omega, by go_num, _, B2, d2, rfl, hown2, HB.out.grown hg2 (by omega) (fun q hq => (HOW.out.lt q hq).1), hX2, by
        rcases hat2 with h | ⟨q, h, hq⟩
        · rw [h]; exact hne
        · rw [h]; intro e; injection e with e; omega, by omega, HD.out⟩
      case measure => simp [intOf]; omega
    · have hd := hf.out
      rw [drop_end hlt] at hd
      have hd : v = out := hd
      have HOW := Lib.hid hown; have HB := Lib.hid hb; have HD := Lib.hid hd; clear hown hb hd hf hX
      go_wp2_with fail
      go_ret
      rw [HD.out]
      exact ⟨B, d, rfl, (HOW.out.sl (by decide)).wide (fun q _ hq => hq.elim False.elim (fun hq => (HOW.out.lt q hq).1)) (by decide), HB.out⟩
end Go.Proofs.YtkjoaodoioicpaaGreatDoor
namespace Go.Proofs.YtkjoaodoioicpaaGreatDoor
open Go.RowKit
def fewA (a : Atm) : Bool := decide (a.name.length ≤ 100) && decide (a.args.length ≤ 10) && a.args.all fun x => decide (x.text.length ≤ 200)
def fewAs (l : List Atm) (m : Int) : Bool := decide ((l.length : Int) ≤ m) && l.all fewA
def fewL (x : Ltl) : Bool := decide (x.op.length ≤ 10) && fewA x.atom
def fewR (r : Rul) : Bool := decide (r.body.length ≤ 8) && fewA r.head && r.body.all fewL
def fewS (l : List Rul) (m : Int) : Bool := decide ((l.length : Int) ≤ m) && l.all fewR
set_option maxRecDepth 100000 in
set_option maxHeartbeats 4000000 in
theorem fewAtoms_any (A : Option Addr) (n c : Nat) (l : List Atm) (m : Int) (w : World) (S : Nat → Prop) (hl : Sl w S A n c l) (ho : ∀ a ∈ l, OkT a) :
    Calls Tryz.prog 24 #[.slice A n c, .int .i64 m] w fun e w' => e = .returned (.bool (fewAs l m)) ∧ w' = w := by
  obtain ⟨v, hv⟩ : ∃ v, v = fewAs l m := ⟨_, rfl⟩
  rw [← hv]
  unfold fewAs at hv
  have hn := hl.len
  subst hn
  have hle := hl.le
  by_cases hm : (l.length : Int) ≤ m
  · replace hv : v = (l.drop 0).all fewA := by rw [hv]; simp [hm]
    have hmI : ¬ m < (l.length : Int) := by omega
    have HF := Lib.hid hv
    have HL := Lib.hid hl; have HO := Lib.hid ho; clear hv hl ho hm
    go_enter Tryz.func24, Tryz.ntmps24
    go_wp2_with fail
    go_loop [5] (fun i => ∃ k : Nat, k ≤ l.length ∧ i = .int .i64 k ∧ Hid (v = (l.drop k).all fewA)) (fun i => l.length - (intOf i).toNat)
    case atStart => exact ⟨0, by omega, rfl, HF⟩
    case round =>
      obtain ⟨k, hk, rfl, hf⟩ := hrel
      by_cases hlt : k < l.length
      · obtain ⟨b, o, rfl, -, hbs, A1, n1, c1, h1, h2, hs⟩ := HL.out.atm hlt
        have hd := hf.out
        rw [drop_get hlt, List.all_cons] at hd
        have hox := HO.out _ (List.getElem_mem hlt)
        generalize l[k] = x at *
        obtain ⟨nm, args⟩ := x
        simp only at h1 h2 hs
        have hn1 := hs.len
        subst hn1
        have hle1 := hs.le
        rw [show fewA ⟨nm, args⟩ = (decide (nm.length ≤ 100) && decide (args.length ≤ 10) && args.all fun x => decide (x.text.length ≤ 200)) from rfl] at hd
        have hnm : nm.length ≤ 9223372036854775807 := hox.1
        by_cases h100 : 100 < nm.length
        · have h100I : (100 : Int) < (nm.length : Int) := by omega
          have HD := Lib.hid (show v = false by rw [hd]; simp [show ¬ nm.length ≤ 100 by omega]); clear hd hf hox hs
          go_wp2_with fail
          go_ret
          exact ⟨ret_bool HD.out, rfl⟩
        · have h100I : ¬ (100 : Int) < (nm.length : Int) := by omega
          by_cases h10 : 10 < args.length
          · have h10I : (10 : Int) < (args.length : Int) := by omega
            have HD := Lib.hid (show v = false by rw [hd]; simp [show ¬ args.length ≤ 10 by omega]); clear hd hf hox hs
            go_wp2_with fail
            go_ret
            exact ⟨ret_bool HD.out, rfl⟩
          · have h10I : ¬ (10 : Int) < (args.length : Int) := by omega
            have hd2 : v = (((args.drop 0).all fun x => decide (x.text.length ≤ 200)) && (l.drop (k + 1)).all fewA) := by rw [hd]; simp [show nm.length ≤ 100 by omega, show args.length ≤ 10 by omega]
            have HD := Lib.hid hd2
            have HS := Lib.hid hs; have HOX := Lib.hid hox.2
            clear hd hd2 hf hox hs
            go_wp2_with fail
            go_loop [6] (fun i => ∃ j : Nat, j ≤ args.length ∧ i = .int .i64 j ∧ Hid (v = (((args.drop j).all fun x => decide (x.text.length ≤ 200)) && (l.drop (k + 1)).all fewA))) (fun i => args.length - (intOf i).toNat)
            case atStart => exact ⟨0, by omega, rfl, HD⟩
            case round =>
              obtain ⟨j, hj, rfl, hg⟩ := hrel
              by_cases hlt2 : j < args.length
              · obtain ⟨b2, o2, rfl, -, hbs2, g1, g2, g3⟩ := HS.out.arg hlt2
                have hd := hg.out
                rw [drop_get hlt2, List.all_cons] at hd
                have hoy := HOX.out _ (List.getElem_mem hlt2)
                generalize args[j] = y at *
                obtain ⟨yk, yt, yn⟩ := y
                simp only at g1 g2 g3 hd hoy
                have hyt : yt.length ≤ 9223372036854775807 := hoy.1
                by_cases h200 : 200 < yt.length
                · have h200I : (200 : Int) < (yt.length : Int) := by omega
                  have HD2 := Lib.hid (show v = false by rw [hd]; simp [show ¬ yt.length ≤ 200 by omega]); clear hd hg hoy
                  go_wp2_with fail
                  go_ret
                  exact ⟨ret_bool HD2.out, rfl⟩
                · have h200I : ¬ (200 : Int) < (yt.length : Int) := by omega
                  have HD2 := Lib.hid (show v = (((args.drop (j + 1)).all fun x => decide (x.text.length ≤ 200)) && (l.drop (k + 1)).all fewA) by rw [hd]; simp [show yt.length ≤ 200 by omega]); clear hd hg hoy
                  go_wp2_with fail
                  go_round
                  case rel => exact ⟨j + 1, by omega, by go_num, HD2.out⟩
                  case measure => simp [intOf]; omega
              · have hd := hg.out
                rw [drop_end hlt2] at hd
                have HD2 := Lib.hid (show v = (l.drop (k + 1)).all fewA from hd); clear hd hg
                go_wp2_with fail
                go_round
                case rel => exact ⟨k + 1, by omega, by go_num, HD2.out⟩
                case measure => simp [intOf]; omega
      · have hd := hf.out
        rw [drop_end hlt] at hd
        have HD := Lib.hid (show v = true from hd); clear hd hf
        go_wp2_with fail
        go_ret
        exact ⟨ret_bool HD.out, rfl⟩
  · have hmI : m < (l.length : Int) := by omega
    have HV := Lib.hid (show v = false by rw [hv]; simp [hm]); clear hv hl ho hm
    go_enter Tryz.func24, Tryz.ntmps24
    go_wp2_with fail
    go_ret
    exact ⟨ret_bool HV.out, rfl⟩
theorem slAtm1 {w : World} {S : Nat → Prop} {b : Nat} {t : TypeId} {fz : Nat × Nat} {x : Atm} {A : Option Addr} {n c : Nat} (hb : w.heap[b]? = some (.cells #[.string ⟨x.name.toArray⟩, .slice A n c] t fz)) (hs : Sl w S A n c x.args) : Sl w (fun _ => True) (some ⟨b, 0, none⟩) 1 1 [x] := by
  refine ⟨rfl, Nat.le_refl _, by decide, fun i hi => ?_⟩
  obtain rfl : i = 0 := by simp at hi; omega
  refine ⟨_, rfl, trivial, fun j => (#[Value.string ⟨x.name.toArray⟩, .slice A n c] : Array Value).getD j undef, fun j hj => ?_, rfl, A, n, c, rfl, hs.any⟩
  have hj : j < 2 := hj
  rw [add_plain, cell_blk hb]
  match j, hj with
  | 0, _ => rfl
  | 1, _ => rfl
set_option maxRecDepth 100000 in
set_option maxHeartbeats 4000000 in
theorem few_any (A : Option Addr) (n c : Nat) (l : List Rul) (m : Int) (w : World) (S : Nat → Prop) (hl : Sl w S A n c l) (ho : ∀ r ∈ l, OkR r) :
    Calls Tryz.prog 23 #[.slice A n c, .int .i64 m] w fun e w' => e = .returned (.bool (fewS l m)) ∧ Below w.heap.size w w' := by
  obtain ⟨v, hv⟩ : ∃ v, v = fewS l m := ⟨_, rfl⟩
  rw [← hv]
  unfold fewS at hv
  have hn := hl.len
  subst hn
  have hle := hl.le
  by_cases hm : (l.length : Int) ≤ m
  · replace hv : v = (l.drop 0).all fewR := by rw [hv]; simp [hm]
    have hmI : ¬ m < (l.length : Int) := by omega
    have HF := Lib.hid hv
    have HL := Lib.hid (hl.wide (S' := fun b => b < w.heap.size) (fun k hk _ => hk) (by decide)); have HO := Lib.hid ho; clear hv hl ho hm
    go_enter Tryz.func23, Tryz.ntmps23
    go_wp2_with fail
    go_loopw [5] (fun i wr => ∃ k : Nat, k ≤ l.length ∧ i = .int .i64 k ∧ Below w.heap.size w wr ∧ Hid (v = (l.drop k).all fewR)) (fun i _ => l.length - (intOf i).toNat)
    case atStart => exact ⟨0, by omega, rfl, Below.refl _ _, HF⟩
    case round =>
      obtain ⟨k, hk, rfl, hb, hf⟩ := hrel
      have hwr := hb.size
      by_cases hlt : k < l.length
      · obtain ⟨b, o, rfl, hbl, hbs, A1, n1, c1, A2, n2, c2, h1, h2, h3, hs1, hs2⟩ := (HL.out.below hb).rul hlt
        have hd := hf.out
        rw [drop_get hlt, List.all_cons] at hd
        have hox := HO.out _ (List.getElem_mem hlt)
        generalize l[k] = x at *
        obtain ⟨⟨nm, args⟩, body⟩ := x
        simp only at h1 h2 h3 hs1 hs2
        have hn2 := hs2.len
        subst hn2
        have hle2 := hs2.le
        rw [show fewR ⟨⟨nm, args⟩, body⟩ = (decide (body.length ≤ 8) && fewA ⟨nm, args⟩ && body.all fewL) from rfl] at hd
        by_cases h8 : 8 < body.length
        · have h8I : (8 : Int) < (body.length : Int) := by omega
          have HD := Lib.hid (show v = false by rw [hd]; simp [show ¬ body.length ≤ 8 by omega]); have HB := Lib.hid hb; clear hd hf hox hs1 hs2 hb
          go_wp2_with fail
          go_ret
          exact ⟨ret_bool HD.out, HB.out⟩
        · have h8I : ¬ (8 : Int) < (body.length : Int) := by omega
          replace hd : v = (fewA ⟨nm, args⟩ && (body.drop 0).all fewL && (l.drop (k + 1)).all fewR) := by rw [hd]; simp [show body.length ≤ 8 by omega]
          have hfa := fun w S B (hs : Sl w S B 1 1 [(⟨nm, args⟩ : Atm)]) => fewAtoms_any B 1 1 [⟨nm, args⟩] 1 w S hs (fun a ha => by rw [List.mem_singleton.1 ha]; exact hox.1)
          have e1 : fewAs [(⟨nm, args⟩ : Atm)] 1 = fewA ⟨nm, args⟩ := by simp [fewAs]
          rw [e1] at hfa
          generalize fewA ⟨nm, args⟩ = fa at *
          have hbod := hox.2
          simp only at hbod
          have hsl1 : Sl (wr.alloc (.cells #[.string ⟨nm.toArray⟩, .slice A1 n1 c1] 31)) (fun _ => True) (some ⟨wr.heap.size, 0, none⟩) 1 1 [(⟨nm, args⟩ : Atm)] := slAtm1 (blkAt wr _ rfl) (hs1.alloc _)
          have HFA := Lib.hid (hfa _ _ _ hsl1); have HS2 := Lib.hid hs2; have HBOD := Lib.hid hbod; have HB := Lib.hid hb
          cases fa
          · have HD := Lib.hid (show v = false by rw [hd]; rfl)
            clear hd hf hox hs1 hs2 hb e1 hsl1 hfa hbod
            go_wp2_with fail
            refine HFA.out.mono ?_
            rintro e w1 ⟨rfl, rfl⟩
            go_wp2_with fail
            go_ret
            exact ⟨ret_bool HD.out, HB.out.alloc hwr _⟩
          · replace hd : v = ((body.drop 0).all fewL && (l.drop (k + 1)).all fewR) := by rw [hd]; rfl
            have HD := Lib.hid hd
            clear hd hf hox hs1 hs2 hb e1 hsl1 hfa hbod
            go_wp2_with fail
            refine HFA.out.mono ?_
            rintro e w1 ⟨rfl, rfl⟩
            have hb1 : Below wr.heap.size wr (wr.alloc (.cells #[.string ⟨nm.toArray⟩, .slice A1 n1 c1] 31)) := boxed
            go_wp2_with fail
            obtain ⟨wo, rfl⟩ : ∃ wo, wo = wr := ⟨_, rfl⟩
            have HC := Lib.hid (fun (x : World) (hx : Below wo.heap.size wo x) => (⟨cell_later hx h1, cell_later hx h2, cell_later hx h3⟩ : x.cell? ⟨b, o + k * 3, none⟩ = some (.string ⟨nm.toArray⟩) ∧ x.cell? ⟨b, o + k * 3 + 1, none⟩ = some (.slice A1 n1 c1) ∧ x.cell? ⟨b, o + k * 3 + 2, none⟩ = some (.slice A2 body.length c2)))
            clear h1 h2 h3
            go_loopw [6] (fun i wx => ∃ j : Nat, j ≤ body.length ∧ i = .int .i64 j ∧ Below wo.heap.size wo wx ∧ Hid (v = ((body.drop j).all fewL && (l.drop (k + 1)).all fewR))) (fun i _ => body.length - (intOf i).toNat)
            case atStart => exact ⟨0, by omega, rfl, hb1, HD⟩
            case round =>
              obtain ⟨j, hj, rfl, hbj, hg⟩ := hrel
              have hwj := hbj.size
              obtain ⟨h1, h2, h3⟩ := HC.out _ hbj
              by_cases hlt2 : j < body.length
              · obtain ⟨b2, o2, rfl, -, hbs2, A3, n3, c3, g1, g2, g3, g4, hs3⟩ := (HS2.out.below hbj).ltl hlt2
                have hd := hg.out
                rw [drop_get hlt2, List.all_cons] at hd
                have hoy := HBOD.out _ (List.getElem_mem hlt2)
                generalize body[j] = y at *
                obtain ⟨neg, op, ⟨ynm, yargs⟩⟩ := y
                simp only at g1 g2 g3 g4 hs3
                have hop : op.length ≤ 9223372036854775807 := hoy.1
                rw [show fewL ⟨neg, op, ⟨ynm, yargs⟩⟩ = (decide (op.length ≤ 10) && fewA ⟨ynm, yargs⟩) from rfl] at hd
                by_cases h10 : 10 < op.length
                · have h10I : (10 : Int) < (op.length : Int) := by omega
                  have HD2 := Lib.hid (show v = false by rw [hd]; simp [show ¬ op.length ≤ 10 by omega]); have HBJ := Lib.hid hbj; clear hd hg hoy hs3 hbj
                  go_wp2_with fail
                  go_ret
                  exact ⟨ret_bool HD2.out, HB.out.trans (HBJ.out.mono hwr)⟩
                · have h10I : ¬ (10 : Int) < (op.length : Int) := by omega
                  have hfa := fun w S B (hs : Sl w S B 1 1 [(⟨ynm, yargs⟩ : Atm)]) => fewAtoms_any B 1 1 [⟨ynm, yargs⟩] 1 w S hs (fun a ha => by rw [List.mem_singleton.1 ha]; exact hoy.2)
                  have e1 : fewAs [(⟨ynm, yargs⟩ : Atm)] 1 = fewA ⟨ynm, yargs⟩ := by simp [fewAs]
                  rw [e1] at hfa
                  replace hd : v = (fewA ⟨ynm, yargs⟩ && (body.drop (j + 1)).all fewL && (l.drop (k + 1)).all fewR) := by rw [hd]; simp [show op.length ≤ 10 by omega]
                  generalize fewA ⟨ynm, yargs⟩ = fa at *
                  have hsl1 : Sl (wr.alloc (.cells #[.string ⟨ynm.toArray⟩, .slice A3 n3 c3] 31)) (fun _ => True) (some ⟨wr.heap.size, 0, none⟩) 1 1 [(⟨ynm, yargs⟩ : Atm)] := slAtm1 (blkAt wr _ rfl) (hs3.alloc _)
                  have HFB := Lib.hid (hfa _ _ _ hsl1); have HBJ := Lib.hid hbj
                  cases fa
                  · have HD2 := Lib.hid (show v = false by rw [hd]; rfl)
                    clear hd hg hoy hs3 hbj e1 hfa hsl1
                    go_wp2_with fail
                    refine HFB.out.mono ?_
                    rintro e w2 ⟨rfl, rfl⟩
                    go_wp2_with fail
                    go_ret
                    exact ⟨ret_bool HD2.out, HB.out.trans ((HBJ.out.alloc hwj _).mono hwr)⟩
                  · have HD2 := Lib.hid (show v = ((body.drop (j + 1)).all fewL && (l.drop (k + 1)).all fewR) by rw [hd]; rfl)
                    clear hd hg hoy hs3 hbj e1 hfa hsl1
                    go_wp2_with fail
                    refine HFB.out.mono ?_
                    rintro e w2 ⟨rfl, rfl⟩
                    go_wp2_with fail
                    go_roundw
                    case rel => exact ⟨j + 1, by omega, by go_num, HBJ.out.alloc hwj _, HD2.out⟩
                    case measure => simp [intOf]; omega
              · have hd := hg.out
                rw [drop_end hlt2] at hd
                have HD2 := Lib.hid (show v = (l.drop (k + 1)).all fewR from hd); have HBJ := Lib.hid hbj; clear hd hg hbj
                go_wp2_with fail
                go_roundw
                case rel => exact ⟨k + 1, by omega, by go_num, HB.out.trans (HBJ.out.mono hwr), HD2.out⟩
                case measure => simp [intOf]; omega
      · have hd := hf.out
        rw [drop_end hlt] at hd
        have HD := Lib.hid (show v = true from hd); have HB := Lib.hid hb; clear hd hf hb
        go_wp2_with fail
        go_ret
        exact ⟨ret_bool HD.out, HB.out⟩
  · have hmI : m < (l.length : Int) := by omega
    have HV := Lib.hid (show v = false by rw [hv]; simp [hm]); clear hv hl ho hm
    go_enter Tryz.func23, Tryz.ntmps23
    go_wp2_with fail
    go_ret
    exact ⟨ret_bool HV.out, Below.refl _ _⟩
end Go.Proofs.YtkjoaodoioicpaaGreatDoor
namespace Go.Proofs.YtkjoaodoioicpaaGreatDoor
open Go.RowKit
theorem fewA_sm {a : Atm} (h : fewA a = true) : SmA a := by
  unfold fewA at h
  simp only [Bool.and_eq_true, decide_eq_true_eq] at h
  exact h.1.2
theorem fewR_sm {r : Rul} (h : fewR r = true) : SmR r := by
  unfold fewR at h
  simp only [Bool.and_eq_true, decide_eq_true_eq, List.all_eq_true] at h
  refine ⟨fewA_sm h.1.2, h.1.1, fun x hx => ?_⟩
  have := h.2 x hx
  unfold fewL at this
  simp only [Bool.and_eq_true, decide_eq_true_eq] at this
  exact fewA_sm this.2
theorem fewS_sm {l : List Rul} {m : Nat} (h : fewS l m = true) : l.length ≤ m ∧ ∀ r ∈ l, SmR r := by
  unfold fewS at h
  simp only [Bool.and_eq_true, decide_eq_true_eq, List.all_eq_true] at h
  exact ⟨by omega, fun r hr => fewR_sm (h.2 r hr)⟩
theorem fewAs_sm {l : List Atm} {m : Nat} (h : fewAs l m = true) : l.length ≤ m ∧ ∀ r ∈ l, SmA r := by
  unfold fewAs at h
  simp only [Bool.and_eq_true, decide_eq_true_eq, List.all_eq_true] at h
  exact ⟨by omega, fun r hr => fewA_sm (h.2 r hr)⟩
def RB (P : Bool → Prop) (e : Ending) : Prop := ∃ q, e = .returned (.bool q) ∧ P q
theorem RB.mk {P : Bool → Prop} {e : Ending} (q : Bool) (h : e = .returned (.bool q)) (hp : P q) : RB P e := ⟨q, h, hp⟩
def LightP (l : List Rul) (facts : List Atm) (q : Bool) : Prop := q = true → fewS l 6 = true ∧ fewAs facts 14 = true
set_option maxRecDepth 100000 in
set_option maxHeartbeats 8000000 in
theorem light_any (l : List Rul) (facts : List Atm) (A : Option Addr) (n c : Nat) (B : Option Addr) (m d : Nat) (w : World) (S T : Nat → Prop) (hl : Sl w S A n c l) (hf : Sl w T B m d facts)
    (h3 : ∀ r ∈ l, OkR r) (h4 : ∀ a ∈ facts, OkT a) :
    Calls Tryz.prog 8 #[.slice A n c, .slice B m d] w fun e w' => RB (LightP l facts) e ∧ Below w.heap.size w w' := by
  have hn := hl.len; have hm := hf.len
  subst hn hm
  have hle := hl.le; have hle2 := hf.le
  have hfw := few_any A l.length c l 6 w S hl h3
  have hfa := fun w' (hb' : Below w.heap.size w w') => fewAtoms_any B facts.length d facts 14 w' T (hf.below hb') h4
  cases h6 : fewS l 6
  · rw [h6] at hfw
    have HFW := Lib.hid hfw
    clear hfw hfa hl hf h3 h4 h6
    go_enter Tryz.func8, Tryz.ntmps8
    go_wp2_with fail
    refine HFW.out.mono ?_
    rintro e w1 ⟨rfl, hb1⟩
    have HB := Lib.hid hb1; clear hb1
    go_wp2_with fail
    go_ret
    exact ⟨.mk false (by rfl) (by intro h; cases h), HB.out⟩
  · rw [h6] at hfw
    cases h7 : fewAs facts 14
    · rw [h7] at hfa
      have HFW := Lib.hid hfw; have HFA := Lib.hid hfa
      clear hfw hfa hl hf h3 h4 h6 h7
      go_enter Tryz.func8, Tryz.ntmps8
      go_wp2_with fail
      refine HFW.out.mono ?_
      rintro e w1 ⟨rfl, hb1⟩
      have HB := Lib.hid hb1; clear hb1
      go_wp2_with fail
      refine (HFA.out w1 HB.out).mono ?_
      rintro e w2 ⟨rfl, rfl⟩
      go_wp2_with fail
      go_ret
      exact ⟨.mk false (by rfl) (by intro h; cases h), HB.out⟩
    · rw [h7] at hfa
      obtain ⟨l6, s3⟩ := fewS_sm h6
      obtain ⟨l7, s4⟩ := fewAs_sm h7
      have hLP : ∀ q, LightP l facts q := fun q _ => ⟨h6, h7⟩
      have HLP := Lib.hid hLP; have HFW := Lib.hid hfw; have HFA := Lib.hid hfa; have HL := Lib.hid hl; have HF := Lib.hid hf; have H3 := Lib.hid s3; have H4 := Lib.hid s4
      clear hfw hfa hl hf h3 h4 h6 h7 s3 s4 hLP
      go_enter Tryz.func8, Tryz.ntmps8
      go_wp2_with fail
      refine HFW.out.mono ?_
      rintro e w1 ⟨rfl, hb1⟩
      have HB := Lib.hid hb1; clear hb1
      go_wp2_with fail
      refine (HFA.out w1 HB.out).mono ?_
      rintro e w2 ⟨rfl, rfl⟩
      clear HFW HFA
      go_wp2_with fail
      go_loopw [5] (fun i wr => ∃ k : Nat, k ≤ l.length ∧ i = .int .i64 k ∧ Below w.heap.size w wr) (fun i _ => l.length - (intOf i).toNat)
      case atStart => exact ⟨0, by omega, rfl, HB.out⟩
      case round =>
        obtain ⟨k, hk, rfl, hb⟩ := hrel
        clear HB
        by_cases hlt : k < l.length
        · obtain ⟨b, o, rfl, hbS, hbs, A2, n2, c2, A3, n3, c3, q1, q2, q3, hs1, hs2⟩ := HL.out.rul hlt
          have hsr := H3.out l[k] (List.getElem_mem hlt)
          generalize l[k] = x at *
          obtain ⟨⟨nm, args⟩, body⟩ := x
          have hbl : body.length ≤ 8 := hsr.2.1
          simp only at *
          have hn3 := hs2.len; have hn2 := hs1.len
          subst hn3 hn2
          have hle3 := hs2.le; have hle4 := hs1.le
          have HK := Lib.hid (fun (z : World) (hz : Below w.heap.size w z) => And.intro (cell_later hz q2) (cell_later hz q3))
          have HS2 := Lib.hid hs2; have HB := Lib.hid hb
          clear hs1 hs2 hb hsr q1 q2 q3 hbS hbs
          go_wp2_with fail
          go_loopw [6, 7] (fun o i wr => ∃ j : Nat, j ≤ body.length ∧ i = .int .i64 j ∧ (∃ y : Nat, y ≤ j ∧ o = .int .i64 y) ∧ Below w.heap.size w wr) (fun _ i _ => body.length - (intOf i).toNat)
          case atStart => exact ⟨0, by omega, rfl, ⟨0, by omega, rfl⟩, HB.out⟩
          case round =>
            obtain ⟨j, hj, rfl, ⟨y, hy, rfl⟩, hb⟩ := hrel
            clear HB
            obtain ⟨q2, q3⟩ := HK.out _ hb
            have hwz := hb.size
            have HB := Lib.hid hb
            by_cases hlj : j < body.length
            · obtain ⟨b', o', rfl, hbS', hbs', B1, m1, d1, g1, g2, g3, g4, ht⟩ := HS2.out.ltl hlj
              have g1 := cell_later hb g1; have g2 := cell_later hb g2; have g3 := cell_later hb g3; have g4 := cell_later hb g4
              generalize body[j] = x at *
              have hpos := posR_any x B1 m1 d1 wr
              obtain ⟨neg, op, ⟨xnm, xargs⟩⟩ := x
              simp only at *
              generalize positiveS _ = pv at *
              have HP := Lib.hid hpos
              clear hb ht hpos q2
              go_wp2_with fail
              refine HP.out.mono ?_
              rintro e w2 ⟨rfl, hb2⟩
              have HB2 := Lib.hid (HB.out.trans (hb2.mono (by omega)))
              clear hb2 HP g1 g2 g3 g4 q3
              cases pv
              · go_wp2_with fail
                go_roundw
                case rel => exact ⟨j + 1, by omega, by go_num, ⟨y, by omega, rfl⟩, HB2.out⟩
                case measure => simp [intOf]; omega
              · go_wp2_with fail
                go_roundw
                case rel => exact ⟨j + 1, by omega, by go_num, ⟨y + 1, by omega, by go_num⟩, HB2.out⟩
                case measure => simp [intOf]; omega
            · clear hb
              by_cases hy2 : 2 < y
              · go_wp2_with fail
                go_ret
                exact ⟨.mk false (by rfl) (HLP.out _), HB.out⟩
              · by_cases hy3 : 2 < args.length
                · go_wp2_with fail
                  go_ret
                  exact ⟨.mk false (by rfl) (HLP.out _), HB.out⟩
                · go_wp2_with fail
                  go_roundw
                  case rel => exact ⟨k + 1, by omega, by go_num, HB.out⟩
                  case measure => simp [intOf]; omega
        · have HB := Lib.hid hb
          have hbn := bounded_any l facts A _ c B _ d wr _ _ (HL.out.below hb) (HF.out.below hb) l6 l7 H3.out H4.out
          have HBN := Lib.hid hbn
          clear hb hbn
          go_wp2_with fail
          refine HBN.out.mono ?_
          rintro e w2 ⟨⟨q, rfl⟩, hb2⟩
          have HB2 := Lib.hid (HB.out.trans (hb2.mono HB.out.size))
          clear hb2
          go_wp2_with fail
          go_ret
          exact ⟨.mk q (by rfl) (HLP.out _), HB2.out⟩
end Go.Proofs.YtkjoaodoioicpaaGreatDoor
