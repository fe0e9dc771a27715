/- QueryLimits: the law answers true, whatever the input, and writes nothing that was there. Conditions: none beyond the given statement's (the listed package-level variables start as the program's text lays them; the card ties them, over a pruned copy of the project). -/
import Derived.Test.YtkjoaodoioicpaaGreatDoorWL02
import Derived.Test.YtkjoaodoioicpaaGreatDoorWL34
import Derived.Test.YtkjoaodoioicpaaGreatDoorWL43
import Derived.Test.YtkjoaodoioicpaaGreatDoorTie
import Derived.Test.YtkjoaodoioicpaaGreatDoorCards
import Derived.ProofKit
import Derived.OpenShut
import Derived.ShutString
import Derived.ChangeOld
import Derived.Below
import Derived.Lay
import Derived.Handy
import Derived.SevenTiedAt
set_option linter.unusedVariables false
set_option linter.unusedSimpArgs false
namespace Go.Proofs.YtkjoaodoioicpaaGreatDoor
open Go.RowKit

theorem ok_fa (i : Nat) (h : i ≤ 1100) : OkT (fa (nA (i : Int))) := by
  refine ⟨by show 1 ≤ 9223372036854775807; decide, fun a ha => ?_⟩
  obtain rfl := List.mem_singleton.1 ha
  exact ⟨by show 0 ≤ 9223372036854775807; decide, by show (-9223372036854775808 : Int) ≤ (i : Int); omega, by show (i : Int) ≤ 9223372036854775807; omega⟩
theorem ok_fb (t : Bool) (i : Nat) (h : i ≤ 1100) : OkT (fb (cB t i)) := by
  refine ⟨by show 1 ≤ 9223372036854775807; decide, fun a ha => ?_⟩
  obtain rfl := List.mem_singleton.1 ha
  unfold cB
  split
  · exact ⟨by show 1 ≤ 9223372036854775807; decide, by show (-9223372036854775808 : Int) ≤ 0; decide, by show (0 : Int) ≤ 9223372036854775807; decide⟩
  · exact ⟨by show 0 ≤ 9223372036854775807; decide, by show (-9223372036854775808 : Int) ≤ (i : Int); omega, by show (i : Int) ≤ 9223372036854775807; omega⟩
theorem ok_lim (n k : Nat) (t : Bool) (hn : n ≤ 34) (hk : k ≤ 34) : ∀ a ∈ limF n k t, OkT a := by
  intro a ha
  unfold limF at ha
  rcases List.mem_append.1 ha with ha | ha
  · obtain ⟨i, hi, rfl⟩ := List.mem_map.1 ha
    exact ok_fa i (by have := List.mem_range.1 hi; omega)
  · obtain ⟨i, hi, rfl⟩ := List.mem_map.1 ha
    exact ok_fb t i (by have := List.mem_range.1 hi; omega)
theorem ok_man (k2 : Nat) : ∀ a ∈ manF k2, OkT a := by
  intro a ha
  obtain ⟨i, -, rfl⟩ := List.mem_map.1 ha
  have := Nat.mod_lt i (show 0 < 500 by decide)
  exact ok_fa (i % 500) (by omega)
theorem enc_fin : ∀ i : Fin 26, Utf8.encode (97 + (i.val : Int)) = ⟨#[(97 + i.val).toUInt8]⟩ := by decide +kernel
theorem enc_tA (q : Nat) : Utf8.encode (97 + (q : Int) % 26) = ⟨#[(97 + q % 26).toUInt8]⟩ := by
  have h := enc_fin ⟨q % 26, Nat.mod_lt _ (by decide)⟩
  rw [← h]
  congr 1
/-- A fact with one number that lies in a block of its own. -/
theorem factO1 (s : Bs) (a : Int) (w : World) :
    Calls Tryz.prog 15 #[.string ⟨s.toArray⟩, .slice (some ⟨w.heap.size, 0, none⟩) 1 1] (w.alloc (.cells #[.int .i64 a] 3)) fun e w' => ∃ A c, e = .returned (.agg #[.string ⟨s.toArray⟩, .slice A 1 c]) ∧ Own w' (fun _ => False) (w.heap.size + 1) 46 A c [nA a] ∧ Below w.heap.size w w' := by
  refine (factO_any s [a] (some ⟨w.heap.size, 0, none⟩) 1 1 _ _ (slInts [a] (blkAt w (.cells #[.int .i64 a] 3) rfl) (by simp)) (by simp)).mono ?_
  rintro e w' ⟨A, c, rfl, hs, hb⟩
  exact ⟨A, c, rfl, hs.base (by simp), boxed.trans (hb.mono (by simp))⟩

set_option maxRecDepth 100000 in
set_option maxHeartbeats 16000000 in
theorem queryLimits_walk (w : World) (n0 : Int) (hn0 : 0 ≤ n0) (hn1 : n0 ≤ 255) (k0 : Int) (hk0 : 0 ≤ k0) (hk1 : k0 ≤ 255) (t : Bool) (hL : LD w) :
    Calls Tryz.prog 5 #[.int .u8 n0, .int .u8 k0, .bool t] w fun e w' => e = .returned (.bool true) ∧ Below w.heap.size w w' := by
  obtain ⟨n, rfl⟩ : ∃ n : Nat, n0 = (n : Int) := ⟨n0.toNat, by omega⟩
  obtain ⟨k, rfl⟩ : ∃ k : Nat, k0 = (k : Int) := ⟨k0.toNat, by omega⟩
  have HL := Lib.hid hL
  clear hL
  go_enter Tryz.func5, Tryz.ntmps5
  go_wp2_with fail
  refine (awake54_any _ HL.out).mono ?_
  rintro e w3 ⟨rfl, b3⟩
  have B3 := Lib.hid b3
  have hz3 := b3.size
  clear b3
  by_cases hn : n ≤ 34
  · by_cases hk : k ≤ 34
    · have hni : ¬ (34 : Int) < (n : Int) := by omega
      have hki : ¬ (34 : Int) < (k : Int) := by omega
      have hlaw := lim_law n k t hn hk
      have HOK := Lib.hid (ok_lim n k t hn hk)
      have HLAW := Lib.hid hlaw
      clear hlaw
      go_wp2_with fail
      go_loopw [7, 33] (fun o i wr => ∃ j : Nat, j ≤ n ∧ i = .int .i64 j ∧ ∃ A c, o = .slice A j c ∧ Own wr (fun x => w3.heap.size ≤ x) w3.heap.size 31 A c ((List.range j).map fun i : Nat => fa (nA i)) ∧ Below w3.heap.size w3 wr) (fun _ i _ => n - (intOf i).toNat)
      case atStart => exact ⟨0, by omega, rfl, none, 0, rfl, Own.nil _ _ _ _, Below.refl _ _⟩
      case round =>
        obtain ⟨j, hj, rfl, A1, c1, rfl, hown, hb⟩ := hrel
        by_cases hlt : j < n
        · have hlen : ((List.range j).map fun i : Nat => fa (nA i)).length = j := by simp
          have hwz := hb.size
          have HOW := Lib.hid hown; have HB := Lib.hid hb; have HLEN := Lib.hid hlen
          clear hown hb hlen
          go_wp2_with fail
          refine (factO1 [97] j wr).mono ?_
          rintro e w5 ⟨A5, k5, rfl, o5, b5⟩
          have hb5 := HB.out.trans (b5.mono hwz)
          have hz5 := b5.size
          have hs5 := o5.sl (by decide)
          have HS5 := Lib.hid ((hs5.wide (S' := fun x => w3.heap.size ≤ x ∧ A1.map Addr.block ≠ some x) (fun x _ hx => hx.elim False.elim (fun e => ⟨by have := (o5.lt x e).1; omega, fun e2 => by have := (HOW.out.lt x e2).2; have := (o5.lt x e).1; omega⟩)) (by decide)).cast (show [nA (j : Int)].length = 1 from rfl))
          have HO5 := Lib.hid (HOW.out.below b5); have HB5 := Lib.hid hb5
          clear o5 b5 hb5 hs5 HOW HB
          go_wp2_with (at_builtin; go_loud (refine wpList_app1 (e := 31) (T := fun x => w3.heap.size ≤ x) (base := w3.heap.size) (xs := (List.range j).map fun i : Nat => fa (nA i)) rfl _ _ eltAtm rfl (by decide) rfl rfl HLEN.out.symm (HO5.out.alloc _) rfl [.string ⟨#[97]⟩, .slice A5 1 k5] (fa (nA (j : Int))) (blkAt _ _ rfl) rfl ⟨rfl, A5, 1, k5, rfl, HS5.out.alloc _⟩ (by rw [HLEN.out]; omega) (by rw [HLEN.out]; omega) (by simp; omega) ?_); intro A6 k6 w6 hown6 hg6 hat6)
          have hb6 : Below w3.heap.size w3 w6 := (HB5.out.alloc (by omega) _).grown hg6 (by simp; omega) (fun x hx => (HO5.out.lt x hx).1)
          have HO6 := Lib.hid (show Own w6 (fun x => w3.heap.size ≤ x) w3.heap.size 31 A6 k6 ((List.range (j + 1)).map fun i : Nat => fa (nA i)) by rw [List.range_succ, List.map_append]; exact hown6)
          have HB6 := Lib.hid hb6
          clear hown6 hg6 hat6 hb6 HO5 HB5 HS5
          go_wp2_with fail
          go_roundw
          case rel => exact ⟨j + 1, by omega, by go_num, A6, k6, by simp, HO6.out, HB6.out⟩
          case measure => simp [intOf]; omega
        · have hje : j = n := by omega
          subst hje
          have HOW := Lib.hid (show Own wr (fun x => w3.heap.size ≤ x) w3.heap.size 31 A1 c1 (limF j 0 t) from by unfold limF; simpa using hown)
          have HB := Lib.hid hb
          clear hown hb
          go_wp2_with fail
          go_loopw [7, 45] (fun o i wr => ∃ q : Nat, q ≤ k ∧ i = .int .i64 q ∧ ∃ A c, o = .slice A (j + q) c ∧ Own wr (fun x => w3.heap.size ≤ x) w3.heap.size 31 A c (limF j q t) ∧ Below w3.heap.size w3 wr) (fun _ i _ => k - (intOf i).toNat)
          case atStart => exact ⟨0, by omega, rfl, A1, c1, rfl, HOW.out, HB.out⟩
          case round =>
            clear HOW HB
            obtain ⟨q, hq, rfl, A1, ca, rfl, hown, hb⟩ := hrel
            by_cases hlq : q < k
            · have hlen : (limF j q t).length = j + q := by unfold limF; simp
              have hstep : limF j (q + 1) t = limF j q t ++ [fb (cB t q)] := by unfold limF; rw [List.range_succ, List.map_append, List.append_assoc]; rfl
              have hwz := hb.size
              have HOW := Lib.hid (hown.wide (T' := fun x => w3.heap.size ≤ x ∧ x < wr.heap.size) (fun x hx h => ⟨h, hx⟩)); have HB := Lib.hid hb; have HLEN := Lib.hid hlen; have HST := Lib.hid hstep
              clear hown hb hlen hstep
              go_wp2_with fail
              refine (factO1 [98] q wr).mono ?_
              rintro e w5 ⟨A5, k5, rfl, o5, b5⟩
              have hb5 := HB.out.trans (b5.mono hwz)
              have hz5 := b5.size
              have HO5 := Lib.hid o5; have HOL := Lib.hid (HOW.out.below b5); have HB5 := Lib.hid hb5
              have hne5 : ∀ x, A5.map Addr.block = some x → wr.heap.size + 1 ≤ x ∧ x < w5.heap.size := fun x e => o5.lt x e
              have hne1 : ∀ x, A1.map Addr.block = some x → x < wr.heap.size ∧ w3.heap.size ≤ x := fun x e => ⟨(HOW.out.lt x e).2, (HOW.out.lt x e).1⟩
              have HN5 := Lib.hid hne5; have HN1 := Lib.hid hne1
              clear o5 b5 hb5 HOW HB hne5 hne1
              cases t with
              | false =>
                have HOX := Lib.hid ((HOL.out.wide (T' := fun x => w3.heap.size ≤ x) (fun x _ h => h.1)).alloc (.cells #[.string ⟨#[98]⟩, .slice A5 1 k5] 31))
                have HSX := Lib.hid ((((HO5.out.sl (by decide)).wide (S' := fun x => w3.heap.size ≤ x ∧ A1.map Addr.block ≠ some x) (fun x _ hx => hx.elim False.elim (fun e => ⟨by have := (HN5.out x e).1; omega, fun e2 => by have := (HN1.out x e2).1; have := (HN5.out x e).1; omega⟩)) (by decide)).cast (show [nA (q : Int)].length = 1 from rfl)).alloc (.cells #[.string ⟨#[98]⟩, .slice A5 1 k5] 31))
                have HBX := Lib.hid (HB5.out.alloc (by omega) (.cells #[.string ⟨#[98]⟩, .slice A5 1 k5] 31))
                clear HO5 HOL HB5
                go_wp2_with (at_builtin; go_loud (refine wpList_app1 (e := 31) (T := fun x => w3.heap.size ≤ x) (base := w3.heap.size) (xs := limF j q false) rfl _ _ eltAtm rfl (by decide) rfl rfl HLEN.out.symm (HOX.out.alloc _) rfl [.string ⟨#[98]⟩, .slice A5 1 k5] (fb (cB false q)) (blkAt _ _ (by simp [World.setCell])) rfl ⟨rfl, A5, 1, k5, rfl, HSX.out.alloc _⟩ (by rw [HLEN.out]; omega) (by rw [HLEN.out]; omega) (by simp; omega) ?_); intro A6 k6 w6 hown6 hg6 hat6)
                have hb6 : Below w3.heap.size w3 w6 := (HBX.out.alloc (HBX.out.size) _).grown hg6 (by have := HBX.out.size; simp at this ⊢; omega) (fun x hx => (HOX.out.lt x hx).1)
                have HO6 := Lib.hid (show Own w6 (fun x => w3.heap.size ≤ x) w3.heap.size 31 A6 k6 (limF j (q + 1) false) by rw [HST.out]; exact hown6)
                have HB6 := Lib.hid hb6
                clear hown6 hg6 hat6 hb6 HOX HBX HSX
                go_wp2_with fail
                go_roundw
                case rel => exact ⟨q + 1, by omega, by go_num, A6, k6, by simp [Nat.add_assoc], HO6.out, HB6.out⟩
                case measure => simp [intOf]; omega
              | true =>
                obtain ⟨g, cs, rfl, hgb, hgs⟩ := HO5.out.blk (show 0 < 1 by decide)
                have hgs : 3 ≤ cs.size := hgs
                have hk5 := (HO5.out.cap)
                have hgl : g < w5.heap.size := (Array.getElem?_eq_some_iff.1 hgb).1
                have c0 := (cell_blk hgb 0).trans (Array.getElem?_eq_getElem (by omega))
                have c1 := (cell_blk hgb 1).trans (Array.getElem?_eq_getElem (by omega))
                have c2 := (cell_blk hgb 2).trans (Array.getElem?_eq_getElem (by omega))
                have z0 := frz_blk hgb 0
                have z1 := frz_blk hgb 1
                have z2 := frz_blk hgb 2
                have henc := enc_tA q
                have htA : cB true q = ⟨2, [(97 + q % 26).toUInt8], 0⟩ := rfl
                generalize (97 + q % 26).toUInt8 = ch at henc htA
                have hgr := (HN5.out g rfl).1
                have hv : ∀ V : World, V = ((w5.setCell ⟨g, 0, none⟩ (.int .i64 2)).setCell ⟨g, 1, none⟩ (.string ⟨#[ch]⟩)).setCell ⟨g, 2, none⟩ (.int .i64 0) → Below w3.heap.size w3 V ∧ Own V (fun x => w3.heap.size ≤ x) w3.heap.size 31 A1 ca (limF j q true) ∧ Sl V (fun x => w3.heap.size ≤ x ∧ A1.map Addr.block ≠ some x) (some ⟨g, 0, none⟩) 1 k5 [cB true q] := by
                  rintro V rfl
                  have e0 := Blk.set _ hgb 0 (.int .i64 2)
                  have e1 := Blk.set _ e0 1 (.string ⟨#[ch]⟩)
                  have e2 := Blk.set _ e1 2 (.int .i64 0)
                  have hb3 := ((HB5.out.setCell (p := ⟨g, 0, none⟩) (by show w3.heap.size ≤ g; omega) (.int .i64 2)).setCell (p := ⟨g, 1, none⟩) (by show w3.heap.size ≤ g; omega) (.string ⟨#[ch]⟩)).setCell (p := ⟨g, 2, none⟩) (by show w3.heap.size ≤ g; omega) (.int .i64 0)
                  refine ⟨hb3, (HOL.out.keep (fun x hx hT => ?_)).wide (fun x _ h => h.1), ⟨rfl, hk5.1, hk5.2, fun i hi => ?_⟩⟩
                  · have hne : x ≠ g := by
                      rcases hT with hT | hT
                      · have := hT.2; omega
                      · have := (HN1.out x hT).1; omega
                    rw [set_other _ _ _ _ _ hne, set_other _ _ _ _ _ hne, set_other _ _ _ _ _ hne]
                  · have hi : i < 1 := hi
                    obtain rfl : i = 0 := by omega
                    refine ⟨_, rfl, ⟨by show w3.heap.size ≤ g; omega, fun e => by have := (HN1.out g e).1; omega⟩, fun m => (#[.int .i64 2, .string ⟨#[ch]⟩, .int .i64 0] : Array Value).getD m undef, fun m hm => ?_, by show GoT.rd (α := Arg) _ _ _ (cB true q); rw [htA]; exact ⟨rfl, rfl, rfl⟩⟩
                    have hm : m < 3 := hm
                    rw [add_plain, cell_blk e2]
                    match m, hm with
                    | 0, _ => simp [Array.getElem?_setIfInBounds, show 0 < cs.size by omega, show 1 < cs.size by omega, show 2 < cs.size by omega]
                    | 1, _ => simp [Array.getElem?_setIfInBounds, show 0 < cs.size by omega, show 1 < cs.size by omega, show 2 < cs.size by omega]
                    | 2, _ => simp [Array.getElem?_setIfInBounds, show 0 < cs.size by omega, show 1 < cs.size by omega, show 2 < cs.size by omega]
                have hvv := hv _ rfl
                have HV := Lib.hid hvv
                clear hgb hv hvv HO5 HOL HB5
                go_upto_region 15 with fail
                have HOX := Lib.hid (HV.out.2.1.alloc (.cells #[.string ⟨#[98]⟩, .slice (some ⟨g, 0, none⟩) 1 k5] 31))
                have HSX := Lib.hid (HV.out.2.2.alloc (.cells #[.string ⟨#[98]⟩, .slice (some ⟨g, 0, none⟩) 1 k5] 31))
                have HBX := Lib.hid (HV.out.1.alloc HV.out.1.size (.cells #[.string ⟨#[98]⟩, .slice (some ⟨g, 0, none⟩) 1 k5] 31))
                clear HV
                go_wp2_with (at_builtin; go_loud (refine wpList_app1 (e := 31) (T := fun x => w3.heap.size ≤ x) (base := w3.heap.size) (xs := limF j q true) rfl _ _ eltAtm rfl (by decide) rfl rfl HLEN.out.symm (HOX.out.alloc _) rfl [.string ⟨#[98]⟩, .slice (some ⟨g, 0, none⟩) 1 k5] (fb (cB true q)) (blkAt _ _ (by simp [World.setCell])) rfl ⟨rfl, (some ⟨g, 0, none⟩), 1, k5, rfl, HSX.out.alloc _⟩ (by rw [HLEN.out]; omega) (by rw [HLEN.out]; omega) (by simp; omega) ?_); intro A6 k6 w6 hown6 hg6 hat6)
                have hb6 : Below w3.heap.size w3 w6 := (HBX.out.alloc (HBX.out.size) _).grown hg6 (by have := HBX.out.size; simp at this ⊢; omega) (fun x hx => (HOX.out.lt x hx).1)
                have HO6 := Lib.hid (show Own w6 (fun x => w3.heap.size ≤ x) w3.heap.size 31 A6 k6 (limF j (q + 1) true) by rw [HST.out]; exact hown6)
                have HB6 := Lib.hid hb6
                clear hown6 hg6 hat6 hb6 HOX HBX HSX
                go_wp2_with fail
                go_roundw
                case rel => exact ⟨q + 1, by omega, by go_num, A6, k6, by simp [Nat.add_assoc], HO6.out, HB6.out⟩
                case measure => simp [intOf]; omega
            · obtain rfl : q = k := by omega
              have BW := Lib.hid (B3.out.trans (hb.mono B3.out.size))
              have hln : (limF j q t).length = j + q := by unfold limF; simp
              have SF := Lib.hid (((hown.sl (by decide)).wide (S' := fun x => x < wr.heap.size) (fun x hx _ => hx) (by decide)).cast hln)
              have hp := rParse_any txPair wr (by decide)
              rw [pair_parse] at hp
              have HPA := Lib.hid hp
              have he := fun A c B m d w S T hl hf ho hL => EvalQ_any A 1 c [pairR] B m d (limF j q t) w S T hl hf ho HOK.out hL
              have hlaw := HLAW.out
              generalize evalS [pairR] (limF j q t) = R at *
              obtain ⟨m1, i1, e1⟩ := R
              have HE := Lib.hid he; have HLN := Lib.hid hln; have HLW := Lib.hid hlaw
              clear hown hb hp he hln HLAW hlaw
              go_wp2_with fail
              refine (show Calls Tryz.prog 16 _ wr (PaPost wr ([pairR], 0, 0)) from HPA.out).mono ?_
              rintro e w6 ⟨A6, k6, rfl, s6, b6, o6⟩
              have S6 := Lib.hid s6; have B6 := Lib.hid (BW.out.trans (b6.mono BW.out.size)); have SF6 := Lib.hid (SF.out.below b6); have O6 := Lib.hid o6
              clear s6 b6 o6 HPA SF
              go_wp2_with fail
              refine (ca54_any A1 _ ca (limF j q t) w6 _ SF6.out (by rw [HLN.out]; omega)).mono ?_
              rintro e w7 ⟨A7, k7, rfl, o7, b7⟩
              have S7 := Lib.hid (o7.sl (by decide)); have B7 := Lib.hid (B6.out.trans (b7.mono B6.out.size)); have S67 := Lib.hid (S6.out.below b7)
              clear o7 b7 S6 SF6 B6
              go_wp2_with fail
              refine (HE.out A6 k6 A7 _ k7 w7 _ _ S67.out S7.out O6.out (HL.out.below B7.out)).mono ?_
              rintro e w8 ⟨A8, n8, k8, rfl, s8, b8⟩
              have hn8 := s8.len
              subst hn8
              have hle8 := s8.le
              have B8 := Lib.hid (B7.out.trans (b8.mono B7.out.size))
              clear s8 b8 S67 S7 HE O6 B7
              simp only at hle8 ⊢
              cases t with
              | false =>
                have hlb : limB q false = q := rfl
                have hlw := HLW.out
                rw [hlb] at hlw
                clear HLW hlb
                skip
                have hb34 : q ≤ 34 := by omega
                have hmul : (j : Int) * (q : Int) = ((j * q : Nat) : Int) := (Int.natCast_mul j q).symm
                have hpl : j * q ≤ 1156 := Nat.le_trans (Nat.mul_le_mul hn hb34) (by decide)
                generalize hpp : j * q = pp at *
                clear hpp
                have hwp : IntKind.i64.wrap (pp : Int) = (pp : Int) := by simp [IntKind.wrap, IntKind.signed, IntKind.bits]; omega
                by_cases hbig : 1024 < pp
                · rw [if_pos hbig] at hlw
                  injection hlw with em hlw
                  injection hlw with ei ee
                  subst em ei ee
                  have hbi : (1024 : Int) < (pp : Int) := by omega
                  go_wp2_with fail
                  exact bodyPost_ret (v := .bool true) (by simp [results, Tryz.results5, go_sem]) rfl ⟨rfl, B8.out⟩
                · rw [if_neg hbig] at hlw
                  obtain ⟨hlw, hml⟩ := hlw
                  injection hlw with ei ee
                  subst ei ee
                  have hbi : ¬ (1024 : Int) < (pp : Int) := by omega
                  have hmi : (m1.length : Int) = (j : Int) + (q : Int) + (pp : Int) := by omega
                  clear hml
                  generalize m1.length = ml at *
                  have hmi2 : ((ml : Int) != (j : Int) + (q : Int) + (pp : Int)) = false := by simp [hmi]
                  have HMI := Lib.hid hmi
                  clear hmi
                  obtain ⟨k2, hk2⟩ : ∃ k2, k2 = q % 2 := ⟨_, rfl⟩
                  have hk2b : k2 ≤ 1 := by omega
                  have hr1 : (q : Int) % 2 = (k2 : Int) := by omega
                  have hr2 : Int.tmod (q : Int) 2 = (k2 : Int) := by rw [hk2, Int.ofNat_tmod]; rfl
                  clear hk2
                  have BW8 := Lib.hid B8.out
                  go_wp2_with fail
                  go_loopw [18, 120] (fun o i wr => ∃ x : Nat, x ≤ 1024 + k2 ∧ i = .int .i64 x ∧ ∃ A c, o = .slice A x c ∧ Own wr (fun y => w8.heap.size ≤ y) w8.heap.size 31 A c ((List.range x).map fun i : Nat => fa (nA ((i % 500 : Nat) : Int))) ∧ Below w8.heap.size w8 wr) (fun _ i _ => 1024 + k2 - (intOf i).toNat)
                  case atStart => exact ⟨0, by omega, rfl, none, 0, rfl, Own.nil _ _ _ _, Below.refl _ _⟩
                  case round =>
                    obtain ⟨x, hx, rfl, A9, c9, rfl, hown, hb⟩ := hrel
                    by_cases hlx : x < 1024 + k2
                    · have hlen : ((List.range x).map fun i : Nat => fa (nA ((i % 500 : Nat) : Int))).length = x := by simp
                      have hwz := hb.size
                      have HOW := Lib.hid hown; have HB := Lib.hid hb; have HLEN := Lib.hid hlen
                      have hlxi : (x : Int) < 1024 + (k2 : Int) := by omega
                      have HX5 := Lib.hid (show (x : Int) % 500 = ((x % 500 : Nat) : Int) by omega)
                      clear hown hb hlen
                      go_wp2_with fail
                      refine (factO1 [97] _ wr).mono ?_
                      rintro e w9 ⟨A5, k5, rfl, o5, b5⟩
                      rw [HX5.out] at o5
                      have hb5 := HB.out.trans (b5.mono hwz)
                      have hz5 := b5.size
                      have HS5 := Lib.hid (((o5.sl (by decide)).wide (S' := fun y => w8.heap.size ≤ y ∧ A9.map Addr.block ≠ some y) (fun y _ hx => hx.elim False.elim (fun e => ⟨by have := (o5.lt y e).1; omega, fun e2 => by have := (HOW.out.lt y e2).2; have := (o5.lt y e).1; omega⟩)) (by decide)).cast (show [nA ((x % 500 : Nat) : Int)].length = 1 from rfl))
                      have HO5 := Lib.hid (HOW.out.below b5); have HB5 := Lib.hid hb5
                      clear o5 b5 hb5 HOW HB
                      go_wp2_with (at_builtin; go_loud (refine wpList_app1 (e := 31) (T := fun y => w8.heap.size ≤ y) (base := w8.heap.size) (xs := (List.range x).map fun i : Nat => fa (nA ((i % 500 : Nat) : Int))) rfl _ _ eltAtm rfl (by decide) rfl rfl HLEN.out.symm (HO5.out.alloc _) rfl [.string ⟨#[97]⟩, .slice A5 1 k5] (fa (nA ((x % 500 : Nat) : Int))) (blkAt _ _ rfl) rfl ⟨rfl, A5, 1, k5, rfl, HS5.out.alloc _⟩ (by rw [HLEN.out]; omega) (by rw [HLEN.out]; omega) (by simp; omega) ?_); intro A10 k10 w10 hown10 hg10 hat10)
                      have hb10 : Below w8.heap.size w8 w10 := (HB5.out.alloc (by omega) _).grown hg10 (by simp; omega) (fun y hx => (HO5.out.lt y hx).1)
                      have HO10 := Lib.hid (show Own w10 (fun y => w8.heap.size ≤ y) w8.heap.size 31 A10 k10 ((List.range (x + 1)).map fun i : Nat => fa (nA ((i % 500 : Nat) : Int))) by rw [List.range_succ, List.map_append]; exact hown10)
                      have HB10 := Lib.hid hb10
                      clear hown10 hg10 hat10 hb10 HO5 HB5 HS5
                      go_wp2_with fail
                      go_roundw
                      case rel => exact ⟨x + 1, by omega, by go_num, A10, k10, by simp, HO10.out, HB10.out⟩
                      case measure => simp [intOf]; omega
                    · obtain rfl : x = 1024 + k2 := by omega
                      have hlen : (manF k2).length = 1024 + k2 := by unfold manF; simp
                      have SM := Lib.hid (((show Own wr (fun y => w8.heap.size ≤ y) w8.heap.size 31 A9 c9 (manF k2) from hown).sl (by decide)).cast hlen)
                      have BWW := Lib.hid (BW8.out.trans (hb.mono BW8.out.size))
                      have he := EvalQ_any none 0 0 [] A9 (1024 + k2) c9 (manF k2) wr _ _ (Sl.nil _ (fun _ => True) _ _ (by decide)) SM.out (fun r hr => by cases hr) (ok_man k2) (HL.out.below BWW.out)
                      have hman := man_law k2
                      generalize evalS [] (manF k2) = R at *
                      obtain ⟨m2, i2, e2⟩ := R
                      have hi2 : i2 = -1 := congrArg Prod.fst hman
                      have he2 : e2 = if 0 < k2 then 10 else 0 := congrArg Prod.snd hman
                      subst hi2
                      have HE := Lib.hid he
                      have hlxi : ¬ ((1024 + k2 : Nat) : Int) < 1024 + (k2 : Int) := by omega
                      clear hown hb hlen he hman
                      go_wp2_with fail
                      refine HE.out.mono ?_
                      rintro e wz ⟨Az, nz, kz, rfl, sz, bz⟩
                      have BZ := Lib.hid (BWW.out.trans (bz.mono BWW.out.size))
                      clear sz bz HE SM
                      simp only
                      by_cases hk0 : k2 = 0
                      · subst hk0
                        rw [if_neg (by omega)] at he2
                        subst he2
                        go_wp2_with fail
                        exact bodyPost_ret (v := .bool true) (by simp [results, Tryz.results5, go_sem]) rfl ⟨rfl, BZ.out⟩
                      · obtain rfl : k2 = 1 := by omega
                        rw [if_pos (by omega)] at he2
                        subst he2
                        go_wp2_with fail
                        exact bodyPost_ret (v := .bool true) (by simp [results, Tryz.results5, go_sem]) rfl ⟨rfl, BZ.out⟩
              | true =>
                have hlb : limB q true = (min q 26) := rfl
                have hlw := HLW.out
                rw [hlb] at hlw
                clear HLW hlb
                obtain ⟨bb, hbb⟩ : ∃ bb, bb = min q 26 := ⟨_, rfl⟩; rw [← hbb] at hlw; have hmin : (min (q : Int) 26) = (bb : Int) := (by omega); have hbq : bb ≤ q := (by omega); clear hbb
                have hb34 : bb ≤ 34 := by omega
                have hmul : (j : Int) * (bb : Int) = ((j * bb : Nat) : Int) := (Int.natCast_mul j bb).symm
                have hpl : j * bb ≤ 1156 := Nat.le_trans (Nat.mul_le_mul hn hb34) (by decide)
                generalize hpp : j * bb = pp at *
                clear hpp
                have hwp : IntKind.i64.wrap (pp : Int) = (pp : Int) := by simp [IntKind.wrap, IntKind.signed, IntKind.bits]; omega
                by_cases hbig : 1024 < pp
                · rw [if_pos hbig] at hlw
                  injection hlw with em hlw
                  injection hlw with ei ee
                  subst em ei ee
                  have hbi : (1024 : Int) < (pp : Int) := by omega
                  go_wp2_with fail
                  exact bodyPost_ret (v := .bool true) (by simp [results, Tryz.results5, go_sem]) rfl ⟨rfl, B8.out⟩
                · rw [if_neg hbig] at hlw
                  obtain ⟨hlw, hml⟩ := hlw
                  injection hlw with ei ee
                  subst ei ee
                  have hbi : ¬ (1024 : Int) < (pp : Int) := by omega
                  have hmi : (m1.length : Int) = (j : Int) + (bb : Int) + (pp : Int) := by omega
                  clear hml
                  generalize m1.length = ml at *
                  have hmi2 : ((ml : Int) != (j : Int) + (bb : Int) + (pp : Int)) = false := by simp [hmi]
                  have HMI := Lib.hid hmi
                  clear hmi
                  obtain ⟨k2, hk2⟩ : ∃ k2, k2 = q % 2 := ⟨_, rfl⟩
                  have hk2b : k2 ≤ 1 := by omega
                  have hr1 : (q : Int) % 2 = (k2 : Int) := by omega
                  have hr2 : Int.tmod (q : Int) 2 = (k2 : Int) := by rw [hk2, Int.ofNat_tmod]; rfl
                  clear hk2
                  have BW8 := Lib.hid B8.out
                  go_wp2_with fail
                  go_loopw [18, 120] (fun o i wr => ∃ x : Nat, x ≤ 1024 + k2 ∧ i = .int .i64 x ∧ ∃ A c, o = .slice A x c ∧ Own wr (fun y => w8.heap.size ≤ y) w8.heap.size 31 A c ((List.range x).map fun i : Nat => fa (nA ((i % 500 : Nat) : Int))) ∧ Below w8.heap.size w8 wr) (fun _ i _ => 1024 + k2 - (intOf i).toNat)
                  case atStart => exact ⟨0, by omega, rfl, none, 0, rfl, Own.nil _ _ _ _, Below.refl _ _⟩
                  case round =>
                    obtain ⟨x, hx, rfl, A9, c9, rfl, hown, hb⟩ := hrel
                    by_cases hlx : x < 1024 + k2
                    · have hlen : ((List.range x).map fun i : Nat => fa (nA ((i % 500 : Nat) : Int))).length = x := by simp
                      have hwz := hb.size
                      have HOW := Lib.hid hown; have HB := Lib.hid hb; have HLEN := Lib.hid hlen
                      have hlxi : (x : Int) < 1024 + (k2 : Int) := by omega
                      have HX5 := Lib.hid (show (x : Int) % 500 = ((x % 500 : Nat) : Int) by omega)
                      clear hown hb hlen
                      go_wp2_with fail
                      refine (factO1 [97] _ wr).mono ?_
                      rintro e w9 ⟨A5, k5, rfl, o5, b5⟩
                      rw [HX5.out] at o5
                      have hb5 := HB.out.trans (b5.mono hwz)
                      have hz5 := b5.size
                      have HS5 := Lib.hid (((o5.sl (by decide)).wide (S' := fun y => w8.heap.size ≤ y ∧ A9.map Addr.block ≠ some y) (fun y _ hx => hx.elim False.elim (fun e => ⟨by have := (o5.lt y e).1; omega, fun e2 => by have := (HOW.out.lt y e2).2; have := (o5.lt y e).1; omega⟩)) (by decide)).cast (show [nA ((x % 500 : Nat) : Int)].length = 1 from rfl))
                      have HO5 := Lib.hid (HOW.out.below b5); have HB5 := Lib.hid hb5
                      clear o5 b5 hb5 HOW HB
                      go_wp2_with (at_builtin; go_loud (refine wpList_app1 (e := 31) (T := fun y => w8.heap.size ≤ y) (base := w8.heap.size) (xs := (List.range x).map fun i : Nat => fa (nA ((i % 500 : Nat) : Int))) rfl _ _ eltAtm rfl (by decide) rfl rfl HLEN.out.symm (HO5.out.alloc _) rfl [.string ⟨#[97]⟩, .slice A5 1 k5] (fa (nA ((x % 500 : Nat) : Int))) (blkAt _ _ rfl) rfl ⟨rfl, A5, 1, k5, rfl, HS5.out.alloc _⟩ (by rw [HLEN.out]; omega) (by rw [HLEN.out]; omega) (by simp; omega) ?_); intro A10 k10 w10 hown10 hg10 hat10)
                      have hb10 : Below w8.heap.size w8 w10 := (HB5.out.alloc (by omega) _).grown hg10 (by simp; omega) (fun y hx => (HO5.out.lt y hx).1)
                      have HO10 := Lib.hid (show Own w10 (fun y => w8.heap.size ≤ y) w8.heap.size 31 A10 k10 ((List.range (x + 1)).map fun i : Nat => fa (nA ((i % 500 : Nat) : Int))) by rw [List.range_succ, List.map_append]; exact hown10)
                      have HB10 := Lib.hid hb10
                      clear hown10 hg10 hat10 hb10 HO5 HB5 HS5
                      go_wp2_with fail
                      go_roundw
                      case rel => exact ⟨x + 1, by omega, by go_num, A10, k10, by simp, HO10.out, HB10.out⟩
                      case measure => simp [intOf]; omega
                    · obtain rfl : x = 1024 + k2 := by omega
                      have hlen : (manF k2).length = 1024 + k2 := by unfold manF; simp
                      have SM := Lib.hid (((show Own wr (fun y => w8.heap.size ≤ y) w8.heap.size 31 A9 c9 (manF k2) from hown).sl (by decide)).cast hlen)
                      have BWW := Lib.hid (BW8.out.trans (hb.mono BW8.out.size))
                      have he := EvalQ_any none 0 0 [] A9 (1024 + k2) c9 (manF k2) wr _ _ (Sl.nil _ (fun _ => True) _ _ (by decide)) SM.out (fun r hr => by cases hr) (ok_man k2) (HL.out.below BWW.out)
                      have hman := man_law k2
                      generalize evalS [] (manF k2) = R at *
                      obtain ⟨m2, i2, e2⟩ := R
                      have hi2 : i2 = -1 := congrArg Prod.fst hman
                      have he2 : e2 = if 0 < k2 then 10 else 0 := congrArg Prod.snd hman
                      subst hi2
                      have HE := Lib.hid he
                      have hlxi : ¬ ((1024 + k2 : Nat) : Int) < 1024 + (k2 : Int) := by omega
                      clear hown hb hlen he hman
                      go_wp2_with fail
                      refine HE.out.mono ?_
                      rintro e wz ⟨Az, nz, kz, rfl, sz, bz⟩
                      have BZ := Lib.hid (BWW.out.trans (bz.mono BWW.out.size))
                      clear sz bz HE SM
                      simp only
                      by_cases hk0 : k2 = 0
                      · subst hk0
                        rw [if_neg (by omega)] at he2
                        subst he2
                        go_wp2_with fail
                        exact bodyPost_ret (v := .bool true) (by simp [results, Tryz.results5, go_sem]) rfl ⟨rfl, BZ.out⟩
                      · obtain rfl : k2 = 1 := by omega
                        rw [if_pos (by omega)] at he2
                        subst he2
                        go_wp2_with fail
                        exact bodyPost_ret (v := .bool true) (by simp [results, Tryz.results5, go_sem]) rfl ⟨rfl, BZ.out⟩
    · have hki : (34 : Int) < (k : Int) := by omega
      have hni : ¬ (34 : Int) < (n : Int) := by omega
      go_wp2_with fail
      refine (awake54_any _ (HL.out.below B3.out)).mono ?_
      rintro e w5 ⟨rfl, b5⟩
      have B5 := Lib.hid (B3.out.trans (b5.mono B3.out.size)); clear b5
      go_wp2_with fail
      exact bodyPost_ret (v := .bool true) (by simp [results, Tryz.results5, go_sem]) rfl ⟨rfl, B5.out⟩
  · have hni : (34 : Int) < (n : Int) := by omega
    go_wp2_with fail
    refine (awake54_any _ (HL.out.below B3.out)).mono ?_
    rintro e w5 ⟨rfl, b5⟩
    have B5 := Lib.hid (B3.out.trans (b5.mono B3.out.size)); clear b5
    go_wp2_with fail
    exact bodyPost_ret (v := .bool true) (by simp [results, Tryz.results5, go_sem]) rfl ⟨rfl, B5.out⟩
end Go.Proofs.YtkjoaodoioicpaaGreatDoor
namespace Go.Proofs.YtkjoaodoioicpaaGreatDoor.queryLimits
open Go.ChangeShapes Go.WideShapes Go.ChangeAt Go.RowKit
open Go.ChangeMaps (open_string shut_string)

theorem own : ownKnob Tryz.prog.godebug = none := by kernel_rfl
theorem laidOut : laidOutB Tryz.prog = true := by kernel_rfl

set_option maxRecDepth 100000 in
theorem lifted (os : Os) (started : os.Started) (H : Type) (enc : TypeId × Value → H) :
    ReturnsInHanded {} Tryz.checked os 5 .any (fun w args => (Rows.queryLimitsSpec.pre enc Tryz.prog Tryz.f5 [] false w args ∧ laidMetH Tryz.prog laidL w) ∧ sizedMet enc Tryz.prog Tryz.f5 (OpenSpec.ofChange Rows.queryLimitsSpec) false w args)
      (Rows.queryLimitsSpec.post enc Tryz.prog Tryz.f5 false true false false) := by
  refine handed (C := Tryz.checked) (X := fun w _ => laidMetH Tryz.prog laidL w) (fun _ _ _ hh h => h.of_heap hh) own started (by kernel_rfl) Tryz.func5
    (ChangeSpec.witness_shaped (enc := enc) (C := Tryz.checked) (os := os) (X := fun w _ => laidMetH Tryz.prog laidL w) false (World.laidAll Tryz.prog os laidL) #[.int .u8 0, .int .u8 0, .bool false] 8 (World.laidAll_os _ _ _)
      (World.shaped_of_ZipB (by kernel_rfl) (by kernel_rfl)) (by kernel_rfl) (by kernel_rfl) (by kernel_rfl)
      (by rw [MakeChecks.laidMetH_plain _ _ _ (by kernel_rfl)]; exact laidMet_laidAll _ (by kernel_rfl) (by kernel_rfl))) ?_
  intro W base args ds gs before hval0 hW hlaid hshape
  have hLD := ld_of hlaid hshape
  have hval : ∀ (j : Nat) t v, Tryz.f5.params[j]? = some t → args[j]? = some v → Value.okWide Tryz.prog W .any base t v := hval0
  have hW' := hW
  obtain ⟨p, q, hA0, hV, rfl, hfz, hnd⟩ := hW
  have hA : DataW.TrodAll enc Tryz.prog W 0 (fun _ => true) true Tryz.f5.params.toList args.toList ds p := hA0
  rw [Tryz.params5] at hA hval
  obtain ⟨v0, vs0, d0, ds0, p0, q0, hargs, rfl, rfl, h0, r0⟩ := trodAll_cons hA
  obtain ⟨v1, vs1, d1, ds1, p1, q1, rfl, rfl, rfl, h1, r1⟩ := trodAll_cons r0
  obtain ⟨v2, vs2, d2, ds2, p2, q2, rfl, rfl, rfl, h2, r2⟩ := trodAll_cons r1
  obtain ⟨rfl, rfl, rfl⟩ := trodAll_nil r2
  obtain rfl : args = #[v0, v1, v2] := by cases args; simp_all
  obtain ⟨rfl, rfl⟩ := trodVars_none hV
  obtain ⟨a0, rfl, rfl, rfl, w0⟩ := open_int Tryz.underlying5 (hval 0 5 v0 rfl rfl) h0
  have l0 : 0 ≤ a0 ∧ a0 ≤ 255 := by simpa [Lit.wf, IntKind.min, IntKind.max, IntKind.signed, IntKind.bits] using w0
  obtain ⟨a1, rfl, rfl, rfl, w1⟩ := open_int Tryz.underlying5 (hval 1 5 v1 rfl rfl) h1
  have l1 : 0 ≤ a1 ∧ a1 ≤ 255 := by simpa [Lit.wf, IntKind.min, IntKind.max, IntKind.signed, IntKind.bits] using w1
  obtain ⟨a2, rfl, rfl, rfl⟩ := open_bool Tryz.underlying4 (hval 2 4 v2 rfl rfl) h2
  clear hA0 hval0
  have hw := queryLimits_walk W a0 l0.1 l0.2 a1 l1.1 l1.2 a2 hLD
  refine hw.mono fun e W' ⟨he, bel⟩ => ?_
  subst he
  exact ⟨_, rfl, _, _, _, [], _, [], hW', trodAll_mk1 (shut_bool Tryz.underlying4 _), (trodAll_cons_mk (shut_int Tryz.underlying5 w0) (trodAll_cons_mk (shut_int Tryz.underlying5 w1) (trodAll_cons_mk (shut_bool Tryz.underlying4 _) trodAll_mk0))), rfl, bel.frame _, fun h => by cases h⟩

theorem over : Rows.queryLimitsRow.holds Tryz.pinned (OpenSpec.ofChange Rows.queryLimitsSpec) :=
  OpenClaim.holds_of_wide 5 Tryz.f5 rfl rfl rfl rfl rfl rfl rfl ⟨rfl, rfl, rfl, rfl, rfl⟩ rfl rfl rfl rfl rfl (by kernel_rfl) Tryz.func5 (by kernel_rfl)
    (of_decide_eq_true (by kernel_rfl)) (by unfold Func.isWrapper; first | (rw [if_pos (by decide +kernel)]; kernel_rfl) | (rw [if_neg (by decide +kernel)]; exact ⟨rfl, rfl⟩))
    (fun os started H enc _ => lifted os started H enc)

theorem proved : Rows.QueryLimitsCardSaid :=
  Claim7.holds_tied_plain_at .later [] _ _ _ _ over (fun _ h => by cases h) (by kernel_rfl) (fun _ h => by cases h) queryLimits_row_tie rfl ⟨rfl, rfl⟩ (by kernel_rfl) rfl
    (fun f fn hf hfn => by
      obtain rfl : f = 5 := Option.some.inj ((show Tryz.prog.funcNamed "licit/licitlaw54.QueryLimits" = some 5 by kernel_rfl).symm.trans hf) |>.symm
      obtain rfl : fn = Tryz.f5 := (Option.some.inj (Tryz.func5.symm.trans hfn)).symm
      exact ⟨by kernel_rfl, fun j t ht => by
        rw [Tryz.params5] at ht
        have hm : t ∈ [5, 5, 4] := by simpa using Array.mem_of_getElem? ht
        have hall : ([5, 5, 4].all fun u => !Tryz.prog.wantsStandIn u) = true := by kernel_rfl
        exact (show Tryz.prog.wantsStandIn t = false by simpa using List.all_eq_true.1 hall t hm)⟩)
    (by kernel_rfl)
#print axioms proved
end Go.Proofs.YtkjoaodoioicpaaGreatDoor.queryLimits
