/- SourceFinds: the law answers true, whatever the input, and writes nothing that was there. Conditions: none beyond the given statement's (the listed package-level variables start as the program's text lays them; the card ties them, over a pruned copy of the project). -/
import Derived.Test.YtpeamehplhpcjaaGreatDoorZ23
import Derived.Test.YtpeamehplhpcjaaGreatDoorZ25
import Derived.Test.YtpeamehplhpcjaaGreatDoorZ26
import Derived.Test.YtpeamehplhpcjaaGreatDoorZ39
import Derived.Test.YtpeamehplhpcjaaGreatDoorZ40
import Derived.Test.YtpeamehplhpcjaaGreatDoorTie
import Derived.Test.YtpeamehplhpcjaaGreatDoorCards
import Derived.ProofKit
import Derived.OpenShut
import Derived.ShutString
import Derived.ChangeOld
import Derived.Below
import Derived.Lay
import Derived.Handy
import Derived.SevenTiedAt
set_option linter.unusedVariables false
set_option linter.unusedSimpArgs false
namespace Go.Proofs.YtpeamehplhpcjaaGreatDoor
open Go.RowKit

/-- A unit's block reads. -/
theorem untG {z : World} {b : Nat} {s : ByteArray} {A1 A2 A3 A4 A5 : Option Addr} {n1 n2 n3 n4 n5 c1 c2 c3 c4 c5 : Nat} (h : z.heap[b]? = some (.cells #[.string s, .slice A1 n1 c1, .slice A2 n2 c2, .slice A3 n3 c3, .slice A4 n4 c4, .slice A5 n5 c5] 36 (0, 0))) :
    z.cell? ⟨b, 0, none⟩ = some (.string s) ∧ z.cell? ⟨b, 1, none⟩ = some (.slice A1 n1 c1) ∧ z.cell? ⟨b, 2, none⟩ = some (.slice A2 n2 c2) ∧ z.cell? ⟨b, 3, none⟩ = some (.slice A3 n3 c3) ∧ z.cell? ⟨b, 4, none⟩ = some (.slice A4 n4 c4) ∧ z.cell? ⟨b, 5, none⟩ = some (.slice A5 n5 c5) :=
  ⟨(cell_blk h 0).trans rfl, (cell_blk h 1).trans rfl, (cell_blk h 2).trans rfl, (cell_blk h 3).trans rfl, (cell_blk h 4).trans rfl, (cell_blk h 5).trans rfl⟩
set_option maxRecDepth 100000 in
set_option maxHeartbeats 8000000 in
theorem sourceFinds_walk (w : World) (A : Option Addr) (n c : Nat) (t : List Fil) (hl : Sl w (fun _ => True) A n c t) (_ : ∀ r ∈ t, OkF r) (p : Bs) (_ : p.length ≤ 9223372036854775807) (nm : Bs) (_ : nm.length ≤ 9223372036854775807) (hL : LS w) :
    Calls Tryz.prog 5 #[.slice A n c, .string ⟨p.toArray⟩, .string ⟨nm.toArray⟩] w fun e w' => e = .returned (.bool true) ∧ Below w.heap.size w w' := by
  have HA := Lib.hid (awake_any w hL)
  have hfw := fun w' h1 => few6_any A none n c 0 0 w' (fun _ => True) (fun _ => True) t [] h1 (Sl.nil _ _ _ _ (by decide))
  have hok := @few6_ok t []
  generalize few6S t [] = b at *
  have HT := Lib.hid hl; have HFW := Lib.hid hfw; have HOK := Lib.hid hok
  clear hl hL hfw hok
  go_enter Tryz.func5, Tryz.ntmps5
  go_wp2_with fail
  refine HA.out.mono ?_
  rintro e w1 ⟨rfl, hb1⟩
  have HB1 := Lib.hid hb1
  clear hb1 HA
  go_wp2_with fail
  refine (HFW.out w1 (HT.out.below HB1.out)).mono ?_
  rintro e w2 ⟨rfl, hb2⟩
  have HB2 := Lib.hid (HB1.out.trans (hb2.mono HB1.out.size))
  clear hb2 HB1 HFW
  cases b with
  | false =>
    go_wp2_with fail
    go_ret
    exact ⟨rfl, HB2.out⟩
  | true =>
    obtain ⟨hfp, -, -, -⟩ := HOK.out rfl
    by_cases h3 : (300 : Int) < (p.length : Int)
    · go_wp2_with fail
      go_ret
      exact ⟨rfl, HB2.out⟩
    · by_cases h4 : (300 : Int) < (nm.length : Int)
      · go_wp2_with fail
        go_ret
        exact ⟨rfl, HB2.out⟩
      · have hrc := fun w' h1 => rscan_any A n c none 0 0 w' (fun _ => True) (fun _ => True) t p [] h1 (Sl.nil _ _ _ _ (by decide)) (fun f hf => by have := hfp f hf; omega) (by omega) (fun s hs => by cases hs) (by decide)
        have hit := scan_items t p []
        generalize rscanS t p [] = R at *
        obtain ⟨u, ⟨fe, fk, fs, ⟨fp, fz⟩⟩⟩ := R
        simp only at hit
        have hfi := fun w' v h => find_any u v w' h nm (fun x hx => by have := hit.2 x hx; omega)
        have hfa := find_app u.items nm
        rw [findI_of] at hfi
        have hf2 := fun up A1 n1 c1 A2 n2 c2 A3 n3 c3 A4 n4 c4 A5 n5 c5 w h3 => rfind_any up A1 n1 c1 A2 n2 c2 A3 n3 c3 A4 n4 c4 A5 n5 c5 u.items w (fun _ => True) h3 nm
        have hfi2 := fun w' v (h : VUnt w' v { u with items := u.items ++ [(⟨nm, 3, 0, [], spn0⟩ : Itm)] }) => find_any _ v w' h nm (fun x hx => by
          rcases List.mem_append.1 hx with hx | hx
          · have := hit.2 x hx; omega
          · rw [List.mem_singleton.1 hx]; exact Nat.zero_le _)
        rw [findI_of] at hfi2
        simp only at hfi2
        rw [hfa] at hfi2
        simp only [Option.getD_some, Option.isSome_some] at hfi2
        clear hfa
        generalize (u.items.find? (fun y => y.name == nm)).isSome = isb at *
        generalize (u.items.find? (fun y => y.name == nm)).getD itm0 = xi at *
        obtain ⟨yi, hyi⟩ : ∃ yi, yi = if isb = true then xi else (⟨nm, 3, 0, [], spn0⟩ : Itm) := ⟨_, rfl⟩
        rw [← hyi] at hfi2
        have hlen := hit.1
        have HRC := Lib.hid hrc; have HFI := Lib.hid hfi; have HF2 := Lib.hid hf2; have HFI2 := Lib.hid hfi2; have HYI := Lib.hid hyi
        clear hrc hfi hf2 hfi2 hfp HOK hit hyi
        go_wp2_with fail
        refine (HRC.out w2 (HT.out.below HB2.out)).mono ?_
        rintro e w3 ⟨V, rfl, hV, hb3⟩
        simp only at hV
        obtain ⟨B1, m1, d1, B2, m2, d2, B3, m3, d3, B4, m4, d4, B5, m5, d5, rfl, hV⟩ := hV
        unfold vFlt
        have HB3 := Lib.hid (HB2.out.trans (hb3.mono HB2.out.size))
        clear hb3 HB2 HRC HT
        go_upto_region 6 with fail
        have hbW : Below w3.heap.size w3 ((w3.alloc (.cells #[.string ⟨u.path.toArray⟩, .slice B1 m1 d1, .slice B2 m2 d2, .slice B3 m3 d3, .slice B4 m4 d4, .slice B5 m5 d5] 36)).alloc (.cells #[.int .i64 fe, .int .i64 fk, .int .i64 fs, .string ⟨fp.toArray⟩, .int .i64 fz] 40)) := by ((repeat (first | (with_reducible exact Below.refl _ _) | (with_reducible refine belowA ?_ _) | (with_reducible refine belowD ?_) | (with_reducible refine belowS ?_ (Nat.le_refl _) _ _) | (with_reducible refine next ?_ (by assumption) (Nat.le_refl _)))); done)
        have hg1 : ((w3.alloc (.cells #[.string ⟨u.path.toArray⟩, .slice B1 m1 d1, .slice B2 m2 d2, .slice B3 m3 d3, .slice B4 m4 d4, .slice B5 m5 d5] 36)).alloc (.cells #[.int .i64 fe, .int .i64 fk, .int .i64 fs, .string ⟨fp.toArray⟩, .int .i64 fz] 40)).heap[w3.heap.size]? = some (.cells #[.string ⟨u.path.toArray⟩, .slice B1 m1 d1, .slice B2 m2 d2, .slice B3 m3 d3, .slice B4 m4 d4, .slice B5 m5 d5] 36 (0, 0)) := blkOld (blkAt _ _ rfl) _
        have HV4 := Lib.hid (VUnt.below (u := u) ⟨B1, m1, d1, B2, m2, d2, B3, m3, d3, B4, m4, d4, B5, m5, d5, rfl, hV⟩ hbW)
        generalize ((w3.alloc (.cells #[.string ⟨u.path.toArray⟩, .slice B1 m1 d1, .slice B2 m2 d2, .slice B3 m3 d3, .slice B4 m4 d4, .slice B5 m5 d5] 36)).alloc (.cells #[.int .i64 fe, .int .i64 fk, .int .i64 fs, .string ⟨fp.toArray⟩, .int .i64 fz] 40)) = w4 at *
        have HB4 := Lib.hid (HB3.out.trans (hbW.mono HB3.out.size)); have HG4 := Lib.hid hg1
        clear hV hbW hg1 HB3
        generalize w3.heap.size = gu at *
        have y1 := untG HG4.out
        go_wp2_with fail
        refine (HFI.out w4 _ HV4.out).mono ?_
        rintro e w5 ⟨va, rfl, hva, hb5⟩
        obtain ⟨A6, n6, c6, rfl, hs6⟩ := hva
        have HB5 := Lib.hid (HB4.out.trans (hb5.mono HB4.out.size)); have HV5 := Lib.hid (HV4.out.below hb5); have HG5 := Lib.hid (keptBlk hb5 HG4.out)
        clear hb5 y1 HB4 HV4 HG4 HFI
        go_upto_region 7 with fail
        have hbW : Below w5.heap.size w5 (w5.alloc (.cells #[.string ⟨xi.name.toArray⟩, .int .i64 xi.kind, .int .i64 xi.mode, .slice A6 n6 c6, .string ⟨xi.body.path.toArray⟩, .int .i64 xi.body.fr, .int .i64 xi.body.tu] 48)) := boxed
        have hga : (w5.alloc (.cells #[.string ⟨xi.name.toArray⟩, .int .i64 xi.kind, .int .i64 xi.mode, .slice A6 n6 c6, .string ⟨xi.body.path.toArray⟩, .int .i64 xi.body.fr, .int .i64 xi.body.tu] 48)).heap[w5.heap.size]? = some (.cells #[.string ⟨xi.name.toArray⟩, .int .i64 xi.kind, .int .i64 xi.mode, .slice A6 n6 c6, .string ⟨xi.body.path.toArray⟩, .int .i64 xi.body.fr, .int .i64 xi.body.tu] 48 (0, 0)) := blkAt _ _ rfl
        generalize (w5.alloc (.cells #[.string ⟨xi.name.toArray⟩, .int .i64 xi.kind, .int .i64 xi.mode, .slice A6 n6 c6, .string ⟨xi.body.path.toArray⟩, .int .i64 xi.body.fr, .int .i64 xi.body.tu] 48)) = w6 at *
        have HB6 := Lib.hid (HB5.out.trans (hbW.mono HB5.out.size)); have HV6 := Lib.hid (HV5.out.below hbW); have HG6 := Lib.hid (keptBlk hbW HG5.out); have HA6 := Lib.hid hga; have HS6 := Lib.hid (hs6.below hbW)
        clear hbW hga hs6 HB5 HV5 HG5
        generalize w5.heap.size = ga at *
        have y1 := untG HG6.out
        have hi6 : Sl w6 (fun _ => True) B3 m3 d3 u.items := by obtain ⟨_, _, _, _, _, _, _, _, _, _, _, _, _, _, _, he, h1, h2, h3, h4, h5⟩ := HV6.out; injection he with he; simp only [Array.mk.injEq, List.cons.injEq, Value.slice.injEq] at he; obtain ⟨-, -, -, ⟨rfl, rfl, rfl⟩, -, -⟩ := he; exact h3
        have HI6 := Lib.hid hi6
        clear hi6
        go_wp2_with fail
        refine (HF2.out _ _ _ _ _ _ _ _ _ _ _ _ _ _ _ _ w6 HI6.out).mono ?_
        rintro e w7 ⟨vb, rfl, hvb, hb7⟩
        obtain ⟨A7, n7, c7, rfl, hs7⟩ := hvb
        have HB7 := Lib.hid (HB6.out.trans (hb7.mono HB6.out.size)); have HV7 := Lib.hid (HV6.out.below hb7); have HG7 := Lib.hid (keptBlk hb7 HG6.out); have HA7 := Lib.hid (keptBlk hb7 HA6.out); have HS7 := Lib.hid (HS6.out.below hb7); have HI7 := Lib.hid (HI6.out.below hb7)
        clear hb7 y1 HB6 HV6 HG6 HA6 HS6 HI6 HF2
        go_upto_region 8 with fail
        have hbW : Below w7.heap.size w7 (w7.alloc (.cells #[.string ⟨xi.name.toArray⟩, .int .i64 xi.kind, .int .i64 xi.mode, .slice A7 n7 c7, .string ⟨xi.body.path.toArray⟩, .int .i64 xi.body.fr, .int .i64 xi.body.tu] 48)) := boxed
        have hga : (w7.alloc (.cells #[.string ⟨xi.name.toArray⟩, .int .i64 xi.kind, .int .i64 xi.mode, .slice A7 n7 c7, .string ⟨xi.body.path.toArray⟩, .int .i64 xi.body.fr, .int .i64 xi.body.tu] 48)).heap[w7.heap.size]? = some (.cells #[.string ⟨xi.name.toArray⟩, .int .i64 xi.kind, .int .i64 xi.mode, .slice A7 n7 c7, .string ⟨xi.body.path.toArray⟩, .int .i64 xi.body.fr, .int .i64 xi.body.tu] 48 (0, 0)) := blkAt _ _ rfl
        generalize (w7.alloc (.cells #[.string ⟨xi.name.toArray⟩, .int .i64 xi.kind, .int .i64 xi.mode, .slice A7 n7 c7, .string ⟨xi.body.path.toArray⟩, .int .i64 xi.body.fr, .int .i64 xi.body.tu] 48)) = w8 at *
        have HB8 := Lib.hid (HB7.out.trans (hbW.mono HB7.out.size)); have HV8 := Lib.hid (HV7.out.below hbW); have HG8 := Lib.hid (keptBlk hbW HG7.out); have HA8 := Lib.hid (keptBlk hbW HA7.out); have HS8 := Lib.hid (HS7.out.below hbW); have HI8 := Lib.hid (HI7.out.below hbW); have HC8 := Lib.hid hga; have HT8 := Lib.hid (hs7.below hbW)
        clear hbW hga hs7 HB7 HV7 HG7 HA7 HS7 HI7
        generalize w7.heap.size = gb at *
        have y1 := untG HG8.out
        go_upto_region 9 with fail
        have hbW : Below w8.heap.size w8 (w8.alloc (.cells #[.string ⟨u.path.toArray⟩, .slice B1 m1 d1, .slice B2 m2 d2, .slice B3 m3 d3, .slice B4 m4 d4, .slice B5 m5 d5] 36)) := boxed
        have hga : (w8.alloc (.cells #[.string ⟨u.path.toArray⟩, .slice B1 m1 d1, .slice B2 m2 d2, .slice B3 m3 d3, .slice B4 m4 d4, .slice B5 m5 d5] 36)).heap[w8.heap.size]? = some (.cells #[.string ⟨u.path.toArray⟩, .slice B1 m1 d1, .slice B2 m2 d2, .slice B3 m3 d3, .slice B4 m4 d4, .slice B5 m5 d5] 36 (0, 0)) := blkAt _ _ rfl
        generalize (w8.alloc (.cells #[.string ⟨u.path.toArray⟩, .slice B1 m1 d1, .slice B2 m2 d2, .slice B3 m3 d3, .slice B4 m4 d4, .slice B5 m5 d5] 36)) = w9 at *
        have HB9 := Lib.hid (HB8.out.trans (hbW.mono HB8.out.size)); have HG9 := Lib.hid (keptBlk hbW HG8.out); have HA9 := Lib.hid (keptBlk hbW HA8.out); have HS9 := Lib.hid ((HS8.out.wide (S' := fun k => k < w8.heap.size) (fun k hk _ => hk) (by decide)).below hbW); have HU9 := Lib.hid ((HV8.out.uns).below hbW); have HC9 := Lib.hid (keptBlk hbW HC8.out); have HT9 := Lib.hid ((HT8.out.wide (S' := fun k => k < w8.heap.size) (fun k hk _ => hk) (by decide)).below hbW); have HD9 := Lib.hid hga; have hgu := (Array.getElem?_eq_some_iff.1 HG8.out).1; have hga2 := (Array.getElem?_eq_some_iff.1 HA8.out).1; have hgb2 := (Array.getElem?_eq_some_iff.1 HC8.out).1; have hgt := (Array.getElem?_eq_some_iff.1 hga).1; have hzt := HB8.out.size
        clear hbW hga y1 HB8 HV8 HG8 HA8 HS8 HI8 HC8 HT8
        generalize w8.heap.size = gt at *
        have y3 := (untG HG9.out).2.2.2.1
        have hz9 := HB9.out.size
        have hcl := cloneI_any B3 m3 d3 w9 (fun k => k < gt) u.items HU9.out.2.2.1 (by have := HU9.out.2.2.1.len; omega)
        have HCL := Lib.hid hcl
        clear hcl
        go_wp2_with fail
        refine HCL.out.mono ?_
        rintro e w10 ⟨A', c', rfl, ho, hb10⟩
        have HB10 := Lib.hid (HB9.out.trans (hb10.mono HB9.out.size)); have HG10 := Lib.hid (keptBlk hb10 HG9.out); have HA10 := Lib.hid (keptBlk hb10 HA9.out); have HS10 := Lib.hid (HS9.out.below hb10); have HU10 := Lib.hid (HU9.out.below hb10); have HC10 := Lib.hid (keptBlk hb10 HC9.out); have HT10 := Lib.hid (HT9.out.below hb10); have HD10 := Lib.hid (keptBlk hb10 HD9.out)
        have hw10 := hb10.size
        have hnA : ∀ k, A'.map Addr.block = some k → w9.heap.size ≤ k := fun k e => (ho.lt k e).1
        have HO10 := Lib.hid ho
        clear hb10 ho y3 HB9 HG9 HA9 HS9 HU9 HC9 HT9 HD9 HCL
        go_upto_region 10 with (at_builtin; go_loud (refine wpList_app1 rfl _ _ eltItm rfl (by decide) rfl rfl rfl (HO10.out.alloc _) rfl [.string ⟨nm.toArray⟩, .int .i64 3, .int .i64 0, .slice none 0 0, .string ⟨#[]⟩, .int .i64 0, .int .i64 0] (⟨nm, 3, 0, [], spn0⟩ : Itm) (blkAt _ _ rfl) rfl ⟨rfl, rfl, rfl, rfl, rfl, rfl, none, 0, 0, rfl, Sl.nil _ _ _ _ (by decide)⟩ (by omega) (by omega) (by simp; omega) ?_); intro A'' c'' w11 hown hg11 hat11; have hD11 := grownBlk hg11 (blkOld HD10.out _) (fun e => by have := hnA _ e; omega); have t3 := (cell_blk hD11 3).trans rfl; have f3 := frz_blk hD11 3; have HOW := Lib.hid hown; have HG11 := Lib.hid hg11; have HAT := Lib.hid hat11; have HD11 := Lib.hid hD11; clear hown hg11 hat11 hD11)
        have hnA2 : ∀ k, A''.map Addr.block = some k → w9.heap.size ≤ k := fun k e => (HOW.out.lt k e).1
        have hkk : ∀ k, k < w9.heap.size → k ≠ gt → (w11.setCell ⟨gt, 3, none⟩ (.slice A'' (u.items.length + 1) c'')).heap[k]? = w10.heap[k]? := fun k hk hn => (set_other _ _ _ _ _ hn).trans ((HG11.out.block k (by simp; omega) (fun e => by have := hnA k e.symm; omega)).trans (((Below.refl w10.heap.size w10).alloc (Nat.le_refl _) _).block k (by omega)))
        have hbl : Below w.heap.size w (w11.setCell ⟨gt, 3, none⟩ (.slice A'' (u.items.length + 1) c'')) := by
          have hz := HB10.out.size
          have h1 := (belowA HB10.out _).grown HG11.out (by simp; omega) (fun k hk => by have := hnA k hk; omega)
          exact h1.setCell (p := ⟨gt, 3, none⟩) (by show w.heap.size ≤ gt; omega) _
        have HG12 := Lib.hid ((hkk gu (by omega) (by omega)).trans HG10.out); have HA12 := Lib.hid ((hkk ga (by omega) (by omega)).trans HA10.out); have HC12 := Lib.hid ((hkk gb (by omega) (by omega)).trans HC10.out)
        have HS12 := Lib.hid (HS10.out.keep (fun k _ h => hkk k (by have h : k < gt := h; omega) (by have h : k < gt := h; omega))); have HT12 := Lib.hid (HT10.out.keep (fun k _ h => hkk k (by have h : k < gt := h; omega) (by have h : k < gt := h; omega))); have HU12 := Lib.hid (HU10.out.keep (fun k _ h => hkk k (by have h : k < gt := h; omega) (by have h : k < gt := h; omega)))
        have HD12 := Lib.hid (Blk.set w11 HD11.out 3 (.slice A'' (u.items.length + 1) c''))
        have hitl := ((HOW.out.keep (w' := w11.setCell ⟨gt, 3, none⟩ (.slice A'' (u.items.length + 1) c'')) (fun k _ h => set_other _ _ _ _ _ (fun e => by
          subst e
          rcases h with h | h
          · exact absurd h.1 (Nat.lt_irrefl _)
          · have := hnA2 _ h; omega))).sl (by decide)).cast (n' := u.items.length + 1) (by simp)
        have HIT := Lib.hid hitl; have HB12 := Lib.hid hbl
        clear hitl hbl hkk t3 f3 HG10 HA10 HS10 HU10 HC10 HT10 HD10 HB10 HO10 HOW HG11 HAT HD11 hnA hnA2
        generalize (w11.setCell ⟨gt, 3, none⟩ (.slice A'' (u.items.length + 1) c'')) = w12 at *
        have y1 := untG HD12.out
        have hv2 := HU12.out.with HIT.out
        have HVV := Lib.hid hv2
        clear hv2
        go_wp2_with fail
        refine (HFI2.out w12 _ HVV.out).mono ?_
        rintro e w13 ⟨vc, rfl, hvc, hb13⟩
        obtain ⟨A8, n8, c8, rfl, hs8⟩ := hvc
        have HB13 := Lib.hid (HB12.out.trans (hb13.mono HB12.out.size)); have HA13 := Lib.hid (keptBlk hb13 HA12.out); have HS13 := Lib.hid (HS12.out.below hb13); have HC13 := Lib.hid (keptBlk hb13 HC12.out); have HT13 := Lib.hid (HT12.out.below hb13)
        clear hb13 y1 HB12 HG12 HA12 HC12 HS12 HT12 HU12 HD12 HIT HVV HFI2
        go_upto_region 11 with fail
        have hbW : Below w13.heap.size w13 (w13.alloc (.cells #[.string ⟨yi.name.toArray⟩, .int .i64 yi.kind, .int .i64 yi.mode, .slice A8 n8 c8, .string ⟨yi.body.path.toArray⟩, .int .i64 yi.body.fr, .int .i64 yi.body.tu] 48)) := boxed
        have hga : (w13.alloc (.cells #[.string ⟨yi.name.toArray⟩, .int .i64 yi.kind, .int .i64 yi.mode, .slice A8 n8 c8, .string ⟨yi.body.path.toArray⟩, .int .i64 yi.body.fr, .int .i64 yi.body.tu] 48)).heap[w13.heap.size]? = some (.cells #[.string ⟨yi.name.toArray⟩, .int .i64 yi.kind, .int .i64 yi.mode, .slice A8 n8 c8, .string ⟨yi.body.path.toArray⟩, .int .i64 yi.body.fr, .int .i64 yi.body.tu] 48 (0, 0)) := blkAt _ _ rfl
        generalize (w13.alloc (.cells #[.string ⟨yi.name.toArray⟩, .int .i64 yi.kind, .int .i64 yi.mode, .slice A8 n8 c8, .string ⟨yi.body.path.toArray⟩, .int .i64 yi.body.fr, .int .i64 yi.body.tu] 48)) = w14 at *
        have HB14 := Lib.hid (HB13.out.trans (hbW.mono HB13.out.size)); have HA14 := Lib.hid (keptBlk hbW HA13.out); have HS14 := Lib.hid (HS13.out.below hbW); have HC14 := Lib.hid (keptBlk hbW HC13.out); have HT14 := Lib.hid (HT13.out.below hbW); have HE14 := Lib.hid hga; have HR14 := Lib.hid (hs8.below hbW)
        clear hbW hga hs8 HB13 HA13 HS13 HC13 HT13
        generalize w13.heap.size = gc at *
        have za := itmF HA14.out
        have zb := itmF HC14.out
        go_wp2_with fail
        refine (sameItm_any w14 _ _ _ _ xi ⟨A6, n6, c6, rfl, HS14.out⟩ ⟨A7, n7, c7, rfl, HT14.out⟩).mono ?_
        rintro e w15 ⟨rfl, hb15⟩
        have HB15 := Lib.hid (HB14.out.trans (hb15.mono HB14.out.size)); have HC15 := Lib.hid (keptBlk hb15 HC14.out); have HE15 := Lib.hid (keptBlk hb15 HE14.out); have HT15 := Lib.hid (HT14.out.below hb15); have HR15 := Lib.hid (HR14.out.below hb15)
        clear hb15 za zb HA14 HS14 HC14 HE14 HB14 HT14 HR14
        cases isb with
        | true =>
          have hy : yi = xi := HYI.out
          subst hy
          have zb := itmF HC15.out
          have zc := itmF HE15.out
          go_wp2_with fail
          refine (sameItm_any w15 _ _ _ _ yi ⟨A8, n8, c8, rfl, HR15.out⟩ ⟨A7, n7, c7, rfl, HT15.out⟩).mono ?_
          rintro e w16 ⟨rfl, hb16⟩
          have HB16 := Lib.hid (HB15.out.trans (hb16.mono HB15.out.size))
          clear hb16 zb zc
          go_wp2_with fail
          go_ret
          exact ⟨ret_bool (by simp), HB16.out⟩
        | false =>
          have hy : yi = (⟨nm, 3, 0, [], spn0⟩ : Itm) := HYI.out
          subst hy
          have z0 : w15.cell? ⟨gc, 0, none⟩ = some (.string ⟨nm.toArray⟩) := (itmF HE15.out).1
          have z1 : w15.cell? ⟨gc, 1, none⟩ = some (.int .i64 3) := (itmF HE15.out).2.1
          go_wp2_with fail
          go_ret
          exact ⟨ret_bool (by simp), HB15.out⟩
end Go.Proofs.YtpeamehplhpcjaaGreatDoor
namespace Go.Proofs.YtpeamehplhpcjaaGreatDoor.sourceFinds
open Go.ChangeShapes Go.WideShapes Go.ChangeAt Go.RowKit
open Go.ChangeMaps (open_string shut_string)

theorem own : ownKnob Tryz.prog.godebug = none := by kernel_rfl
theorem laidOut : laidOutB Tryz.prog = true := by kernel_rfl

set_option maxRecDepth 100000 in
theorem lifted (os : Os) (started : os.Started) (H : Type) (enc : TypeId × Value → H) :
    ReturnsInHanded {} Tryz.checked os 5 .any (fun w args => (Rows.sourceFindsSpec.pre enc Tryz.prog Tryz.f5 [] false w args ∧ laidMetH Tryz.prog laidL w) ∧ sizedMet enc Tryz.prog Tryz.f5 (OpenSpec.ofChange Rows.sourceFindsSpec) false w args)
      (Rows.sourceFindsSpec.post enc Tryz.prog Tryz.f5 false true false false) := by
  refine handed (C := Tryz.checked) (X := fun w _ => laidMetH Tryz.prog laidL w) (fun _ _ _ hh h => h.of_heap hh) own started (by kernel_rfl) Tryz.func5
    (ChangeSpec.witness_shaped (enc := enc) (C := Tryz.checked) (os := os) (X := fun w _ => laidMetH Tryz.prog laidL w) false (World.laidAll Tryz.prog os laidL) #[.slice none 0 0, .string ByteArray.empty, .string ByteArray.empty] 8 (World.laidAll_os _ _ _)
      (World.shaped_of_ZipB (by kernel_rfl) (by kernel_rfl)) (by kernel_rfl) (by kernel_rfl) (by kernel_rfl)
      (by rw [MakeChecks.laidMetH_plain _ _ _ (by kernel_rfl)]; exact laidMet_laidAll _ (by kernel_rfl) (by kernel_rfl))) ?_
  intro W base args ds gs before hval0 hW hlaid hshape
  have hLD := ld_of hlaid hshape
  have hval : ∀ (j : Nat) t v, Tryz.f5.params[j]? = some t → args[j]? = some v → Value.okWide Tryz.prog W .any base t v := hval0
  have hW' := hW
  obtain ⟨p, q, hA0, hV, rfl, hfz, hnd⟩ := hW
  have hA : DataW.TrodAll enc Tryz.prog W 0 (fun _ => true) true Tryz.f5.params.toList args.toList ds p := hA0
  rw [Tryz.params5] at hA hval
  obtain ⟨v0, vs0, d0, ds0, p0, q0, hargs, rfl, rfl, h0, r0⟩ := trodAll_cons hA
  obtain ⟨v1, vs1, d1, ds1, p1, q1, rfl, rfl, rfl, h1, r1⟩ := trodAll_cons r0
  obtain ⟨v2, vs2, d2, ds2, p2, q2, rfl, rfl, rfl, h2, r2⟩ := trodAll_cons r1
  obtain ⟨rfl, rfl, rfl⟩ := trodAll_nil r2
  obtain rfl : args = #[v0, v1, v2] := by cases args; simp_all
  obtain ⟨rfl, rfl⟩ := trodVars_none hV
  obtain ⟨a0, n0, c0, rfl⟩ := okWide_slice Tryz.underlying28 (hval 0 28 v0 rfl rfl)
  have k0 := h0
  have lt0 : ∀ x ∈ p0, x.block < W.heap.size := by obtain ⟨m, hm⟩ := k0; exact DataW.trod_lt m _ _ _ hm
  obtain ⟨l0, s0, f0⟩ := openTree h0
  obtain ⟨a1, rfl, rfl, rfl, w1⟩ := open_string Tryz.underlying9 (hval 1 9 v1 rfl rfl) h1
  have e1 : a1 = ⟨a1.data.toList.toArray⟩ := by cases a1; simp
  have l1 : a1.data.toList.length ≤ 9223372036854775807 := by simpa [maxLen] using w1
  obtain ⟨a2, rfl, rfl, rfl, w2⟩ := open_string Tryz.underlying9 (hval 2 9 v2 rfl rfl) h2
  have e2 : a2 = ⟨a2.data.toList.toArray⟩ := by cases a2; simp
  have l2 : a2.data.toList.length ≤ 9223372036854775807 := by simpa [maxLen] using w2
  clear hA0 hval0
  have hw := sourceFinds_walk W a0 n0 c0 l0 s0 f0 a1.data.toList l1 a2.data.toList l2 hLD
  rw [← e1] at hw
  rw [← e2] at hw
  refine hw.mono fun e W' ⟨he, bel⟩ => ?_
  subst he
  exact ⟨_, rfl, _, _, _, [], _, [], hW', trodAll_mk1 (shut_bool Tryz.underlying4 _), (trodAll_cons_mk (Below.trod laidOut (by kernel_rfl) (of_decide_eq_true (by kernel_rfl)) k0 bel lt0) (trodAll_cons_mk (shut_string Tryz.underlying9 w1) (trodAll_cons_mk (shut_string Tryz.underlying9 w2) trodAll_mk0))), rfl, bel.frame _, fun h => by cases h⟩

theorem over : Rows.sourceFindsRow.holds Tryz.pinned (OpenSpec.ofChange Rows.sourceFindsSpec) :=
  OpenClaim.holds_of_wide 5 Tryz.f5 rfl rfl rfl rfl rfl rfl rfl ⟨rfl, rfl, rfl, rfl, rfl⟩ rfl rfl rfl rfl rfl (by kernel_rfl) Tryz.func5 (by kernel_rfl)
    (of_decide_eq_true (by kernel_rfl)) (by unfold Func.isWrapper; first | (rw [if_pos (by decide +kernel)]; kernel_rfl) | (rw [if_neg (by decide +kernel)]; exact ⟨rfl, rfl⟩))
    (fun os started H enc _ => lifted os started H enc)

theorem proved : Rows.SourceFindsCardSaid :=
  Claim7.holds_tied_plain_at .later [] _ _ _ _ over (fun _ h => by cases h) (by kernel_rfl) (fun _ h => by cases h) sourceFinds_row_tie rfl ⟨rfl, rfl⟩ (by kernel_rfl) rfl
    (fun f fn hf hfn => by
      obtain rfl : f = 5 := Option.some.inj ((show Tryz.prog.funcNamed "licit/licitlaw06.SourceFinds" = some 5 by kernel_rfl).symm.trans hf) |>.symm
      obtain rfl : fn = Tryz.f5 := (Option.some.inj (Tryz.func5.symm.trans hfn)).symm
      exact ⟨by kernel_rfl, fun j t ht => by
        rw [Tryz.params5] at ht
        have hm : t ∈ [28, 9, 9] := by simpa using Array.mem_of_getElem? ht
        have hall : ([28, 9, 9].all fun u => !Tryz.prog.wantsStandIn u) = true := by kernel_rfl
        exact (show Tryz.prog.wantsStandIn t = false by simpa using List.all_eq_true.1 hall t hm)⟩)
    (by kernel_rfl)
#print axioms proved
end Go.Proofs.YtpeamehplhpcjaaGreatDoor.sourceFinds
