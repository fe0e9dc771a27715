/- Rules: printArg, printAtom, printLiteral, PrintAtom. -/
import Derived.Test.YtjopmgoacncmgaaGreatDoorK9
import Derived.Test.YtjopmgoacncmgaaGreatDoorKP3
import Derived.Test.YtjopmgoacncmgaaGreatDoorRfSpl
set_option linter.unusedVariables false
set_option linter.unusedSimpArgs false
namespace Go.Proofs.YtjopmgoacncmgaaGreatDoor
open Go.RowKit

set_option maxHeartbeats 1000000 in
theorem printArg_any (a : Arg) (w : World) (ha : OkA a) (hL : LD w) (hf : formedS a = true) :
    Calls Tryz.prog 101 #[vArg a] w fun e w' => e = .returned (.string ⟨(prArg a).toArray⟩) ∧ Below w.heap.size w w' := by
  obtain ⟨v, hv⟩ : ∃ v, v = prArg a := ⟨_, rfl⟩
  rw [← hv]
  obtain ⟨k, t, n⟩ := a
  unfold prArg at hv
  unfold vArg
  simp only at hv
  have htx : k = 2 → t.length ≤ 128 := by
    intro h
    unfold formedS at hf
    simp only at hf
    rw [if_neg (by omega), if_pos h] at hf
    unfold conS at hf
    simp only [Bool.and_eq_true, decide_eq_true_eq] at hf
    exact hf.2.1
  clear hf
  have hit := fun w (hL : LD w) => itoa_any n ha.2.1 ha.2.2 w hL
  have HIT := Lib.hid hit; have HL := Lib.hid hL; clear hit hL ha
  by_cases h3 : k = 3
  · rw [if_pos h3] at hv
    subst h3
    rw [← hv] at HIT
    clear hv htx
    go_enter Tryz.func101, Tryz.ntmps101
    go_wp2_with fail
    refine (HIT.out _ (HL.out.alloc _)).mono ?_
    rintro e w1 ⟨rfl, hb1⟩
    go_wp2_with fail
    go_ret
    exact ⟨rfl, next boxed hb1 (Nat.le_refl _)⟩
  · rw [if_neg h3] at hv
    have h3b : (k == 3) = false := by simpa using h3
    by_cases h2 : k = 2
    · rw [if_pos h2] at hv
      subst h2
      have HV := Lib.hid hv; clear hv h3
      have htl := htx rfl
      clear htx
      go_enter Tryz.func101, Tryz.ntmps101
      go_wp2_with fail
      go_ret
      exact ⟨ret_str (by rw [HV.out]; simp), boxed⟩
    · rw [if_neg h2] at hv
      have h2b : (k == 2) = false := by simpa using h2
      subst hv
      clear h2 h3 htx
      go_enter Tryz.func101, Tryz.ntmps101
      go_wp2_with fail
      go_ret
      exact ⟨rfl, boxed⟩

theorem join_any (A : Option Addr) (n c : Nat) (xs : List Bs) (w : World) (S : Nat → Prop) (hs : Sl w S A n c xs) (hN : xs.length ≤ 1000000) (hlen : (joinS xs).length ≤ 1000000000) :
    Calls Tryz.prog 102 #[.slice A n c, .string ⟨#[44, 32]⟩] w fun e w' => e = .returned (.string ⟨(joinS xs).toArray⟩) ∧ Below w.heap.size w w' := by
  have hn := hs.len
  subst hn
  cases xs with
  | nil =>
    refine (Tryz.strings_Join_none A c ⟨#[44, 32]⟩ w).mono ?_
    rintro e w' ⟨rfl, rfl⟩
    exact ⟨rfl, Below.refl _ _⟩
  | cons x r =>
    obtain ⟨b, o, rfl, -, hb, -⟩ := hs.str (k := 0) (by simp)
    have hm : ((x :: r).map fun t : Bs => (ByteArray.mk t.toArray)).map (·.data.toList) = x :: r := by simp [Function.comp_def]
    have hlj : Lib.join (((x :: r).map fun t : Bs => (ByteArray.mk t.toArray)).map (·.data.toList)) (ByteArray.mk #[44, 32]).data.toList = joinS (x :: r) := by rw [hm]; exact join_lib (x :: r)
    have h := Tryz.strings_Join b o c ((x :: r).map fun t : Bs => (ByteArray.mk t.toArray)) ⟨#[44, 32]⟩ w (fun j y hy => by
      rw [List.getElem?_map] at hy
      cases hj : (x :: r)[j]? with
      | none => rw [hj] at hy; cases hy
      | some z =>
        rw [hj] at hy
        injection hy with hy
        obtain ⟨hlt, hz⟩ := List.getElem?_eq_some_iff.1 hj
        obtain ⟨b', o', hA, -, -, hc⟩ := hs.str hlt
        injection hA with hA
        injection hA with h1 h2
        subst h1 h2
        rw [hc, ← hy, hz]) hb (by rw [List.length_map]; omega) (by rw [List.length_map]; exact hs.2.1) (by rw [hlj]; omega)
    rw [hlj] at h
    rw [List.length_map] at h
    exact h

set_option maxRecDepth 100000 in
set_option maxHeartbeats 4000000 in
theorem printAtom_any (x : Atm) (A : Option Addr) (n c : Nat) (w : World) (S : Nat → Prop) (hs : Sl w S A n c x.args) (ho : OkT x) (hL : LD w) (hf : atomS x = true) :
    Calls Tryz.prog 52 #[.agg #[.string ⟨x.name.toArray⟩, .slice A n c]] w fun e w' => e = .returned (.string ⟨(prAtom x).toArray⟩) ∧ Below w.heap.size w w' := by
  obtain ⟨v, hv⟩ : ∃ v, v = prAtom x := ⟨_, rfl⟩
  rw [← hv]
  have hp := atomS_parts hf
  obtain ⟨nm, args⟩ := x
  unfold prAtom at hv
  simp only at hs ho hp hv
  have hn := hs.len
  subst hn
  by_cases h0 : args.length = 0
  · rw [if_pos h0] at hv
    subst hv
    have h0b : ((args.length : Int) == 0) = true := by rw [beq_iff_eq]; omega
    clear hs ho hL hp hf h0
    go_enter Tryz.func52, Tryz.ntmps52
    go_wp2_with fail
    go_ret
    exact ⟨rfl, boxed⟩
  · rw [if_neg h0] at hv
    have h0b : ((args.length : Int) == 0) = false := by rw [beq_eq_false_iff_ne]; omega
    have hjl := join_len args hp.2.2
    have hal := hp.2.1
    have HV := Lib.hid hv; have HS := Lib.hid (hs.wide (S' := fun b => b < w.heap.size) (fun k hk _ => hk) (by decide)); have HO := Lib.hid ho.2; have HL := Lib.hid hL; have HJ := Lib.hid hjl; have HF := Lib.hid hp.2.2; have hnl := hp.1
    have hle := hs.le
    clear hv hs ho hL hp hf h0 hjl
    have hown0 : Own (w.alloc (.cells #[.string ⟨nm.toArray⟩, .slice A args.length c] 45)) (fun _ => False) (w.heap.size + 1) 9 none 0 ([] : List Bs) := Own.nil _ _ _ _
    have hmap0 : Hid (args.map prArg = [] ++ (args.drop 0).map prArg) := rfl
    go_enter Tryz.func52, Tryz.ntmps52
    go_wp2_with fail
    go_loopw [3, 15] (fun o i wx => ∃ k : Nat, k ≤ args.length ∧ i = .int .i64 k ∧ ∃ (out : List Bs) (B : Option Addr) (d : Nat), o = .slice B out.length d ∧ Own wx (fun _ => False) (w.heap.size + 1) 9 B d out ∧ Below (w.heap.size + 1) (w.alloc (.cells #[.string ⟨nm.toArray⟩, .slice A args.length c] 45)) wx ∧ out.length = k ∧ Hid (args.map prArg = out ++ (args.drop k).map prArg)) (fun _ i _ => args.length - (intOf i).toNat)
    case atStart => exact ⟨0, by omega, rfl, [], none, 0, rfl, hown0, Below.refl _ _, rfl, hmap0⟩
    case round =>
      obtain ⟨k, hk, rfl, out, B, d, rfl, hown, hb, hol, hm⟩ := hrel
      have hsz := hb.size
      simp at hsz
      by_cases hlt : k < args.length
      · obtain ⟨b, o, rfl, -, hbs, h1, h2, h3⟩ := ((HS.out.alloc (.cells #[.string ⟨nm.toArray⟩, .slice A args.length c] 45)).keep (w' := wr) (fun z hz hs => hb.block z (by omega))).arg hlt
        have hd := hm.out
        rw [drop_get hlt, List.map_cons] at hd
        have hpa := fun w hL => printArg_any args[k] w (HO.out _ (List.getElem_mem hlt)) hL (HF.out _ (List.getElem_mem hlt))
        generalize args[k] = a at *
        unfold vArg at hpa
        have hLr := ((HL.out.alloc (.cells #[.string ⟨nm.toArray⟩, .slice (some ⟨b, o, none⟩) args.length c] 45)).below (hb.mono (by simp)))
        have HD := Lib.hid hd; have HP := Lib.hid hpa; have HOW := Lib.hid hown; have HB := Lib.hid hb; have HLR := Lib.hid hLr; have HOL := Lib.hid hol
        clear hd hpa hown hb hLr hm hol
        go_wp2_with fail
        refine (HP.out _ (HLR.out.alloc _)).mono ?_
        rintro e w2 ⟨rfl, hb2⟩
        have hsz2 := hb2.size
        simp at hsz2
        have HO2 := Lib.hid ((HOW.out.alloc (.cells (argC a) 95)).below hb2)
        have HB2 := Lib.hid ((HB.out.alloc (by omega) (.cells (argC a) 95)).trans (hb2.mono (by simp; omega)))
        clear hb2
        have hout : out.length ≤ 1000000 := by have := HOL.out; omega
        go_wp2_with (first | (at_builtin; go_loud (refine wpList_app1 rfl _ _ eltStr rfl (by decide) rfl rfl rfl (HO2.out.alloc _) rfl [.string ⟨(prArg a).toArray⟩] (prArg a) (blkAt _ _ rfl) rfl rfl (by omega) (by omega) (by simp; omega) ?_); intro A' c' w3 hown' hg hat))
        have hsz3 := hg.size
        simp at hsz3
        refine ⟨⟨k + 1, by omega, by go_num, out ++ [prArg a], A', c', by simp, hown', (HB2.out.alloc (by omega) _).grown hg (by simp; omega) (fun z hz => (HO2.out.lt z hz).1), by simp [HOL.out], ?_⟩, by simp [intOf]; omega⟩
        show _ = _
        rw [HD.out, List.append_assoc]
        rfl
      · have hd := hm.out
        rw [drop_end hlt, List.map_nil, List.append_nil] at hd
        have hv := HV.out
        rw [hd] at hv
        have hj := HJ.out
        rw [hd] at hj
        have hja := fun w S (h : Sl w S B out.length d out) => join_any B out.length d out w S h (by omega) (by omega)
        have hjl : (joinS out).length ≤ 1000 := by omega
        have hc1 : ¬ 9223372036854775807 < nm.length + 1 := by omega
        have hc2 : ¬ 9223372036854775807 < nm.length + 1 + (joinS out).length := by omega
        have hc3 : ¬ 9223372036854775807 < nm.length + 1 + (joinS out).length + 1 := by omega
        have hc4 : ¬ 9223372036854775807 < nm.length + ((joinS out).length + 1) := by omega
        have hc5 : ¬ 9223372036854775807 < nm.length + ((joinS out).length + 1) + 1 := by omega
        have hc6 : ¬ 9223372036854775807 < nm.length + ((joinS out).length + 1 + 1) := by omega
        have hbk := (hb.block w.heap.size (by omega)).trans (blkAt w (.cells #[.string ⟨nm.toArray⟩, .slice A args.length c] 45) rfl)
        have HV2 := Lib.hid hv; have HJA := Lib.hid hja; have HOW := Lib.hid hown; have HB := Lib.hid hb; have HBK := Lib.hid hbk
        clear hv hj hja hown hb hbk hd hm hol
        go_wp2_with fail
        refine wpH_region (fun x => Below wr.heap.size wr x) (by kernel_rfl) ?_
        have hS : Below wr.heap.size wr wr.drew := (Below.refl _ _).drew
        have HX := Lib.hid (fun (x : World) (hx : Below wr.heap.size wr x) => (cell_blk (keptBlk hx HBK.out) 0).trans rfl)
        (refine wpAnyH_takeW 0 rfl rfl (by kernel_rfl) (by kernel_rfl) (by kernel_rfl) (fun _ _ _ h => h) (v := ?_) (by kernel_rfl) hS ?_ ?_; rotate_left; (focus (intro x hx; have fx := HX.out x hx; go_simp; (try with_reducible rfl); done)); (try simp only [Act.put, List.setIfInBounds_toArray, List.set_cons_zero, List.set_cons_succ]))
        (refine wpAnyH_takeW 1 rfl rfl (by kernel_rfl) (by kernel_rfl) (by kernel_rfl) (fun _ _ _ h => h) (v := ?_) (by kernel_rfl) hS ?_ ?_; rotate_left; (focus (intro x hx; have fx := HX.out x hx; go_simp; (try with_reducible rfl); done)); (try simp only [Act.put, List.setIfInBounds_toArray, List.set_cons_zero, List.set_cons_succ]))
        (refine wpAnyH_takeW 2 rfl rfl (by kernel_rfl) (by kernel_rfl) (by kernel_rfl) (fun _ _ _ h => h) (v := ?_) (by kernel_rfl) hS ?_ ?_; rotate_left; (focus (intro x hx; have fx := HX.out x hx; go_simp; (try with_reducible rfl); done)); (try simp only [Act.put, List.setIfInBounds_toArray, List.set_cons_zero, List.set_cons_succ]))
        (refine wpAnyH_takeW 3 rfl rfl (by kernel_rfl) (by kernel_rfl) (by kernel_rfl) (fun _ _ _ h => h) (v := ?_) (by kernel_rfl) hS ?_ ?_; rotate_left; (focus (intro x hx; have fx := HX.out x hx; go_simp; (try with_reducible rfl); done)); (try simp only [Act.put, List.setIfInBounds_toArray, List.set_cons_zero, List.set_cons_succ]))
        (refine wpAnyH_one 4 (by kernel_rfl) rfl ?_; intro K' hK'; go_simp; refine (HJA.out _ _ ((HOW.out.below hS).sl (by decide))).mono ?_; rintro e w5 ⟨rfl, hb5⟩; have hS := hS.trans (hb5.mono hS.size); refine hK'.out _ _ hS ?_; clear hK' K')
        (refine wpAnyH_takeW 5 rfl rfl (by kernel_rfl) (by kernel_rfl) (by kernel_rfl) (fun _ _ _ h => h) (v := ?_) (by kernel_rfl) hS ?_ ?_; rotate_left; (focus (intro x hx; have fx := HX.out x hx; go_simp; (try with_reducible rfl); done)); (try simp only [Act.put, List.setIfInBounds_toArray, List.set_cons_zero, List.set_cons_succ]))
        (refine wpAnyH_takeW 6 rfl rfl (by kernel_rfl) (by kernel_rfl) (by kernel_rfl) (fun _ _ _ h => h) (v := ?_) (by kernel_rfl) hS ?_ ?_; rotate_left; (focus (intro x hx; have fx := HX.out x hx; go_simp; (try with_reducible rfl); done)); (try simp only [Act.put, List.setIfInBounds_toArray, List.set_cons_zero, List.set_cons_succ]))
        (refine wpAnyH_takeW 7 rfl rfl (by kernel_rfl) (by kernel_rfl) (by kernel_rfl) (fun _ _ _ h => h) (v := ?_) (by kernel_rfl) hS ?_ ?_; rotate_left; (focus (intro x hx; have fx := HX.out x hx; go_simp; (try with_reducible rfl); done)); (try simp only [Act.put, List.setIfInBounds_toArray, List.set_cons_zero, List.set_cons_succ]))
        refine wpAnyH_done (by kernel_rfl) ?_ _
        go_wp2_with fail
        go_ret
        exact ⟨ret_str (by rw [HV2.out]; simp), boxed.trans ((HB.out.mono (by omega)).trans (hS.mono (by omega)))⟩

set_option maxRecDepth 100000 in
set_option maxHeartbeats 4000000 in
theorem printLiteral_any (x : Ltl) (A : Option Addr) (n c : Nat) (w : World) (S : Nat → Prop) (hs : Sl w S A n c x.atom.args) (ho : OkL x) (hL : LD w) (hf : ltlS x = true) :
    Calls Tryz.prog 53 #[.agg #[.bool x.neg, .string ⟨x.op.toArray⟩, .string ⟨x.atom.name.toArray⟩, .slice A n c]] w fun e w' => e = .returned (.string ⟨(prLtl x).toArray⟩) ∧ Below w.heap.size w w' := by
  obtain ⟨v, hv⟩ : ∃ v, v = prLtl x := ⟨_, rfl⟩
  rw [← hv]
  have hcm := fun w => compares_any x A n c w
  have hla := fun hc => ltl_argsP hf hc
  have hat : compsS x = false → atomS x.atom = true := by
    intro h
    unfold ltlS at hf
    rw [h] at hf
    exact hf
  unfold prLtl at hv
  have hpa := fun w S (h : Sl w S A n c x.atom.args) hL hq => printAtom_any x.atom A n c w S h ho.2 hL hq
  have hpl := fun hq => prAtom_len (a := x.atom) hq
  have hok := ho.2.2
  generalize compsS x = cb at *
  obtain ⟨neg, op, ⟨nm, args⟩⟩ := x
  simp only at hs hcm hla hat hv hpa hpl hok ⊢
  have HCM := Lib.hid hcm; have HPA := Lib.hid hpa; have HS := Lib.hid (hs.wide (S' := fun b => b < w.heap.size) (fun k hk _ => hk) (by decide)); have HL := Lib.hid hL; have HOK := Lib.hid hok
  have hn := hs.len
  clear hcm hpa hs hL hok ho hf
  subst hn
  cases cb
  · simp only [Bool.false_eq_true, if_false] at hv
    have hat2 := hat rfl
    have hal := hpl hat2
    cases neg
    · (try simp only [Bool.false_eq_true, if_false] at hv)
      generalize prAtom ⟨nm, args⟩ = pa at *
      subst hv
      have HA2 := Lib.hid hat2
      clear hla hat hpl hat2
      go_enter Tryz.func53, Tryz.ntmps53
      go_wp2_with fail
      refine (HCM.out _).mono ?_
      rintro e w1 ⟨rfl, hb1⟩
      have hB := keptBlk hb1 (blkAt w (.cells #[.bool false, .string ⟨op.toArray⟩, .string ⟨nm.toArray⟩, .slice A args.length c] 54) rfl)
      have k0 := (cell_blk hB 0).trans rfl; have k2 := (cell_blk hB 2).trans rfl; have k3 := (cell_blk hB 3).trans rfl
      have HB1 := Lib.hid (next boxed hb1 (Nat.le_refl _)); clear hb1 hB
      go_wp2_with fail
      refine (HPA.out _ _ (HS.out.below HB1.out) (HL.out.below HB1.out) HA2.out).mono ?_
      rintro e w2 ⟨rfl, hb2⟩
      go_wp2_with fail
      go_ret
      exact ⟨rfl, next HB1.out hb2 (Nat.le_refl _)⟩
    · (try simp only [if_true] at hv)
      generalize prAtom ⟨nm, args⟩ = pa at *
      have HA2 := Lib.hid hat2; have HV := Lib.hid hv
      clear hla hat hpl hat2 hv
      go_enter Tryz.func53, Tryz.ntmps53
      go_wp2_with fail
      refine (HCM.out _).mono ?_
      rintro e w1 ⟨rfl, hb1⟩
      have hB := keptBlk hb1 (blkAt w (.cells #[.bool true, .string ⟨op.toArray⟩, .string ⟨nm.toArray⟩, .slice A args.length c] 54) rfl)
      have k0 := (cell_blk hB 0).trans rfl; have k2 := (cell_blk hB 2).trans rfl; have k3 := (cell_blk hB 3).trans rfl
      have HB1 := Lib.hid (next boxed hb1 (Nat.le_refl _)); clear hb1 hB
      go_wp2_with fail
      refine (HPA.out _ _ (HS.out.below HB1.out) (HL.out.below HB1.out) HA2.out).mono ?_
      rintro e w2 ⟨rfl, hb2⟩
      go_wp2_with fail
      go_ret
      exact ⟨ret_str (by rw [HV.out]; rfl), next HB1.out hb2 (Nat.le_refl _)⟩
  · simp only [if_true] at hv
    have hq := hla rfl
    obtain ⟨hop, hal, haf⟩ := hq
    obtain ⟨a1, a2, rfl⟩ : ∃ a1 a2, args = [a1, a2] := by
      match args, hal with
      | [a, b], _ => exact ⟨a, b, rfl⟩
    have hv : v = prArg a1 ++ [32] ++ op ++ [32] ++ prArg a2 := hv
    rw [show ([a1, a2] : List Arg).length = 2 from rfl] at HCM HS ⊢
    obtain ⟨b, o, rfl, hbl, -, h1, h2, h3⟩ := HS.out.arg (k := 0) (by simp)
    obtain ⟨b', o', hA, -, -, g1, g2, g3⟩ := HS.out.arg (k := 1) (by simp)
    injection hA with hA
    injection hA with e1 e2
    subst e1 e2
    simp only [List.getElem_cons_zero, List.getElem_cons_succ, Nat.zero_mul, Nat.add_zero, Nat.one_mul] at h1 h2 h3 g1 g2 g3
    have hp1 := fun w hL => printArg_any a1 w (HOK.out _ (by simp)) hL (haf _ (by simp))
    have hp2 := fun w hL => printArg_any a2 w (HOK.out _ (by simp)) hL (haf _ (by simp))
    have hl1 := prArg_len (haf a1 (by simp))
    have hl2 := prArg_len (haf a2 (by simp))
    unfold vArg at hp1 hp2
    generalize prArg a1 = p1 at *
    generalize prArg a2 = p2 at *
    have HP1 := Lib.hid hp1; have HP2 := Lib.hid hp2; have HV := Lib.hid hv
    have HC := Lib.hid (fun (x : World) (hx : Below w.heap.size w x) => (⟨cell_later hx h1, cell_later hx h2, cell_later hx h3, cell_later hx g1, cell_later hx g2, cell_later hx g3⟩ : x.cell? ⟨b, o, none⟩ = some (.int .i64 a1.kind) ∧ x.cell? ⟨b, o + 1, none⟩ = some (.string ⟨a1.text.toArray⟩) ∧ x.cell? ⟨b, o + 2, none⟩ = some (.int .i64 a1.num) ∧ x.cell? ⟨b, o + 3, none⟩ = some (.int .i64 a2.kind) ∧ x.cell? ⟨b, o + 3 + 1, none⟩ = some (.string ⟨a2.text.toArray⟩) ∧ x.cell? ⟨b, o + 3 + 2, none⟩ = some (.int .i64 a2.num)))
    clear hp1 hp2 hv h1 h2 h3 g1 g2 g3 hla hat hpl haf HPA HOK HS hal
    go_enter Tryz.func53, Tryz.ntmps53
    go_wp2_with fail
    refine (HCM.out _).mono ?_
    rintro e w1 ⟨rfl, hb1⟩
    have hB := keptBlk hb1 (blkAt w (.cells #[.bool neg, .string ⟨op.toArray⟩, .string ⟨nm.toArray⟩, .slice (some ⟨b, o, none⟩) 2 c] 54) rfl)
    have HBB := Lib.hid hB
    have HB1 := Lib.hid (next boxed hb1 (Nat.le_refl _)); clear hb1 hB
    go_wp2_with fail
    refine wpH_region (fun x => Below w1.heap.size w1 x) (by kernel_rfl) ?_
    have hS : Below w1.heap.size w1 w1.drew := (Below.refl _ _).drew
    have HX := Lib.hid (fun (x : World) (hx : Below w1.heap.size w1 x) => And.intro ((cell_blk (keptBlk hx HBB.out) 1).trans rfl) (And.intro ((cell_blk (keptBlk hx HBB.out) 3).trans rfl) (HC.out x (HB1.out.trans (hx.mono HB1.out.size)))))
    (refine wpAnyH_takeW 0 rfl rfl (by kernel_rfl) (by kernel_rfl) (by kernel_rfl) (fun _ _ _ h => h) (v := ?_) (by kernel_rfl) hS ?_ ?_; rotate_left; (focus (intro x hx; have fx := HX.out x hx; go_simp; (try with_reducible rfl); done)); (try simp only [Act.put, List.setIfInBounds_toArray, List.set_cons_zero, List.set_cons_succ]))
    (refine wpAnyH_takeW 1 rfl rfl (by kernel_rfl) (by kernel_rfl) (by kernel_rfl) (fun _ _ _ h => h) (v := ?_) (by kernel_rfl) hS ?_ ?_; rotate_left; (focus (intro x hx; have fx := HX.out x hx; go_simp; (try with_reducible rfl); done)); (try simp only [Act.put, List.setIfInBounds_toArray, List.set_cons_zero, List.set_cons_succ]))
    (refine wpAnyH_takeW 2 rfl rfl (by kernel_rfl) (by kernel_rfl) (by kernel_rfl) (fun _ _ _ h => h) (v := ?_) (by kernel_rfl) hS ?_ ?_; rotate_left; (focus (intro x hx; have fx := HX.out x hx; go_simp; (try with_reducible rfl); done)); (try simp only [Act.put, List.setIfInBounds_toArray, List.set_cons_zero, List.set_cons_succ]))
    (refine wpAnyH_takeW 3 rfl rfl (by kernel_rfl) (by kernel_rfl) (by kernel_rfl) (fun _ _ _ h => h) (v := ?_) (by kernel_rfl) hS ?_ ?_; rotate_left; (focus (intro x hx; have fx := HX.out x hx; go_simp; (try with_reducible rfl); done)); (try simp only [Act.put, List.setIfInBounds_toArray, List.set_cons_zero, List.set_cons_succ]))
    (refine wpAnyH_takeW 4 rfl rfl (by kernel_rfl) (by kernel_rfl) (by kernel_rfl) (fun _ _ _ h => h) (v := ?_) (by kernel_rfl) hS ?_ ?_; rotate_left; (focus (intro x hx; have fx := HX.out x hx; go_simp; (try with_reducible rfl); done)); (try simp only [Act.put, List.setIfInBounds_toArray, List.set_cons_zero, List.set_cons_succ]))
    (refine wpAnyH_takeW 7 rfl rfl (by kernel_rfl) (by kernel_rfl) (by kernel_rfl) (fun _ _ _ h => h) (v := ?_) (by kernel_rfl) hS ?_ ?_; rotate_left; (focus (intro x hx; have fx := HX.out x hx; go_simp; (try with_reducible rfl); done)); (try simp only [Act.put, List.setIfInBounds_toArray, List.set_cons_zero, List.set_cons_succ]))
    (refine wpAnyH_takeW 8 rfl rfl (by kernel_rfl) (by kernel_rfl) (by kernel_rfl) (fun _ _ _ h => h) (v := ?_) (by kernel_rfl) hS ?_ ?_; rotate_left; (focus (intro x hx; have fx := HX.out x hx; go_simp; (try with_reducible rfl); done)); (try simp only [Act.put, List.setIfInBounds_toArray, List.set_cons_zero, List.set_cons_succ]))
    (refine wpAnyH_takeW 11 rfl rfl (by kernel_rfl) (by kernel_rfl) (by kernel_rfl) (fun _ _ _ h => h) (v := ?_) (by kernel_rfl) hS ?_ ?_; rotate_left; (focus (intro x hx; have fx := HX.out x hx; go_simp; (try with_reducible rfl); done)); (try simp only [Act.put, List.setIfInBounds_toArray, List.set_cons_zero, List.set_cons_succ]))
    (refine wpAnyH_takeW 12 rfl rfl (by kernel_rfl) (by kernel_rfl) (by kernel_rfl) (fun _ _ _ h => h) (v := ?_) (by kernel_rfl) hS ?_ ?_; rotate_left; (focus (intro x hx; have fx := HX.out x hx; go_simp; (try with_reducible rfl); done)); (try simp only [Act.put, List.setIfInBounds_toArray, List.set_cons_zero, List.set_cons_succ]))
    (refine wpAnyH_takeW 13 rfl rfl (by kernel_rfl) (by kernel_rfl) (by kernel_rfl) (fun _ _ _ h => h) (v := ?_) (by kernel_rfl) hS ?_ ?_; rotate_left; (focus (intro x hx; have fx := HX.out x hx; go_simp; (try with_reducible rfl); done)); (try simp only [Act.put, List.setIfInBounds_toArray, List.set_cons_zero, List.set_cons_succ]))
    (refine wpAnyH_takeW 14 rfl rfl (by kernel_rfl) (by kernel_rfl) (by kernel_rfl) (fun _ _ _ h => h) (v := ?_) (by kernel_rfl) hS ?_ ?_; rotate_left; (focus (intro x hx; have fx := HX.out x hx; go_simp; (try with_reducible rfl); done)); (try simp only [Act.put, List.setIfInBounds_toArray, List.set_cons_zero, List.set_cons_succ]))
    (refine wpAnyH_takeW 15 rfl rfl (by kernel_rfl) (by kernel_rfl) (by kernel_rfl) (fun _ _ _ h => h) (v := ?_) (by kernel_rfl) hS ?_ ?_; rotate_left; (focus (intro x hx; have fx := HX.out x hx; go_simp; (try with_reducible rfl); done)); (try simp only [Act.put, List.setIfInBounds_toArray, List.set_cons_zero, List.set_cons_succ]))
    have hc1 : ¬ 9223372036854775807 < p1.length + 1 := by omega
    have hc2 : ¬ 9223372036854775807 < p1.length + 1 + op.length := by omega
    have hc3 : ¬ 9223372036854775807 < p1.length + (op.length + 1) := by omega
    have hc4 : ¬ 9223372036854775807 < p1.length + (op.length + 1) + 1 := by omega
    have hc5 : ¬ 9223372036854775807 < p1.length + (op.length + 1 + 1) := by omega
    have hc6 : ¬ 9223372036854775807 < p1.length + (op.length + 1 + 1) + p2.length := by omega
    have hc7 : ¬ 9223372036854775807 < p1.length + (op.length + (p2.length + 1) + 1) := by omega
    (refine wpAnyH_one 5 (by kernel_rfl) rfl ?_; intro K' hK'; go_simp; refine (HP1.out _ (HL.out.below (HB1.out.trans (hS.mono HB1.out.size)))).mono ?_; rintro e w5 ⟨rfl, hb5⟩; have hS := hS.trans (hb5.mono hS.size); refine hK'.out _ _ hS ?_; clear hK' K')
    (refine wpAnyH_takeW 6 rfl rfl (by kernel_rfl) (by kernel_rfl) (by kernel_rfl) (fun _ _ _ h => h) (v := ?_) (by kernel_rfl) hS ?_ ?_; rotate_left; (focus (intro x hx; have fx := HX.out x hx; go_simp; (try with_reducible rfl); done)); (try simp only [Act.put, List.setIfInBounds_toArray, List.set_cons_zero, List.set_cons_succ]))
    (refine wpAnyH_takeW 9 rfl rfl (by kernel_rfl) (by kernel_rfl) (by kernel_rfl) (fun _ _ _ h => h) (v := ?_) (by kernel_rfl) hS ?_ ?_; rotate_left; (focus (intro x hx; have fx := HX.out x hx; go_simp; (try with_reducible rfl); done)); (try simp only [Act.put, List.setIfInBounds_toArray, List.set_cons_zero, List.set_cons_succ]))
    (refine wpAnyH_takeW 10 rfl rfl (by kernel_rfl) (by kernel_rfl) (by kernel_rfl) (fun _ _ _ h => h) (v := ?_) (by kernel_rfl) hS ?_ ?_; rotate_left; (focus (intro x hx; have fx := HX.out x hx; go_simp; (try with_reducible rfl); done)); (try simp only [Act.put, List.setIfInBounds_toArray, List.set_cons_zero, List.set_cons_succ]))
    (refine wpAnyH_one 16 (by kernel_rfl) rfl ?_; intro K' hK'; go_simp; refine (HP2.out _ (HL.out.below (HB1.out.trans (hS.mono HB1.out.size)))).mono ?_; rintro e w6 ⟨rfl, hb6⟩; have hS := hS.trans (hb6.mono hS.size); refine hK'.out _ _ hS ?_; clear hK' K')
    (refine wpAnyH_takeW 17 rfl rfl (by kernel_rfl) (by kernel_rfl) (by kernel_rfl) (fun _ _ _ h => h) (v := ?_) (by kernel_rfl) hS ?_ ?_; rotate_left; (focus (intro x hx; have fx := HX.out x hx; go_simp; (try with_reducible rfl); done)); (try simp only [Act.put, List.setIfInBounds_toArray, List.set_cons_zero, List.set_cons_succ]))
    (refine wpAnyH_takeW 18 rfl rfl (by kernel_rfl) (by kernel_rfl) (by kernel_rfl) (fun _ _ _ h => h) (v := ?_) (by kernel_rfl) hS ?_ ?_; rotate_left; (focus (intro x hx; have fx := HX.out x hx; go_simp; (try with_reducible rfl); done)); (try simp only [Act.put, List.setIfInBounds_toArray, List.set_cons_zero, List.set_cons_succ]))
    refine wpAnyH_done (by kernel_rfl) ?_ _
    go_wp2_with fail
    go_ret
    exact ⟨ret_str (by rw [HV.out]; simp), HB1.out.trans (hS.mono HB1.out.size)⟩

set_option maxHeartbeats 1000000 in
theorem PrintAtom_any (x : Atm) (A : Option Addr) (n c : Nat) (w : World) (S : Nat → Prop) (hs : Sl w S A n c x.args) (ho : OkT x) (hL : LD w) :
    Calls Tryz.prog 32 #[.agg #[.string ⟨x.name.toArray⟩, .slice A n c]] w fun e w' => e = .returned (.tuple #[.string ⟨(printAtomS x).1.toArray⟩, .int .i64 (printAtomS x).2]) ∧ Below w.heap.size w w' := by
  obtain ⟨v, hv⟩ : ∃ v, v = printAtomS x := ⟨_, rfl⟩
  rw [← hv]
  unfold printAtomS at hv
  have hfa := fun w S (h : Sl w S A n c x.args) => formedAtom_any x A n c w S h ho
  have hpa := fun w S (h : Sl w S A n c x.args) hL hq => printAtom_any x A n c w S h ho hL hq
  obtain ⟨nm, args⟩ := x
  simp only at hs hfa hpa ⊢
  cases hq : atomS ⟨nm, args⟩
  · rw [hq] at hfa hv
    have HFA := Lib.hid hfa; have HS := Lib.hid (hs.wide (S' := fun b => b < w.heap.size) (fun k hk _ => hk) (by decide)); have HV := Lib.hid hv
    clear hfa hpa hs hv hq ho hL
    go_enter Tryz.func32, Tryz.ntmps32
    go_wp2_with fail
    refine (HFA.out _ _ (HS.out.alloc _)).mono ?_
    rintro e w1 ⟨rfl, hb1⟩
    go_wp2_with fail
    go_ret2
    exact ⟨by rw [HV.out]; rfl, next boxed hb1 (Nat.le_refl _)⟩
  · rw [hq] at hfa hv
    have hpa2 := fun w S h hL => hpa w S h hL hq
    have HFA := Lib.hid hfa; have HPA := Lib.hid hpa2; have HL := Lib.hid hL; have HS := Lib.hid (hs.wide (S' := fun b => b < w.heap.size) (fun k hk _ => hk) (by decide)); have HV := Lib.hid hv
    clear hfa hpa hpa2 hs hv hq ho hL
    go_enter Tryz.func32, Tryz.ntmps32
    go_wp2_with fail
    refine (HFA.out _ _ (HS.out.alloc _)).mono ?_
    rintro e w1 ⟨rfl, hb1⟩
    have hB := keptBlk hb1 (blkAt w (.cells #[.string ⟨nm.toArray⟩, .slice A n c] 45) rfl)
    have k0 := (cell_blk hB 0).trans rfl; have k1 := (cell_blk hB 1).trans rfl
    have HB1 := Lib.hid (next boxed hb1 (Nat.le_refl _)); clear hb1 hB
    go_wp2_with fail
    refine (HPA.out _ _ (HS.out.below HB1.out) (HL.out.below HB1.out)).mono ?_
    rintro e w2 ⟨rfl, hb2⟩
    go_wp2_with fail
    go_ret2
    exact ⟨by rw [HV.out]; rfl, next HB1.out hb2 (Nat.le_refl _)⟩
end Go.Proofs.YtjopmgoacncmgaaGreatDoor
