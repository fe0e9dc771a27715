/- Rules, reference: decimal, printed, atom, PrintAtom. -/
import Derived.Test.YtjopmgoacncmgaaGreatDoorKW6
import Derived.Test.YtjopmgoacncmgaaGreatDoorRfSpl
import Derived.Laws.IdiomStrings
set_option linter.unusedVariables false
set_option linter.unusedSimpArgs false
namespace Go.Proofs.YtjopmgoacncmgaaGreatDoor
open Go.RowKit
attribute [local go_sem ↓] Go.wp_at_zero Go.wp_at_succ

theorem conv1 (w : World) (b c : Nat) (m : Int) (x : UInt8) (hx : (x.toNat : Int) = m) (h : w.cell? ⟨b, 0, none⟩ = some (.int .u8 m)) : (convert 83 9 (.slice (some ⟨b, 0, none⟩) 1 c)).run Tryz.prog w = .ok (.string ⟨[x].toArray⟩) w :=
  run_convert_bytes_back w _ _ _ ⟨b, 0, none⟩ c [x] Tryz.underlying83 Tryz.underlying5 Tryz.underlying9 (fun j hj => by
    obtain rfl : j = 0 := by simpa using hj
    rw [add_plain]
    simpa [hx] using h)
theorem digit_u8 (n : Nat) (h : n < 10) : ((48 + n).toUInt8.toNat : Int) = 48 + n := by
  have : n = 0 ∨ n = 1 ∨ n = 2 ∨ n = 3 ∨ n = 4 ∨ n = 5 ∨ n = 6 ∨ n = 7 ∨ n = 8 ∨ n = 9 := by omega
  rcases this with rfl | rfl | rfl | rfl | rfl | rfl | rfl | rfl | rfl | rfl <;> rfl

set_option maxRecDepth 100000 in
set_option maxHeartbeats 1000000 in
theorem rdec_one (n : Nat) (h : n < 10) (w : World) :
    Calls Tryz.prog 105 #[.int .i64 n] w fun e w' => e = .returned (.string ⟨[(48 + n).toUInt8].toArray⟩) ∧ Below w.heap.size w w' := by
  have hd := digit_u8 n h
  have hcv := conv1 (w.alloc (.cells #[.int .u8 (48 + (n : Int))] 5)) w.heap.size 1 _ _ hd ((cell_blk (blkAt w _ rfl) 0).trans rfl)
  generalize [(48 + n).toUInt8] = D at *
  have hn1 : (n : Int) < 10 := by omega
  have hn0 : ¬ ((n : Int) < 0) := by omega
  have hq3 : IntKind.i64.wrap (48 + (n : Int)) = 48 + (n : Int) := by simp [IntKind.wrap, IntKind.signed, IntKind.bits]; omega
  have hq4 : IntKind.u8.wrap (48 + (n : Int)) = 48 + (n : Int) := by simp [IntKind.wrap, IntKind.signed, IntKind.bits]; omega
  clear hd h
  go_enter Tryz.func105, Tryz.ntmps105
  go_wp2
  go_ret
  exact ⟨rfl, boxed⟩

theorem natDig_small (k n : Nat) (h : n < 10) : natDig (k + 1) n = [(48 + n).toUInt8] := by rw [natDig, if_pos h]
set_option maxRecDepth 100000 in
set_option maxHeartbeats 1000000 in
theorem rdec_any (k n : Nat) (h : n < 10 ^ (k + 1)) (w : World) (hn63 : n ≤ 9223372036854775807) (hk9 : k ≤ 30) :
    Calls Tryz.prog 105 #[.int .i64 n] w fun e w' => e = .returned (.string ⟨(natDig (k + 1) n).toArray⟩) ∧ Below w.heap.size w w' := by
  induction k generalizing n w with
  | zero =>
    have h' : n < 10 := h
    rw [natDig_small 0 n h']
    exact rdec_one n h' w
  | succ k ih =>
    by_cases hs : n < 10
    · rw [natDig_small _ n hs]
      exact rdec_one n hs w
    · have h1 := fun w => ih (n / 10) (by rw [Nat.pow_succ] at h; omega) w (by omega) (by omega)
      have h2 := fun w => rdec_one (n % 10) (by omega) w
      have hd : natDig (k + 1 + 1) n = natDig (k + 1) (n / 10) ++ [(48 + n % 10).toUInt8] := by rw [natDig, if_neg hs]
      rw [hd]
      have hs' : ¬ ((n : Int) < 10) := by omega
      have hs0 : ¬ ((n : Int) < 0) := by omega
      have hdi : ((n / 10 : Nat) : Int) = (n : Int) / 10 := by omega
      have hmo : ((n % 10 : Nat) : Int) = (n : Int) % 10 := by omega
      rw [hdi] at h1
      rw [hmo] at h2
      have ha := natDig_lenP (k + 1) (n / 10)
      have hb : [(48 + n % 10).toUInt8].length = 1 := rfl
      generalize natDig (k + 1) (n / 10) = a at *
      generalize [(48 + n % 10).toUInt8] = b at *
      have hab : ¬ (9223372036854775807 < a.length + b.length) := by omega
      have hm0 : 0 ≤ (n : Int) % 10 := by omega
      have hm1 : (n : Int) % 10 ≤ 9 := by omega
      have hn0 : 0 ≤ (n : Int) := by omega
      have hq1 : IntKind.i64.wrap ((n : Int) / 10) = (n : Int) / 10 := by simp [IntKind.wrap, IntKind.signed, IntKind.bits]; omega
      have hq0 : (n : Int).tdiv 10 = (n : Int) / 10 := Int.tdiv_eq_ediv_of_nonneg hn0
      have hq2 : (n : Int).tmod 10 = (n : Int) % 10 := Int.tmod_eq_emod_of_nonneg hn0
      have hq3 : IntKind.i64.wrap ((n : Int) % 10) = (n : Int) % 10 := by simp [IntKind.wrap, IntKind.signed, IntKind.bits]; omega
      have H1 := Lib.hid h1; have H2 := Lib.hid h2
      clear ih h hd hdi hmo h1 h2
      go_enter Tryz.func105, Tryz.ntmps105
      go_wp2_with fail
      refine (H1.out _).mono ?_
      rintro e w1 ⟨rfl, hb1⟩
      go_wp2_with fail
      refine (H2.out _).mono ?_
      rintro e w2 ⟨rfl, hb2⟩
      go_wp2_with fail
      go_ret
      exact ⟨rfl, hb1.trans (hb2.mono hb1.size)⟩
set_option maxRecDepth 100000 in
set_option maxHeartbeats 1000000 in
theorem rdecI_any (v : Int) (w : World) (h0 : -9223372036854775807 ≤ v) (h1 : v ≤ 9223372036854775807) :
    Calls Tryz.prog 105 #[.int .i64 v] w fun e w' => e = .returned (.string ⟨(itoaS v).toArray⟩) ∧ Below w.heap.size w w' := by
  obtain ⟨n, hn⟩ : ∃ n, n = v.natAbs := ⟨_, rfl⟩
  have hd := fun w => rdec_any 19 n (by omega) w (by omega) (by omega)
  unfold itoaS
  rw [← hn]
  have ha := natDig_lenP 20 n
  simp only [Nat.reduceAdd] at hd
  generalize natDig 20 n = a at *
  by_cases hneg : v < 0
  · rw [if_pos hneg]
    have e : (n : Int) = -v := by omega
    rw [e] at hd
    have hq : IntKind.i64.wrap (-v) = -v := by simp [IntKind.wrap, IntKind.signed, IntKind.bits]; omega
    have hab : ¬ (9223372036854775807 < 1 + a.length) := by omega
    have H1 := Lib.hid hd; clear hd e hn
    go_enter Tryz.func105, Tryz.ntmps105
    go_wp2_with fail
    refine (H1.out _).mono ?_
    rintro e w1 ⟨rfl, hb1⟩
    go_wp2_with fail
    go_ret
    exact ⟨rfl, hb1⟩
  · rw [if_neg hneg]
    have e : (n : Int) = v := by omega
    rw [e] at hd
    exact hd w

set_option maxRecDepth 100000 in
set_option maxHeartbeats 1000000 in
theorem rprinted_any (a : Arg) (w : World) (hf : formedS a = true) :
    Calls Tryz.prog 57 #[vArg a] w fun e w' => e = .returned (.string ⟨(prArg a).toArray⟩) ∧ Below w.heap.size w w' := by
  have hl := prArg_len hf
  obtain ⟨v, hv⟩ : ∃ v, v = prArg a := ⟨_, rfl⟩
  rw [← hv] at hl ⊢
  obtain ⟨k, t, n⟩ := a
  unfold prArg at hv
  unfold formedS at hf
  unfold vArg
  simp only at hv hf ⊢
  by_cases k1 : k = 1
  · subst k1
    have HV := Lib.hid (show v = t by rw [hv]; simp)
    clear hv hf
    go_enter Tryz.func57, Tryz.ntmps57
    go_wp2_with fail
    go_ret
    exact ⟨ret_str HV.out, boxed⟩
  · have k1b : (k == 1) = false := by simpa using k1
    by_cases k2 : k = 2
    · subst k2
      have hv2 : v = [34] ++ t ++ [34] := by rw [hv]; simp
      have ht : t.length ≤ 130 := by rw [hv2] at hl; simp at hl; omega
      have q1 : ¬ (9223372036854775807 < 1 + t.length) := by omega
      have q2 : ¬ (9223372036854775807 < t.length + 1 + 1) := by omega
      have HV := Lib.hid hv2
      clear hv hf hv2
      go_enter Tryz.func57, Tryz.ntmps57
      go_wp2_with fail
      go_ret
      exact ⟨ret_str HV.out, boxed⟩
    · have k2b : (k == 2) = false := by simpa using k2
      by_cases k3 : k = 3
      · subst k3
        simp at hf
        have hd := fun w => rdecI_any n w (by omega) (by omega)
        have hv2 : v = itoaS n := by rw [hv]; simp
        rw [← hv2] at hd
        have H1 := Lib.hid hd; clear hd hv hf hv2
        go_enter Tryz.func57, Tryz.ntmps57
        go_wp2_with fail
        refine (H1.out _).mono ?_
        rintro e w1 ⟨rfl, hb1⟩
        go_wp2_with fail
        go_ret
        exact ⟨rfl, boxed.trans (hb1.mono (by simp))⟩
      · simp [k1, k2, k3] at hf

set_option maxRecDepth 100000 in
set_option maxHeartbeats 2000000 in
theorem ratomP_any (x : Atm) (A : Option Addr) (n c : Nat) (w : World) (S : Nat → Prop) (hs : Sl w S A n c x.args) (hf : atomS x = true) :
    Calls Tryz.prog 56 #[.agg #[.string ⟨x.name.toArray⟩, .slice A n c]] w fun e w' => e = .returned (.string ⟨(prAtom x).toArray⟩) ∧ Below w.heap.size w w' := by
  obtain ⟨p1, p2, p3⟩ := atomS_parts hf
  rw [← rpr_atom]
  obtain ⟨v, hv⟩ : ∃ v, v = rprAtom x := ⟨_, rfl⟩
  rw [← hv]
  unfold rprAtom at hv
  have hn := hs.len
  subst hn
  have hle := hs.le
  obtain ⟨nm, args⟩ := x
  simp only at *
  obtain ⟨P, hP⟩ : ∃ P, P = rprGo nm args true := ⟨_, rfl⟩
  rw [← hP] at hv
  have HP0 : Hid (P = rprGo nm (args.drop 0) (decide (0 = 0))) := hP
  have HV := Lib.hid hv; have HF := Lib.hid p3; have HS := Lib.hid hs
  clear hv hP p3 hs hf
  go_enter Tryz.func56, Tryz.ntmps56
  go_wp2_with fail
  have hB := blkAt w (.cells #[.string ⟨nm.toArray⟩, .slice A args.length c] 45) rfl
  have hS0 := HS.out.alloc (.cells #[.string ⟨nm.toArray⟩, .slice A args.length c] 45)
  have hb0 : Below w.heap.size w (w.alloc (.cells #[.string ⟨nm.toArray⟩, .slice A args.length c] 45)) := boxed
  generalize w.alloc (.cells #[.string ⟨nm.toArray⟩, .slice A args.length c] 45) = W at *
  have HB0 := Lib.hid hB; have HS0 := Lib.hid hS0; have HBW := Lib.hid hb0
  clear hB hS0 hb0
  go_loopw [3, 4] (fun ov i wr => ∃ k : Nat, k ≤ args.length ∧ i = .int .i64 k ∧ ∃ o : Bs, ov = .string ⟨o.toArray⟩ ∧ o.length ≤ 40 + 140 * k ∧ Below W.heap.size W wr ∧ Hid (P = rprGo o (args.drop k) (decide (k = 0)))) (fun _ i _ => args.length - (intOf i).toNat)
  case atStart => exact ⟨0, by omega, rfl, nm, rfl, by omega, Below.refl _ _, HP0⟩
  case round =>
    obtain ⟨k, hk, rfl, o, rfl, hol, hb, hp⟩ := hrel
    have hwr := hb.size
    have c1 := (cell_blk (keptBlk hb HB0.out) 1).trans rfl
    by_cases hlt : k < args.length
    · obtain ⟨b1, o1, rfl, -, hbs1, g1, g2, g3⟩ := (HS0.out.below hb).arg hlt
      have hd := hp.out
      rw [drop_get hlt, rprGo] at hd
      have hx := HF.out _ (List.getElem_mem hlt)
      generalize args[k] = x at *
      have hpl := prArg_len hx
      have hpr := fun w => rprinted_any x w hx
      generalize prArg x = px at *
      unfold vArg at hpr
      have HPR := Lib.hid hpr; have HB := Lib.hid hb
      clear hpr hp hb
      by_cases hk0 : k = 0
      · subst hk0
        simp only [Nat.zero_mul, Nat.add_zero] at g1 g2 g3
        have hd2 : P = rprGo (o ++ [40] ++ px) (args.drop (0 + 1)) (decide (0 + 1 = 0)) := hd
        have HD := Lib.hid hd2
        have q1 : ¬ (9223372036854775807 < o.length + 1) := by omega
        have q2 : ¬ (9223372036854775807 < o.length + 1 + px.length) := by omega
        clear hd hd2
        go_wp2_with fail
        refine (HPR.out _).mono ?_
        rintro e w5 ⟨rfl, b5⟩
        go_wp2_with fail
        go_roundw
        case rel => exact ⟨0 + 1, by omega, by go_num, _, rfl, by simp; omega, HB.out.trans (b5.mono HB.out.size), Lib.hid (by rw [HD.out]; simp)⟩
        case measure => simp [intOf]; omega
      · have hkb : ((k : Int) == 0) = false := by simpa using hk0
        have hd2 : P = rprGo (o ++ [44, 32] ++ px) (args.drop (k + 1)) (decide (k + 1 = 0)) := by rw [hd]; simp [hk0]
        have HD := Lib.hid hd2
        have q1 : ¬ (9223372036854775807 < o.length + 2) := by omega
        have q2 : ¬ (9223372036854775807 < o.length + 2 + px.length) := by omega
        clear hd hd2
        go_wp2_with fail
        refine (HPR.out _).mono ?_
        rintro e w5 ⟨rfl, b5⟩
        go_wp2_with fail
        go_roundw
        case rel => exact ⟨k + 1, by omega, by go_num, _, rfl, by simp; omega, HB.out.trans (b5.mono HB.out.size), Lib.hid (by rw [HD.out]; simp)⟩
        case measure => simp [intOf]; omega
    · have hd := hp.out
      rw [drop_end hlt, rprGo] at hd
      have hvv := HV.out
      rw [hd] at hvv
      clear hd hp HV
      by_cases h0 : 0 < args.length
      · have h0I : (0 : Int) < (args.length : Int) := by omega
        rw [if_pos h0] at hvv
        have HVV := Lib.hid hvv; clear hvv
        have q1 : ¬ (9223372036854775807 < o.length + 1) := by omega
        go_wp2_with fail
        go_ret
        exact ⟨ret_str HVV.out, HBW.out.trans (hb.mono HBW.out.size)⟩
      · have h0I : ¬ (0 : Int) < (args.length : Int) := by omega
        rw [if_neg h0] at hvv
        have HVV := Lib.hid hvv; clear hvv
        go_wp2_with fail
        go_ret
        exact ⟨ret_str HVV.out, HBW.out.trans (hb.mono HBW.out.size)⟩

set_option maxRecDepth 100000 in
set_option maxHeartbeats 1000000 in
theorem rPrintAtom_any (x : Atm) (A : Option Addr) (n c : Nat) (w : World) (S : Nat → Prop) (hs : Sl w S A n c x.args) (ho : OkT x) :
    Calls Tryz.prog 33 #[.agg #[.string ⟨x.name.toArray⟩, .slice A n c]] w fun e w' => e = .returned (.tuple #[.string ⟨(printAtomS x).1.toArray⟩, .int .i64 (printAtomS x).2]) ∧ Below w.heap.size w w' := by
  have h1 := fun w S (h : Sl w S A n c x.args) => ratomF_any x A n c w S h ho
  have h2 := fun w S (h : Sl w S A n c x.args) hf => ratomP_any x A n c w S h hf
  obtain ⟨v, hv⟩ : ∃ v, v = printAtomS x := ⟨_, rfl⟩
  rw [← hv]
  unfold printAtomS at hv
  have HS := Lib.hid hs; clear hs ho
  cases hf : atomS x
  · rw [hf] at h1 hv
    have hv : v = ([], 1) := hv
    subst hv
    have H1 := Lib.hid h1; clear h1 h2 hf
    obtain ⟨nm, args⟩ := x
    simp only at *
    go_enter Tryz.func33, Tryz.ntmps33
    go_wp2_with fail
    refine (H1.out _ _ (HS.out.alloc _)).mono ?_
    rintro e w1 ⟨rfl, hb1⟩
    go_wp2_with fail
    go_ret2
    exact ⟨rfl, boxed.trans (hb1.mono (by simp))⟩
  · rw [hf] at h1 hv
    have hv : v = (prAtom x, 0) := hv
    subst hv
    have h2 := fun w S h => h2 w S h hf
    generalize prAtom x = px at *
    obtain ⟨nm, args⟩ := x
    simp only at *
    have H1 := Lib.hid h1; have H2 := Lib.hid h2; clear h1 h2 hf
    go_enter Tryz.func33, Tryz.ntmps33
    go_wp2_with fail
    refine (H1.out _ _ (HS.out.alloc _)).mono ?_
    rintro e w1 ⟨rfl, hb1⟩
    have k0 := (cell_blk (keptBlk hb1 (blkAt w (.cells #[.string ⟨nm.toArray⟩, .slice A n c] 45) rfl)) 0).trans rfl
    have k1 := (cell_blk (keptBlk hb1 (blkAt w (.cells #[.string ⟨nm.toArray⟩, .slice A n c] 45) rfl)) 1).trans rfl
    go_wp2_with fail
    refine (H2.out _ _ ((HS.out.alloc _).below hb1)).mono ?_
    rintro e w2 ⟨rfl, hb2⟩
    go_wp2_with fail
    go_ret2
    exact ⟨rfl, (boxed.trans (hb1.mono (by simp))).trans (hb2.mono (by have := hb1.size; simp at this; omega))⟩
end Go.Proofs.YtjopmgoacncmgaaGreatDoor
