/- Rules, reference: Print. -/
import Derived.Test.YtjopmgoacncmgaaGreatDoorKV1
import Derived.Test.YtjopmgoacncmgaaGreatDoorRegH
set_option linter.unusedVariables false
set_option linter.unusedSimpArgs false
namespace Go.Proofs.YtjopmgoacncmgaaGreatDoor
open Go.RowKit

theorem prBody_cons (o : Bs) (l : Ltl) (r : List Ltl) (b : Bool) : prBody o (l :: r) b = prBody (o ++ ((if b then [32, 58, 45, 32] else [44, 32]) ++ prLtl l)) r false := rfl
theorem prRules_cons (o : Bs) (r : Rul) (t : List Rul) : prRules o (r :: t) = prRules (prBody (o ++ prAtom r.head) r.body true ++ [46, 10]) t := rfl

set_option maxRecDepth 100000 in
set_option maxHeartbeats 8000000 in
theorem rPrint_any (A : Option Addr) (n c : Nat) (l : List Rul) (w : World) (S : Nat → Prop) (hl : Sl w S A n c l) (ho : ∀ r ∈ l, OkR r) :
    Calls Tryz.prog 19 #[.slice A n c] w fun e w' => e = .returned (.tuple #[.string ⟨(printS l).1.toArray⟩, .int .i64 (printS l).2]) ∧ Below w.heap.size w w' := by
  obtain ⟨v, hv⟩ : ∃ v, v = printS l := ⟨_, rfl⟩
  rw [← hv]
  unfold printS at hv
  have hlen := hl.len
  subst hlen
  have hle := hl.le
  by_cases h64 : 64 < l.length
  · have hv2 : v = ([], 1) := by rw [hv]; simp [h64]
    subst hv2
    have h64I : (64 : Int) < (l.length : Int) := by omega
    clear hl ho hv
    go_enter Tryz.func19, Tryz.ntmps19
    go_wp2_with fail
    go_ret2
    exact ⟨rfl, Below.refl _ _⟩
  · have h64I : ¬ (64 : Int) < (l.length : Int) := by omega
    have hv2 : v = if !l.all ruleS then ([], 1) else (prRules [] l, 0) := by rw [hv]; simp [h64]
    obtain ⟨PR, hPR⟩ : ∃ PR, PR = prRules [] l := ⟨_, rfl⟩
    rw [← hPR] at hv2
    have HPR : Hid (PR = prRules [] (l.drop 0)) := hPR
    have HV := Lib.hid hv2; have HO := Lib.hid ho; have HL := Lib.hid (hl.wide (S' := fun b => b < w.heap.size) (fun k hk _ => hk) (by decide)); clear hv hv2 hPR ho hl
    go_enter Tryz.func19, Tryz.ntmps19
    go_wp2_with fail
    go_loopw [4, 5] (fun ov i wr => ∃ k : Nat, k ≤ l.length ∧ i = .int .i64 k ∧ ∃ o : Bs, ov = .string ⟨o.toArray⟩ ∧ o.length ≤ 5000 * k ∧ Below w.heap.size w wr ∧ Hid ((l.take k).all ruleS = true) ∧ Hid (PR = prRules o (l.drop k))) (fun _ i _ => l.length - (intOf i).toNat)
    case atStart => exact ⟨0, by omega, rfl, [], rfl, by simp, Below.refl _ _, Lib.hid rfl, HPR⟩
    case round =>
      obtain ⟨k, hk, rfl, o, rfl, hol, hb, hta, hf⟩ := hrel
      have hwr := hb.size
      by_cases hlt : k < l.length
      · obtain ⟨b, o1, rfl, -, hbs, A1, n1, c1, A2, n2, c2, h1, h2, h3, hs1, hs2⟩ := HL.out.rul hlt
        have hd := hf.out
        rw [drop_get hlt, prRules_cons] at hd
        have hok := HO.out _ (List.getElem_mem hlt)
        have htk : (l.take (k + 1)).all ruleS = ((l.take k).all ruleS && ruleS l[k]) := by rw [List.take_succ_eq_append_getElem hlt, List.all_append]; simp
        have hal : ruleS l[k] = false → l.all ruleS = false := fun h => by
          rw [List.all_eq_false]
          exact ⟨_, List.getElem_mem hlt, by simp [h]⟩
        generalize l[k] = x at *
        have hfr := fun w' (hb : Below w.heap.size w w') => rrule_any x A1 n1 c1 A2 n2 c2 w' _ (hs1.below hb) (hs2.below hb) hok
        have HX := Lib.hid (fun (z : World) (hz : Below w.heap.size w z) => And.intro (cell_later hz h1) (And.intro (cell_later hz h2) (cell_later hz h3)))
        obtain ⟨e1, e2, e3⟩ := HX.out _ hb
        cases hr : ruleS x
        · simp only [hr] at hfr
          have hvv := HV.out
          rw [hal hr] at hvv
          have hvv : v = ([], 1) := hvv
          subst hvv
          have HFR := Lib.hid hfr; have HB := Lib.hid hb
          clear hd hfr hs1 hs2 hf hok hb hr h1 h2 h3 hal htk hta
          go_wp2_with fail
          refine (HFR.out _ HB.out).mono ?_
          rintro e w1 ⟨rfl, hb1⟩
          go_wp2_with fail
          go_ret2
          exact ⟨rfl, HB.out.trans (hb1.mono hwr)⟩
        · simp only [hr] at hfr
          rw [hr, hta.out] at htk
          obtain ⟨p1, p2, p3⟩ := rule_parts hr
          have hpa := fun w' (hb : Below w.heap.size w w') => ratomP_any x.head A1 n1 c1 w' _ (hs1.below hb) p1
          have hpl := prAtom_len p1
          generalize prAtom x.head = pa at *
          obtain ⟨PB, hPB⟩ : ∃ PB, PB = prBody (o ++ pa) x.body true := ⟨_, rfl⟩
          rw [← hPB] at hd
          have hpbl := prBody_len x.body (o ++ pa) true p3
          rw [← hPB] at hpbl
          obtain ⟨⟨nm, args⟩, body⟩ := x
          simp only at *
          have hn2 := hs2.len
          subst hn2
          have hle2 := hs2.le
          have HPB : Hid (PB = prBody (o ++ pa) (body.drop 0) (decide (0 = 0))) := hPB
          have HTK := Lib.hid htk; have HP3 := Lib.hid p3; have HD := Lib.hid hd; have HFR := Lib.hid hfr; have HB := Lib.hid hb; have HPA := Lib.hid hpa; have HS2 := Lib.hid hs2
          clear hPB htk p3 hd hfr hs1 hs2 hf hok hb hr h1 h2 h3 hal hta hpa p1
          have q1 : ¬ 9223372036854775807 < o.length + pa.length := by omega
          go_wp2_with fail
          refine (HFR.out _ HB.out).mono ?_
          rintro e w1 ⟨rfl, hb1⟩
          have hb2 := HB.out.trans (hb1.mono hwr)
          obtain ⟨e1, e2, e3⟩ := HX.out _ hb2
          go_wp2_with fail
          refine (HPA.out _ hb2).mono ?_
          rintro e w2 ⟨rfl, hb3⟩
          have hb4 := hb2.trans (hb3.mono hb2.size)
          obtain ⟨e1, e2, e3⟩ := HX.out _ hb4
          have HB4 := Lib.hid hb4
          clear hb1 hb2 hb3 hb4 HB HFR HPA
          go_wp2_with fail
          go_loopw [4, 6] (fun ov i wy => ∃ q : Nat, q ≤ body.length ∧ i = .int .i64 q ∧ ∃ o2 : Bs, ov = .string ⟨o2.toArray⟩ ∧ o2.length ≤ o.length + 830 + 844 * q ∧ Below w.heap.size w wy ∧ Hid (PB = prBody o2 (body.drop q) (decide (q = 0)))) (fun _ i _ => body.length - (intOf i).toNat)
          case atStart => exact ⟨0, by omega, rfl, o ++ pa, rfl, by simp; omega, HB4.out, HPB⟩
          case round =>
            obtain ⟨q, hq, rfl, o2, rfl, hol2, hby, hg⟩ := hrel
            have hwy := hby.size
            obtain ⟨e1, e2, e3⟩ := HX.out _ hby
            by_cases hltq : q < body.length
            · obtain ⟨b3, o3, rfl, -, hbs3, A5, n5, c5, u0, u1, u2, u3, us⟩ := (HS2.out.below hby).ltl hltq
              have hd3 := hg.out
              rw [drop_get hltq, prBody_cons] at hd3
              have hlx := HP3.out _ (List.getElem_mem hltq)
              generalize body[q] = x at *
              have hxl := prLtl_len hlx
              obtain ⟨SEP, hSEP⟩ : ∃ SEP : Bs, SEP = if decide (q = 0) then [32, 58, 45, 32] else [44, 32] := ⟨_, rfl⟩
              rw [← hSEP] at hd3
              have hsl : SEP.length ≤ 4 := by rw [hSEP]; split <;> simp
              have hnx : ∀ o4 : Bs, o4 = o2 ++ (SEP ++ prLtl x) → Hid (PB = prBody o4 (body.drop (q + 1)) (decide (q + 1 = 0))) ∧ o4.length ≤ o.length + 830 + 844 * (q + 1) := fun o4 e => by
                subst e
                refine ⟨Lib.hid (by rw [hd3]; simp), ?_⟩
                simp only [List.length_append]
                omega
              have hla := fun hc => ltl_argsP hlx hc
              have hatm : compsS x = false → atomS x.atom = true := by
                intro h
                unfold ltlS at hlx
                rw [h] at hlx
                exact hlx
              have hpx : prLtl x = if compsS x then prArg (x.atom.args.getD 0 default) ++ [32] ++ x.op ++ [32] ++ prArg (x.atom.args.getD 1 default) else if x.neg then sNot ++ [32] ++ prAtom x.atom else prAtom x.atom := rfl
              generalize prLtl x = px at *
              have hpt := fun w' (hb : Below wr.heap.size wr w') hq => ratomP_any x.atom A5 n5 c5 w' _ (us.below hb) hq
              have hptl := fun hq => prAtom_len (a := x.atom) hq
              obtain ⟨neg, op, ⟨ynm, yargs⟩⟩ := x
              simp only [compsS] at u0 u1 u2 u3 us hla hatm hpx hpt hptl
              have HNX := Lib.hid hnx; have HBY := Lib.hid hby; have HUS := Lib.hid us; have HLA := Lib.hid hla; have HATM := Lib.hid hatm; have HPT := Lib.hid hpt
              clear hd3 hg hnx hby us hla hatm hpt
              cases op with
              | nil =>
                simp only [List.isEmpty_nil, Bool.not_true, Bool.false_eq_true, if_false] at hpx
                have hat2 := HATM.out rfl
                have hal2 := hptl hat2
                have HT2 := Lib.hid (fun w' hb => HPT.out w' hb hat2)
                generalize prAtom ⟨ynm, yargs⟩ = pat at *
                clear hat2 hptl HATM HPT HLA
                cases neg
                · simp only [Bool.false_eq_true, if_false] at hpx
                  by_cases hq0 : q = 0
                  · subst hq0
                    simp only [Nat.zero_mul, Nat.add_zero] at u0 u1 u2 u3
                    have hSEP2 : SEP = [32, 58, 45, 32] := by rw [hSEP]; rfl
                    have HSEP := Lib.hid hSEP2; clear hSEP hSEP2
                    have q1 : ¬ 9223372036854775807 < o2.length + 4 := by omega
                    have : ¬ 9223372036854775807 < o2.length + 4 + pat.length := by omega
                    have : ¬ 9223372036854775807 < o2.length + (4 + pat.length) := by omega
                    have : ¬ 9223372036854775807 < o2.length + (pat.length + 4) := by omega
                    have y0 := (cell_blk (blkAt wr (.cells #[.bool false, .string ⟨#[]⟩, .string ⟨ynm.toArray⟩, .slice A5 n5 c5] 54) rfl) 0).trans rfl; have y1 := (cell_blk (blkAt wr (.cells #[.bool false, .string ⟨#[]⟩, .string ⟨ynm.toArray⟩, .slice A5 n5 c5] 54) rfl) 1).trans rfl
                    go_wp2_with fail
                    refine (HT2.out _ boxed).mono ?_
                    rintro e w5 ⟨rfl, b5⟩
                    have hb5 := HBY.out.trans ((boxed.trans (b5.mono (by simp))).mono hwy)
                    go_wp2_with fail
                    go_roundw
                    case rel =>
                      have hx := HNX.out _ rfl
                      rw [HSEP.out, hpx] at hx
                      exact ⟨0 + 1, by omega, by go_num, _, rfl, by have := hx.2; simp [sNot] at this ⊢; omega, hb5, Lib.hid (by rw [hx.1.out]; simp [sNot])⟩
                    case measure => simp [intOf]; omega
                  · have hq0b : ((q : Int) == 0) = false := by rw [beq_eq_false_iff_ne]; omega
                    have hSEP2 : SEP = [44, 32] := by rw [hSEP]; simp [hq0]
                    have HSEP := Lib.hid hSEP2; clear hSEP hSEP2 hq0
                    have q1 : ¬ 9223372036854775807 < o2.length + 2 := by omega
                    have : ¬ 9223372036854775807 < o2.length + 2 + pat.length := by omega
                    have : ¬ 9223372036854775807 < o2.length + (2 + pat.length) := by omega
                    have : ¬ 9223372036854775807 < o2.length + (pat.length + 2) := by omega
                    have y0 := (cell_blk (blkAt wr (.cells #[.bool false, .string ⟨#[]⟩, .string ⟨ynm.toArray⟩, .slice A5 n5 c5] 54) rfl) 0).trans rfl; have y1 := (cell_blk (blkAt wr (.cells #[.bool false, .string ⟨#[]⟩, .string ⟨ynm.toArray⟩, .slice A5 n5 c5] 54) rfl) 1).trans rfl
                    go_wp2_with fail
                    refine (HT2.out _ boxed).mono ?_
                    rintro e w5 ⟨rfl, b5⟩
                    have hb5 := HBY.out.trans ((boxed.trans (b5.mono (by simp))).mono hwy)
                    go_wp2_with fail
                    go_roundw
                    case rel =>
                      have hx := HNX.out _ rfl
                      rw [HSEP.out, hpx] at hx
                      exact ⟨q + 1, by omega, by go_num, _, rfl, by have := hx.2; simp [sNot] at this ⊢; omega, hb5, Lib.hid (by rw [hx.1.out]; simp [sNot])⟩
                    case measure => simp [intOf]; omega
                · simp only [if_true] at hpx
                  by_cases hq0 : q = 0
                  · subst hq0
                    simp only [Nat.zero_mul, Nat.add_zero] at u0 u1 u2 u3
                    have hSEP2 : SEP = [32, 58, 45, 32] := by rw [hSEP]; rfl
                    have HSEP := Lib.hid hSEP2; clear hSEP hSEP2
                    have q1 : ¬ 9223372036854775807 < o2.length + 4 := by omega
                    have q2 : ¬ 9223372036854775807 < 4 + pat.length := by omega
                    have : ¬ 9223372036854775807 < o2.length + 4 + (4 + pat.length) := by omega
                    have : ¬ 9223372036854775807 < o2.length + 4 + (pat.length + 4) := by omega
                    have : ¬ 9223372036854775807 < o2.length + (4 + (4 + pat.length)) := by omega
                    have : ¬ 9223372036854775807 < o2.length + 4 + (pat.length + 1 + 1 + 1 + 1) := by omega
                    have : ¬ 9223372036854775807 < o2.length + (pat.length + 1 + 1 + 1 + 1 + 4) := by omega
                    have y0 := (cell_blk (blkAt wr (.cells #[.bool true, .string ⟨#[]⟩, .string ⟨ynm.toArray⟩, .slice A5 n5 c5] 54) rfl) 0).trans rfl; have y1 := (cell_blk (blkAt wr (.cells #[.bool true, .string ⟨#[]⟩, .string ⟨ynm.toArray⟩, .slice A5 n5 c5] 54) rfl) 1).trans rfl
                    go_wp2_with fail
                    refine (HT2.out _ boxed).mono ?_
                    rintro e w5 ⟨rfl, b5⟩
                    have hb5 := HBY.out.trans ((boxed.trans (b5.mono (by simp))).mono hwy)
                    go_wp2_with fail
                    go_roundw
                    case rel =>
                      have hx := HNX.out _ rfl
                      rw [HSEP.out, hpx] at hx
                      exact ⟨0 + 1, by omega, by go_num, _, rfl, by have := hx.2; simp [sNot] at this ⊢; omega, hb5, Lib.hid (by rw [hx.1.out]; simp [sNot])⟩
                    case measure => simp [intOf]; omega
                  · have hq0b : ((q : Int) == 0) = false := by rw [beq_eq_false_iff_ne]; omega
                    have hSEP2 : SEP = [44, 32] := by rw [hSEP]; simp [hq0]
                    have HSEP := Lib.hid hSEP2; clear hSEP hSEP2 hq0
                    have q1 : ¬ 9223372036854775807 < o2.length + 2 := by omega
                    have q2 : ¬ 9223372036854775807 < 4 + pat.length := by omega
                    have : ¬ 9223372036854775807 < o2.length + 2 + (4 + pat.length) := by omega
                    have : ¬ 9223372036854775807 < o2.length + 2 + (pat.length + 4) := by omega
                    have : ¬ 9223372036854775807 < o2.length + (2 + (4 + pat.length)) := by omega
                    have : ¬ 9223372036854775807 < o2.length + 2 + (pat.length + 1 + 1 + 1 + 1) := by omega
                    have : ¬ 9223372036854775807 < o2.length + (pat.length + 1 + 1 + 1 + 1 + 2) := by omega
                    have y0 := (cell_blk (blkAt wr (.cells #[.bool true, .string ⟨#[]⟩, .string ⟨ynm.toArray⟩, .slice A5 n5 c5] 54) rfl) 0).trans rfl; have y1 := (cell_blk (blkAt wr (.cells #[.bool true, .string ⟨#[]⟩, .string ⟨ynm.toArray⟩, .slice A5 n5 c5] 54) rfl) 1).trans rfl
                    go_wp2_with fail
                    refine (HT2.out _ boxed).mono ?_
                    rintro e w5 ⟨rfl, b5⟩
                    have hb5 := HBY.out.trans ((boxed.trans (b5.mono (by simp))).mono hwy)
                    go_wp2_with fail
                    go_roundw
                    case rel =>
                      have hx := HNX.out _ rfl
                      rw [HSEP.out, hpx] at hx
                      exact ⟨q + 1, by omega, by go_num, _, rfl, by have := hx.2; simp [sNot] at this ⊢; omega, hb5, Lib.hid (by rw [hx.1.out]; simp [sNot])⟩
                    case measure => simp [intOf]; omega
              | cons p1c p1r =>
                generalize hopx : (p1c :: p1r : Bs) = op at *
                have hob : (op == []) = false := by rw [← hopx]; rfl
                have hoi : op.isEmpty = false := by rw [← hopx]; rfl
                have hopn : op ≠ [] := by rw [← hopx]; simp
                rw [hoi] at HLA hpx
                simp only [Bool.not_false, if_true] at hpx
                obtain ⟨hop, hal, haf⟩ := HLA.out rfl
                obtain ⟨a1, a2, rfl⟩ : ∃ a1 a2, yargs = [a1, a2] := by
                  match yargs, hal with
                  | [a, b], _ => exact ⟨a, b, rfl⟩
                have hpx : px = prArg a1 ++ [32] ++ op ++ [32] ++ prArg a2 := hpx
                have hn5 := HUS.out.len
                have hn5 : n5 = 2 := hn5
                subst hn5
                obtain ⟨b7, o7, rfl, hbl7, -, f1, f2, f3⟩ := HUS.out.arg (k := 0) (by simp)
                obtain ⟨b', o', hA, -, -, g1, g2, g3⟩ := HUS.out.arg (k := 1) (by simp)
                injection hA with hA
                injection hA with e11 e12
                subst e11 e12
                simp only [List.getElem_cons_zero, List.getElem_cons_succ, Nat.zero_mul, Nat.add_zero, Nat.one_mul] at f1 f2 f3 g1 g2 g3
                have hp1 := fun w => rprinted_any a1 w (haf _ (by simp))
                have hp2 := fun w => rprinted_any a2 w (haf _ (by simp))
                have hl1 := prArg_len (haf a1 (by simp))
                have hl2 := prArg_len (haf a2 (by simp))
                unfold vArg at hp1 hp2
                generalize prArg a1 = p1 at *
                generalize prArg a2 = p2 at *
                have HP1 := Lib.hid hp1; have HP2 := Lib.hid hp2; have HPX := Lib.hid hpx
                have HC := Lib.hid (fun (x : World) (hx : Below wr.heap.size wr x) => (⟨cell_later hx f1, cell_later hx f2, cell_later hx f3, cell_later hx g1, cell_later hx g2, cell_later hx g3⟩ : x.cell? ⟨b7, o7, none⟩ = some (.int .i64 a1.kind) ∧ x.cell? ⟨b7, o7 + 1, none⟩ = some (.string ⟨a1.text.toArray⟩) ∧ x.cell? ⟨b7, o7 + 2, none⟩ = some (.int .i64 a1.num) ∧ x.cell? ⟨b7, o7 + 3, none⟩ = some (.int .i64 a2.kind) ∧ x.cell? ⟨b7, o7 + 3 + 1, none⟩ = some (.string ⟨a2.text.toArray⟩) ∧ x.cell? ⟨b7, o7 + 3 + 2, none⟩ = some (.int .i64 a2.num)))
                clear hp1 hp2 hpx f1 f2 f3 g1 g2 g3 haf hal HLA HATM HPT HUS hptl hopx
                by_cases hq0 : q = 0
                · subst hq0
                  simp only [Nat.zero_mul, Nat.add_zero] at u0 u1 u2 u3
                  have hSEP2 : SEP = [32, 58, 45, 32] := by rw [hSEP]; rfl
                  have HSEP := Lib.hid hSEP2; clear hSEP hSEP2
                  have q1 : ¬ 9223372036854775807 < o2.length + 4 := by omega
                  have hBB := blkAt wr (.cells #[.bool neg, .string ⟨op.toArray⟩, .string ⟨ynm.toArray⟩, .slice (some ⟨b7, o7, none⟩) 2 c5] 54) rfl
                  have y0 := (cell_blk hBB 0).trans rfl; have y1 := (cell_blk hBB 1).trans rfl
                  have hbwx : Below wr.heap.size wr (wr.alloc (.cells #[.bool neg, .string ⟨op.toArray⟩, .string ⟨ynm.toArray⟩, .slice (some ⟨b7, o7, none⟩) 2 c5] 54)) := boxed
                  go_wp2_with fail
                  generalize wr.alloc (.cells #[.bool neg, .string ⟨op.toArray⟩, .string ⟨ynm.toArray⟩, .slice (some ⟨b7, o7, none⟩) 2 c5] 54) = W1 at *
                  have HBB := Lib.hid hBB; have HBW := Lib.hid hbwx; clear hBB hbwx y0 y1
                  refine wpH_region (fun x => Below W1.heap.size W1 x) (by kernel_rfl) ?_
                  have hS : Below W1.heap.size W1 W1.drew := (Below.refl _ _).drew
                  have HX3 := HX
                  have HX := Lib.hid (fun (x : World) (hx : Below W1.heap.size W1 x) => And.intro ((cell_blk (keptBlk hx HBB.out) 1).trans rfl) (And.intro ((cell_blk (keptBlk hx HBB.out) 3).trans rfl) (HC.out x (HBW.out.trans (hx.mono HBW.out.size)))))
                  (refine wpAnyH_takeW 0 rfl rfl (by kernel_rfl) (by kernel_rfl) (by kernel_rfl) (fun _ _ _ h => h) (v := ?_) (by kernel_rfl) hS ?_ ?_; rotate_left; (focus (intro x hx; have fx := HX.out x hx; go_simp; (try with_reducible rfl); done)); (try simp only [Act.put, List.setIfInBounds_toArray, List.set_cons_zero, List.set_cons_succ]))
                  (refine wpAnyH_takeW 1 rfl rfl (by kernel_rfl) (by kernel_rfl) (by kernel_rfl) (fun _ _ _ h => h) (v := ?_) (by kernel_rfl) hS ?_ ?_; rotate_left; (focus (intro x hx; have fx := HX.out x hx; go_simp; (try with_reducible rfl); done)); (try simp only [Act.put, List.setIfInBounds_toArray, List.set_cons_zero, List.set_cons_succ]))
                  (refine wpAnyH_takeW 2 rfl rfl (by kernel_rfl) (by kernel_rfl) (by kernel_rfl) (fun _ _ _ h => h) (v := ?_) (by kernel_rfl) hS ?_ ?_; rotate_left; (focus (intro x hx; have fx := HX.out x hx; go_simp; (try with_reducible rfl); done)); (try simp only [Act.put, List.setIfInBounds_toArray, List.set_cons_zero, List.set_cons_succ]))
                  (refine wpAnyH_takeW 3 rfl rfl (by kernel_rfl) (by kernel_rfl) (by kernel_rfl) (fun _ _ _ h => h) (v := ?_) (by kernel_rfl) hS ?_ ?_; rotate_left; (focus (intro x hx; have fx := HX.out x hx; go_simp; (try with_reducible rfl); done)); (try simp only [Act.put, List.setIfInBounds_toArray, List.set_cons_zero, List.set_cons_succ]))
                  (refine wpAnyH_takeW 4 rfl rfl (by kernel_rfl) (by kernel_rfl) (by kernel_rfl) (fun _ _ _ h => h) (v := ?_) (by kernel_rfl) hS ?_ ?_; rotate_left; (focus (intro x hx; have fx := HX.out x hx; go_simp; (try with_reducible rfl); done)); (try simp only [Act.put, List.setIfInBounds_toArray, List.set_cons_zero, List.set_cons_succ]))
                  (refine wpAnyH_takeW 5 rfl rfl (by kernel_rfl) (by kernel_rfl) (by kernel_rfl) (fun _ _ _ h => h) (v := ?_) (by kernel_rfl) hS ?_ ?_; rotate_left; (focus (intro x hx; have fx := HX.out x hx; go_simp; (try with_reducible rfl); done)); (try simp only [Act.put, List.setIfInBounds_toArray, List.set_cons_zero, List.set_cons_succ]))
                  (refine wpAnyH_takeW 8 rfl rfl (by kernel_rfl) (by kernel_rfl) (by kernel_rfl) (fun _ _ _ h => h) (v := ?_) (by kernel_rfl) hS ?_ ?_; rotate_left; (focus (intro x hx; have fx := HX.out x hx; go_simp; (try with_reducible rfl); done)); (try simp only [Act.put, List.setIfInBounds_toArray, List.set_cons_zero, List.set_cons_succ]))
                  (refine wpAnyH_takeW 9 rfl rfl (by kernel_rfl) (by kernel_rfl) (by kernel_rfl) (fun _ _ _ h => h) (v := ?_) (by kernel_rfl) hS ?_ ?_; rotate_left; (focus (intro x hx; have fx := HX.out x hx; go_simp; (try with_reducible rfl); done)); (try simp only [Act.put, List.setIfInBounds_toArray, List.set_cons_zero, List.set_cons_succ]))
                  (refine wpAnyH_takeW 12 rfl rfl (by kernel_rfl) (by kernel_rfl) (by kernel_rfl) (fun _ _ _ h => h) (v := ?_) (by kernel_rfl) hS ?_ ?_; rotate_left; (focus (intro x hx; have fx := HX.out x hx; go_simp; (try with_reducible rfl); done)); (try simp only [Act.put, List.setIfInBounds_toArray, List.set_cons_zero, List.set_cons_succ]))
                  (refine wpAnyH_takeW 13 rfl rfl (by kernel_rfl) (by kernel_rfl) (by kernel_rfl) (fun _ _ _ h => h) (v := ?_) (by kernel_rfl) hS ?_ ?_; rotate_left; (focus (intro x hx; have fx := HX.out x hx; go_simp; (try with_reducible rfl); done)); (try simp only [Act.put, List.setIfInBounds_toArray, List.set_cons_zero, List.set_cons_succ]))
                  (refine wpAnyH_takeW 14 rfl rfl (by kernel_rfl) (by kernel_rfl) (by kernel_rfl) (fun _ _ _ h => h) (v := ?_) (by kernel_rfl) hS ?_ ?_; rotate_left; (focus (intro x hx; have fx := HX.out x hx; go_simp; (try with_reducible rfl); done)); (try simp only [Act.put, List.setIfInBounds_toArray, List.set_cons_zero, List.set_cons_succ]))
                  (refine wpAnyH_takeW 15 rfl rfl (by kernel_rfl) (by kernel_rfl) (by kernel_rfl) (fun _ _ _ h => h) (v := ?_) (by kernel_rfl) hS ?_ ?_; rotate_left; (focus (intro x hx; have fx := HX.out x hx; go_simp; (try with_reducible rfl); done)); (try simp only [Act.put, List.setIfInBounds_toArray, List.set_cons_zero, List.set_cons_succ]))
                  (refine wpAnyH_takeW 16 rfl rfl (by kernel_rfl) (by kernel_rfl) (by kernel_rfl) (fun _ _ _ h => h) (v := ?_) (by kernel_rfl) hS ?_ ?_; rotate_left; (focus (intro x hx; have fx := HX.out x hx; go_simp; (try with_reducible rfl); done)); (try simp only [Act.put, List.setIfInBounds_toArray, List.set_cons_zero, List.set_cons_succ]))
                  have : ¬ 9223372036854775807 < p1.length + 1 := by omega
                  have : ¬ 9223372036854775807 < p1.length + 1 + op.length := by omega
                  have : ¬ 9223372036854775807 < p1.length + (op.length + 1) := by omega
                  have : ¬ 9223372036854775807 < p1.length + (op.length + 1) + 1 := by omega
                  have : ¬ 9223372036854775807 < p1.length + (op.length + 1 + 1) := by omega
                  have : ¬ 9223372036854775807 < p1.length + (op.length + 1 + 1) + p2.length := by omega
                  have : ¬ 9223372036854775807 < p1.length + (op.length + (p2.length + 1) + 1) := by omega
                  have : ¬ 9223372036854775807 < o2.length + 4 + (p1.length + (op.length + (p2.length + 1) + 1)) := by omega
                  have : ¬ 9223372036854775807 < o2.length + (p1.length + (op.length + (p2.length + 1) + 1) + 4) := by omega
                  have : ¬ 9223372036854775807 < o2.length + (4 + (p1.length + (op.length + (p2.length + 1) + 1))) := by omega
                  (refine wpAnyH_one 6 (by kernel_rfl) rfl ?_; intro K' hK'; go_simp; refine (HP1.out _).mono ?_; rintro e w5 ⟨rfl, hb5⟩; have hS := hS.trans (hb5.mono hS.size); refine hK'.out _ _ hS ?_; clear hK' K')
                  (refine wpAnyH_takeW 7 rfl rfl (by kernel_rfl) (by kernel_rfl) (by kernel_rfl) (fun _ _ _ h => h) (v := ?_) (by kernel_rfl) hS ?_ ?_; rotate_left; (focus (intro x hx; have fx := HX.out x hx; go_simp; (try with_reducible rfl); done)); (try simp only [Act.put, List.setIfInBounds_toArray, List.set_cons_zero, List.set_cons_succ]))
                  (refine wpAnyH_takeW 10 rfl rfl (by kernel_rfl) (by kernel_rfl) (by kernel_rfl) (fun _ _ _ h => h) (v := ?_) (by kernel_rfl) hS ?_ ?_; rotate_left; (focus (intro x hx; have fx := HX.out x hx; go_simp; (try with_reducible rfl); done)); (try simp only [Act.put, List.setIfInBounds_toArray, List.set_cons_zero, List.set_cons_succ]))
                  (refine wpAnyH_takeW 11 rfl rfl (by kernel_rfl) (by kernel_rfl) (by kernel_rfl) (fun _ _ _ h => h) (v := ?_) (by kernel_rfl) hS ?_ ?_; rotate_left; (focus (intro x hx; have fx := HX.out x hx; go_simp; (try with_reducible rfl); done)); (try simp only [Act.put, List.setIfInBounds_toArray, List.set_cons_zero, List.set_cons_succ]))
                  (refine wpAnyH_one 17 (by kernel_rfl) rfl ?_; intro K' hK'; go_simp; refine (HP2.out _).mono ?_; rintro e w6 ⟨rfl, hb6⟩; have hS := hS.trans (hb6.mono hS.size); refine hK'.out _ _ hS ?_; clear hK' K')
                  (refine wpAnyH_takeW 18 rfl rfl (by kernel_rfl) (by kernel_rfl) (by kernel_rfl) (fun _ _ _ h => h) (v := ?_) (by kernel_rfl) hS ?_ ?_; rotate_left; (focus (intro x hx; have fx := HX.out x hx; go_simp; (try with_reducible rfl); done)); (try simp only [Act.put, List.setIfInBounds_toArray, List.set_cons_zero, List.set_cons_succ]))
                  (refine wpAnyH_takeW 19 rfl rfl (by kernel_rfl) (by kernel_rfl) (by kernel_rfl) (fun _ _ _ h => h) (v := ?_) (by kernel_rfl) hS ?_ ?_; rotate_left; (focus (intro x hx; have fx := HX.out x hx; go_simp; (try with_reducible rfl); done)); (try simp only [Act.put, List.setIfInBounds_toArray, List.set_cons_zero, List.set_cons_succ]))
                  (refine wpAnyH_takeW 20 rfl rfl (by kernel_rfl) (by kernel_rfl) (by kernel_rfl) (fun _ _ _ h => h) (v := ?_) (by kernel_rfl) hS ?_ ?_; rotate_left; (focus (intro x hx; have fx := HX.out x hx; go_simp; (try with_reducible rfl); done)); (try simp only [Act.put, List.setIfInBounds_toArray, List.set_cons_zero, List.set_cons_succ]))
                  refine wpAnyH_done (by kernel_rfl) ?_ _
                  have hb7 := HBY.out.trans ((HBW.out.trans (hS.mono HBW.out.size)).mono hwy)
                  go_wp2_with fail
                  go_roundw
                  case rel =>
                    have hx := HNX.out _ rfl
                    rw [HSEP.out, HPX.out] at hx
                    exact ⟨0 + 1, by omega, by go_num, _, rfl, by have := hx.2; simp at this ⊢; omega, hb7, Lib.hid (by rw [hx.1.out]; simp)⟩
                  case measure => simp [intOf]; omega
                · have hq0b : ((q : Int) == 0) = false := by rw [beq_eq_false_iff_ne]; omega
                  have hSEP2 : SEP = [44, 32] := by rw [hSEP]; simp [hq0]
                  have HSEP := Lib.hid hSEP2; clear hSEP hSEP2 hq0
                  have q1 : ¬ 9223372036854775807 < o2.length + 2 := by omega
                  have hBB := blkAt wr (.cells #[.bool neg, .string ⟨op.toArray⟩, .string ⟨ynm.toArray⟩, .slice (some ⟨b7, o7, none⟩) 2 c5] 54) rfl
                  have y0 := (cell_blk hBB 0).trans rfl; have y1 := (cell_blk hBB 1).trans rfl
                  have hbwx : Below wr.heap.size wr (wr.alloc (.cells #[.bool neg, .string ⟨op.toArray⟩, .string ⟨ynm.toArray⟩, .slice (some ⟨b7, o7, none⟩) 2 c5] 54)) := boxed
                  go_wp2_with fail
                  generalize wr.alloc (.cells #[.bool neg, .string ⟨op.toArray⟩, .string ⟨ynm.toArray⟩, .slice (some ⟨b7, o7, none⟩) 2 c5] 54) = W1 at *
                  have HBB := Lib.hid hBB; have HBW := Lib.hid hbwx; clear hBB hbwx y0 y1
                  refine wpH_region (fun x => Below W1.heap.size W1 x) (by kernel_rfl) ?_
                  have hS : Below W1.heap.size W1 W1.drew := (Below.refl _ _).drew
                  have HX3 := HX
                  have HX := Lib.hid (fun (x : World) (hx : Below W1.heap.size W1 x) => And.intro ((cell_blk (keptBlk hx HBB.out) 1).trans rfl) (And.intro ((cell_blk (keptBlk hx HBB.out) 3).trans rfl) (HC.out x (HBW.out.trans (hx.mono HBW.out.size)))))
                  (refine wpAnyH_takeW 0 rfl rfl (by kernel_rfl) (by kernel_rfl) (by kernel_rfl) (fun _ _ _ h => h) (v := ?_) (by kernel_rfl) hS ?_ ?_; rotate_left; (focus (intro x hx; have fx := HX.out x hx; go_simp; (try with_reducible rfl); done)); (try simp only [Act.put, List.setIfInBounds_toArray, List.set_cons_zero, List.set_cons_succ]))
                  (refine wpAnyH_takeW 1 rfl rfl (by kernel_rfl) (by kernel_rfl) (by kernel_rfl) (fun _ _ _ h => h) (v := ?_) (by kernel_rfl) hS ?_ ?_; rotate_left; (focus (intro x hx; have fx := HX.out x hx; go_simp; (try with_reducible rfl); done)); (try simp only [Act.put, List.setIfInBounds_toArray, List.set_cons_zero, List.set_cons_succ]))
                  (refine wpAnyH_takeW 2 rfl rfl (by kernel_rfl) (by kernel_rfl) (by kernel_rfl) (fun _ _ _ h => h) (v := ?_) (by kernel_rfl) hS ?_ ?_; rotate_left; (focus (intro x hx; have fx := HX.out x hx; go_simp; (try with_reducible rfl); done)); (try simp only [Act.put, List.setIfInBounds_toArray, List.set_cons_zero, List.set_cons_succ]))
                  (refine wpAnyH_takeW 3 rfl rfl (by kernel_rfl) (by kernel_rfl) (by kernel_rfl) (fun _ _ _ h => h) (v := ?_) (by kernel_rfl) hS ?_ ?_; rotate_left; (focus (intro x hx; have fx := HX.out x hx; go_simp; (try with_reducible rfl); done)); (try simp only [Act.put, List.setIfInBounds_toArray, List.set_cons_zero, List.set_cons_succ]))
                  (refine wpAnyH_takeW 4 rfl rfl (by kernel_rfl) (by kernel_rfl) (by kernel_rfl) (fun _ _ _ h => h) (v := ?_) (by kernel_rfl) hS ?_ ?_; rotate_left; (focus (intro x hx; have fx := HX.out x hx; go_simp; (try with_reducible rfl); done)); (try simp only [Act.put, List.setIfInBounds_toArray, List.set_cons_zero, List.set_cons_succ]))
                  (refine wpAnyH_takeW 5 rfl rfl (by kernel_rfl) (by kernel_rfl) (by kernel_rfl) (fun _ _ _ h => h) (v := ?_) (by kernel_rfl) hS ?_ ?_; rotate_left; (focus (intro x hx; have fx := HX.out x hx; go_simp; (try with_reducible rfl); done)); (try simp only [Act.put, List.setIfInBounds_toArray, List.set_cons_zero, List.set_cons_succ]))
                  (refine wpAnyH_takeW 8 rfl rfl (by kernel_rfl) (by kernel_rfl) (by kernel_rfl) (fun _ _ _ h => h) (v := ?_) (by kernel_rfl) hS ?_ ?_; rotate_left; (focus (intro x hx; have fx := HX.out x hx; go_simp; (try with_reducible rfl); done)); (try simp only [Act.put, List.setIfInBounds_toArray, List.set_cons_zero, List.set_cons_succ]))
                  (refine wpAnyH_takeW 9 rfl rfl (by kernel_rfl) (by kernel_rfl) (by kernel_rfl) (fun _ _ _ h => h) (v := ?_) (by kernel_rfl) hS ?_ ?_; rotate_left; (focus (intro x hx; have fx := HX.out x hx; go_simp; (try with_reducible rfl); done)); (try simp only [Act.put, List.setIfInBounds_toArray, List.set_cons_zero, List.set_cons_succ]))
                  (refine wpAnyH_takeW 12 rfl rfl (by kernel_rfl) (by kernel_rfl) (by kernel_rfl) (fun _ _ _ h => h) (v := ?_) (by kernel_rfl) hS ?_ ?_; rotate_left; (focus (intro x hx; have fx := HX.out x hx; go_simp; (try with_reducible rfl); done)); (try simp only [Act.put, List.setIfInBounds_toArray, List.set_cons_zero, List.set_cons_succ]))
                  (refine wpAnyH_takeW 13 rfl rfl (by kernel_rfl) (by kernel_rfl) (by kernel_rfl) (fun _ _ _ h => h) (v := ?_) (by kernel_rfl) hS ?_ ?_; rotate_left; (focus (intro x hx; have fx := HX.out x hx; go_simp; (try with_reducible rfl); done)); (try simp only [Act.put, List.setIfInBounds_toArray, List.set_cons_zero, List.set_cons_succ]))
                  (refine wpAnyH_takeW 14 rfl rfl (by kernel_rfl) (by kernel_rfl) (by kernel_rfl) (fun _ _ _ h => h) (v := ?_) (by kernel_rfl) hS ?_ ?_; rotate_left; (focus (intro x hx; have fx := HX.out x hx; go_simp; (try with_reducible rfl); done)); (try simp only [Act.put, List.setIfInBounds_toArray, List.set_cons_zero, List.set_cons_succ]))
                  (refine wpAnyH_takeW 15 rfl rfl (by kernel_rfl) (by kernel_rfl) (by kernel_rfl) (fun _ _ _ h => h) (v := ?_) (by kernel_rfl) hS ?_ ?_; rotate_left; (focus (intro x hx; have fx := HX.out x hx; go_simp; (try with_reducible rfl); done)); (try simp only [Act.put, List.setIfInBounds_toArray, List.set_cons_zero, List.set_cons_succ]))
                  (refine wpAnyH_takeW 16 rfl rfl (by kernel_rfl) (by kernel_rfl) (by kernel_rfl) (fun _ _ _ h => h) (v := ?_) (by kernel_rfl) hS ?_ ?_; rotate_left; (focus (intro x hx; have fx := HX.out x hx; go_simp; (try with_reducible rfl); done)); (try simp only [Act.put, List.setIfInBounds_toArray, List.set_cons_zero, List.set_cons_succ]))
                  have : ¬ 9223372036854775807 < p1.length + 1 := by omega
                  have : ¬ 9223372036854775807 < p1.length + 1 + op.length := by omega
                  have : ¬ 9223372036854775807 < p1.length + (op.length + 1) := by omega
                  have : ¬ 9223372036854775807 < p1.length + (op.length + 1) + 1 := by omega
                  have : ¬ 9223372036854775807 < p1.length + (op.length + 1 + 1) := by omega
                  have : ¬ 9223372036854775807 < p1.length + (op.length + 1 + 1) + p2.length := by omega
                  have : ¬ 9223372036854775807 < p1.length + (op.length + (p2.length + 1) + 1) := by omega
                  have : ¬ 9223372036854775807 < o2.length + 2 + (p1.length + (op.length + (p2.length + 1) + 1)) := by omega
                  have : ¬ 9223372036854775807 < o2.length + (p1.length + (op.length + (p2.length + 1) + 1) + 2) := by omega
                  have : ¬ 9223372036854775807 < o2.length + (2 + (p1.length + (op.length + (p2.length + 1) + 1))) := by omega
                  (refine wpAnyH_one 6 (by kernel_rfl) rfl ?_; intro K' hK'; go_simp; refine (HP1.out _).mono ?_; rintro e w5 ⟨rfl, hb5⟩; have hS := hS.trans (hb5.mono hS.size); refine hK'.out _ _ hS ?_; clear hK' K')
                  (refine wpAnyH_takeW 7 rfl rfl (by kernel_rfl) (by kernel_rfl) (by kernel_rfl) (fun _ _ _ h => h) (v := ?_) (by kernel_rfl) hS ?_ ?_; rotate_left; (focus (intro x hx; have fx := HX.out x hx; go_simp; (try with_reducible rfl); done)); (try simp only [Act.put, List.setIfInBounds_toArray, List.set_cons_zero, List.set_cons_succ]))
                  (refine wpAnyH_takeW 10 rfl rfl (by kernel_rfl) (by kernel_rfl) (by kernel_rfl) (fun _ _ _ h => h) (v := ?_) (by kernel_rfl) hS ?_ ?_; rotate_left; (focus (intro x hx; have fx := HX.out x hx; go_simp; (try with_reducible rfl); done)); (try simp only [Act.put, List.setIfInBounds_toArray, List.set_cons_zero, List.set_cons_succ]))
                  (refine wpAnyH_takeW 11 rfl rfl (by kernel_rfl) (by kernel_rfl) (by kernel_rfl) (fun _ _ _ h => h) (v := ?_) (by kernel_rfl) hS ?_ ?_; rotate_left; (focus (intro x hx; have fx := HX.out x hx; go_simp; (try with_reducible rfl); done)); (try simp only [Act.put, List.setIfInBounds_toArray, List.set_cons_zero, List.set_cons_succ]))
                  (refine wpAnyH_one 17 (by kernel_rfl) rfl ?_; intro K' hK'; go_simp; refine (HP2.out _).mono ?_; rintro e w6 ⟨rfl, hb6⟩; have hS := hS.trans (hb6.mono hS.size); refine hK'.out _ _ hS ?_; clear hK' K')
                  (refine wpAnyH_takeW 18 rfl rfl (by kernel_rfl) (by kernel_rfl) (by kernel_rfl) (fun _ _ _ h => h) (v := ?_) (by kernel_rfl) hS ?_ ?_; rotate_left; (focus (intro x hx; have fx := HX.out x hx; go_simp; (try with_reducible rfl); done)); (try simp only [Act.put, List.setIfInBounds_toArray, List.set_cons_zero, List.set_cons_succ]))
                  (refine wpAnyH_takeW 19 rfl rfl (by kernel_rfl) (by kernel_rfl) (by kernel_rfl) (fun _ _ _ h => h) (v := ?_) (by kernel_rfl) hS ?_ ?_; rotate_left; (focus (intro x hx; have fx := HX.out x hx; go_simp; (try with_reducible rfl); done)); (try simp only [Act.put, List.setIfInBounds_toArray, List.set_cons_zero, List.set_cons_succ]))
                  (refine wpAnyH_takeW 20 rfl rfl (by kernel_rfl) (by kernel_rfl) (by kernel_rfl) (fun _ _ _ h => h) (v := ?_) (by kernel_rfl) hS ?_ ?_; rotate_left; (focus (intro x hx; have fx := HX.out x hx; go_simp; (try with_reducible rfl); done)); (try simp only [Act.put, List.setIfInBounds_toArray, List.set_cons_zero, List.set_cons_succ]))
                  refine wpAnyH_done (by kernel_rfl) ?_ _
                  have hb7 := HBY.out.trans ((HBW.out.trans (hS.mono HBW.out.size)).mono hwy)
                  go_wp2_with fail
                  go_roundw
                  case rel =>
                    have hx := HNX.out _ rfl
                    rw [HSEP.out, HPX.out] at hx
                    exact ⟨q + 1, by omega, by go_num, _, rfl, by have := hx.2; simp at this ⊢; omega, hb7, Lib.hid (by rw [hx.1.out]; simp)⟩
                  case measure => simp [intOf]; omega
            · have hd3 := hg.out
              rw [drop_end hltq, prBody] at hd3
              have hdd := HD.out
              rw [hd3] at hdd
              have HDD := Lib.hid hdd
              have q3 : ¬ 9223372036854775807 < o2.length + 2 := by omega
              have hpb4 : body.length ≤ 4 := p2
              clear hd3 hg hdd
              go_wp2_with fail
              go_roundw
              case rel => exact ⟨k + 1, by omega, by go_num, _, rfl, by simp; omega, hby, HTK, HDD⟩
              case measure => simp [intOf]; omega
      · have hd := hf.out
        rw [drop_end hlt, prRules] at hd
        have ht := hta.out
        rw [List.take_of_length_le (by omega)] at ht
        have hvv := HV.out
        rw [ht, hd] at hvv
        have hvv : v = (o, 0) := hvv
        subst hvv
        have HB := Lib.hid hb
        clear hd ht hf hta hb
        go_wp2_with fail
        go_ret2
        exact ⟨rfl, HB.out⟩
end Go.Proofs.YtjopmgoacncmgaaGreatDoor
