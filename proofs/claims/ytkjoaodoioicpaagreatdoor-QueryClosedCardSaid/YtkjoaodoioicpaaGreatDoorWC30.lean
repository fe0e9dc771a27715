/- Query (package licitlaw54): a part of the proofs of its laws; see the law's own text, which comes last in 'order'. No conditions of its own. -/
import Derived.Test.YtkjoaodoioicpaaGreatDoorWC29
set_option linter.unusedVariables false
set_option linter.unusedSimpArgs false
namespace Go.Proofs.YtkjoaodoioicpaaGreatDoor
open Go.RowKit
def SmA (a : Atm) : Prop := a.args.length ≤ 10
def SmR (r : Rul) : Prop := SmA r.head ∧ r.body.length ≤ 8 ∧ ∀ x ∈ r.body, SmA x.atom
theorem mem_app1 {P : Atm → Prop} {out : List Atm} {a : Atm} (h : ∀ x ∈ out, P x) (ha : P a) : ∀ x ∈ out ++ [a], P x := by
  intro x hx
  rcases List.mem_append.1 hx with h1 | h1
  · exact h x h1
  · rw [List.mem_singleton.1 h1]; exact ha
set_option maxRecDepth 100000 in
set_option maxHeartbeats 8000000 in
theorem constants_any (l : List Rul) (facts : List Atm) (A : Option Addr) (n c : Nat) (B : Option Addr) (m d : Nat) (w : World) (S T : Nat → Prop) (hl : Sl w S A n c l) (hf : Sl w T B m d facts)
    (h1 : l.length ≤ 6) (h2 : facts.length ≤ 14) (h3 : ∀ r ∈ l, SmR r) (h4 : ∀ a ∈ facts, SmA a) :
    Calls Tryz.prog 51 #[.slice A n c, .slice B m d] w fun e w' => (∃ z, e = .returned (.int .i64 z)) ∧ Below w.heap.size w w' := by
  have hn := hl.len; have hm := hf.len
  subst hn hm
  have hle := hl.le; have hle2 := hf.le
  have HL := Lib.hid (hl.wide (S' := fun k => k < w.heap.size) (fun k hk _ => hk) (by decide)); have HF := Lib.hid (hf.wide (S' := fun k => k < w.heap.size) (fun k hk _ => hk) (by decide))
  have H3 := Lib.hid h3; have H4 := Lib.hid h4
  clear hl hf h3 h4
  go_enter Tryz.func51, Tryz.ntmps51
  go_wp2_with (at_builtin; go_loud (refine wpList_appN (e := 31) (T := fun k => k < w.heap.size) (base := w.heap.size) (xs := ([] : List Atm)) rfl (.tmp 13) (.tmp 14) eltAtm rfl (by decide) rfl rfl rfl (Own.emp (blkAt _ _ rfl) (Nat.le_refl _)) rfl ((HF.out.wide (fun k hk1 hk => ⟨hk, fun e => by injection e with e; exact absurd e (by have := hk1; simp only; omega)⟩) (by decide)).alloc _) (by simp; omega) (by simp; omega) (by simp) ?_); intro A0 c0 w1 hown0 hg0 hat0)
  have hb0 : Below w.heap.size w w1 := boxed.grown hg0 (by simp) (fun k hk => by have hk : some w.heap.size = some k := hk; injection hk with hk; omega)
  have HO0 := Lib.hid hown0; have HB0 := Lib.hid hb0
  clear hown0 hg0 hat0 hb0
  simp only [List.nil_append, Nat.zero_add] at HO0 ⊢
  go_wp2_with fail
  go_loopw [5, 6] (fun o i wr => ∃ k : Nat, k ≤ l.length ∧ i = .int .i64 k ∧ ∃ out A c, o = .slice A out.length c ∧ Own wr (fun b => b < w.heap.size) w.heap.size 31 A c out ∧ out.length ≤ 14 + 9 * k ∧ Hid (∀ a ∈ out, SmA a) ∧ Below w.heap.size w wr) (fun _ i _ => l.length - (intOf i).toNat)
  case atStart => exact ⟨0, by omega, rfl, facts, A0, c0, rfl, HO0.out, by omega, H4, HB0.out⟩
  case round =>
    obtain ⟨k, hk, rfl, out, A1, c1, rfl, hown, hol, hsm, hb⟩ := hrel
    clear HO0 HB0
    by_cases hlt : k < l.length
    · obtain ⟨b, o, rfl, hbS, hbs, A2, n2, c2, A3, n3, c3, q1, q2, q3, hs1, hs2⟩ := HL.out.rul hlt
      have hsr := H3.out l[k] (List.getElem_mem hlt)
      generalize l[k] = x at *
      obtain ⟨⟨nm, args⟩, body⟩ := x
      have hsr1 : SmA ⟨nm, args⟩ := hsr.1
      have hbl : body.length ≤ 8 := hsr.2.1
      have hsr2 : ∀ x ∈ body, SmA x.atom := hsr.2.2
      simp only at *
      have hn3 := hs2.len
      subst hn3
      have hle3 := hs2.le
      have hwz := hb.size
      have HK := Lib.hid (fun (z : World) (hz : Below w.heap.size w z) => cell_later hz q3)
      have q1 := cell_later hb q1; have q2 := cell_later hb q2
      have HO := Lib.hid hown; have HS1 := Lib.hid (hs1.below hb); have HS2 := Lib.hid hs2; have HB := Lib.hid hb; have HSR1 := Lib.hid hsr1; have HSR2 := Lib.hid hsr2
      clear hown hs1 hs2 hb hsr hsr1 hsr2 q3 hbS hbs
      go_wp2_with (at_builtin; go_loud (refine wpList_app1 rfl _ _ eltAtm rfl (by decide) rfl rfl rfl (HO.out.alloc _) rfl [.string ⟨nm.toArray⟩, .slice A2 n2 c2] (⟨nm, args⟩ : Atm) (blkAt _ _ rfl) rfl ⟨rfl, A2, n2, c2, rfl, (HS1.out.alloc _).wide (fun q _ hq => ⟨hq, HO.out.ne_lt hq⟩) (by decide)⟩ (by omega) (by omega) (by simp; omega) ?_); intro A4 c4 w4 hown4 hg4 hat4)
      have hb4 := (HB.out.alloc (by omega) (.cells #[.string ⟨nm.toArray⟩, .slice A2 n2 c2] 31)).grown hg4 (by simp; omega) (fun q hq => by have := (HO.out.lt q hq).1; omega)
      have HO4 := Lib.hid hown4; have HB4 := Lib.hid hb4
      clear hown4 hg4 hat4 hb4 HS1 q1 q2 HO HB
      have HSM4 := Lib.hid (mem_app1 hsm.out HSR1.out)
      have hl4 : (out ++ [(⟨nm, args⟩ : Atm)]).length = out.length + 1 := by simp
      clear hsm HSR1
      rw [show out.length + 1 = (out ++ [(⟨nm, args⟩ : Atm)]).length from hl4.symm]
      generalize out ++ [(⟨nm, args⟩ : Atm)] = out4 at *
      have hol4 : out4.length ≤ 14 + 9 * k + 1 := by omega
      clear hl4
      go_wp2_with fail
      go_loopw [5, 7] (fun o i wr => ∃ j : Nat, j ≤ body.length ∧ i = .int .i64 j ∧ ∃ out A c, o = .slice A out.length c ∧ Own wr (fun b => b < w.heap.size) w.heap.size 31 A c out ∧ out.length ≤ 14 + 9 * k + 1 + j ∧ Hid (∀ a ∈ out, SmA a) ∧ Below w.heap.size w wr) (fun _ i _ => body.length - (intOf i).toNat)
      case atStart => exact ⟨0, by omega, rfl, out4, A4, c4, rfl, HO4.out, by omega, HSM4, HB4.out⟩
      case round =>
        obtain ⟨j, hj, rfl, out5, A5, c5, rfl, hown, hol5, hsm5, hb⟩ := hrel
        clear HO4 HSM4 HB4
        have hwz := hb.size
        have q3 := HK.out _ hb
        have HO := Lib.hid hown; have HB := Lib.hid hb
        by_cases hlj : j < body.length
        · obtain ⟨b', o', rfl, -, hbs', B1, m1, d1, g1, g2, g3, g4, ht⟩ := (HS2.out.below hb).ltl hlj
          have hsy := HSR2.out body[j] (List.getElem_mem hlj)
          generalize body[j] = y at *
          obtain ⟨neg, op, ⟨ynm, yargs⟩⟩ := y
          simp only at *
          have HSY := Lib.hid hsy; have HT := Lib.hid ht
          clear hown hb hsy ht g1 g2
          go_wp2_with (at_builtin; go_loud (refine wpList_app1 rfl _ _ eltAtm rfl (by decide) rfl rfl rfl (HO.out.alloc _) rfl [.string ⟨ynm.toArray⟩, .slice B1 m1 d1] (⟨ynm, yargs⟩ : Atm) (blkAt _ _ rfl) rfl ⟨rfl, B1, m1, d1, rfl, (HT.out.alloc _).wide (fun q _ hq => ⟨hq, HO.out.ne_lt hq⟩) (by decide)⟩ (by omega) (by omega) (by simp; omega) ?_); intro A6 c6 w6 hown6 hg6 hat6)
          have hb6 := (HB.out.alloc (by omega) (.cells #[.string ⟨ynm.toArray⟩, .slice B1 m1 d1] 31)).grown hg6 (by simp; omega) (fun q hq => by have := (HO.out.lt q hq).1; omega)
          have HO6 := Lib.hid hown6; have HB6 := Lib.hid hb6
          clear hown6 hg6 hat6 hb6 HO HB g3 g4 q3
          have HSM6 := Lib.hid (mem_app1 hsm5.out HSY.out)
          go_wp2_with fail
          go_roundw
          case rel => exact ⟨j + 1, by omega, by go_num, _, A6, c6, by simp, HO6.out, by simp; omega, HSM6, HB6.out⟩
          case measure => simp [intOf]; omega
        · clear hown hb
          go_wp2_with fail
          go_roundw
          case rel => exact ⟨k + 1, by omega, by go_num, out5, A5, c5, rfl, HO.out, by omega, hsm5, HB.out⟩
          case measure => simp [intOf]; omega
    · have hol1 : out.length ≤ 68 := by omega
      have hsl := (hown.sl (by decide)).wide (S' := fun q => q < wr.heap.size) (fun q hq _ => hq) (by decide)
      have hwz := hb.size
      have hle4 := hsl.le
      obtain ⟨W1, hW1⟩ : ∃ W1, W1 = wr := ⟨_, rfl⟩
      subst hW1
      have HAL := Lib.hid hsl; have HB1 := Lib.hid hb
      clear hown hb hsl
      go_wp2_with fail
      go_loopw [8, 9] (fun o i wr => ∃ k : Nat, k ≤ out.length ∧ i = .int .i64 k ∧ ∃ (cs : List Arg) (A : Option Addr) (c : Nat), o = .slice A cs.length c ∧ Own wr (fun _ => False) W1.heap.size 46 A c cs ∧ cs.length ≤ 10 * k ∧ Below W1.heap.size W1 wr) (fun _ i _ => out.length - (intOf i).toNat)
      case atStart => exact ⟨0, by omega, rfl, [], none, 0, rfl, Own.nil _ _ _ _, by simp, Below.refl _ _⟩
      case round =>
        obtain ⟨i, hi, rfl, cs, A2, c2, rfl, hown, hcl, hb⟩ := hrel
        by_cases hli : i < out.length
        · obtain ⟨b, o, rfl, hbS, hbs, A3, n3, c3, q1, q2, hs3⟩ := HAL.out.atm hli
          have hsx : out[i].args.length ≤ 10 := hsm.out out[i] (List.getElem_mem hli)
          generalize out[i] = x at *
          obtain ⟨nm, args⟩ := x
          simp only at *
          have hn3 := hs3.len
          subst hn3
          have hle5 := hs3.le
          have HK := Lib.hid (fun (z : World) (hz : Below W1.heap.size W1 z) => cell_later hz q2)
          have HS3 := Lib.hid hs3; have HO := Lib.hid hown; have HB := Lib.hid hb
          have hwz2 := hb.size
          clear q1 q2 hs3 hown hb hbS hbs
          go_wp2_with fail
          go_loopw [8, 10] (fun o i' wr => ∃ k : Nat, k ≤ args.length ∧ i' = .int .i64 k ∧ ∃ (cs : List Arg) (A : Option Addr) (c : Nat), o = .slice A cs.length c ∧ Own wr (fun _ => False) W1.heap.size 46 A c cs ∧ cs.length ≤ 10 * i + k ∧ Below W1.heap.size W1 wr) (fun _ i _ => args.length - (intOf i).toNat)
          case atStart => exact ⟨0, by omega, rfl, cs, A2, c2, rfl, HO.out, by omega, HB.out⟩
          case round =>
            obtain ⟨j, hj, rfl, cs5, A5, c5, rfl, hown, hcl5, hb⟩ := hrel
            clear HO HB
            have q2 := HK.out _ hb
            have hwz3 := hb.size
            by_cases hlj : j < args.length
            · obtain ⟨b', o', rfl, hbS', hbs', g1, g2, g3⟩ := HS3.out.arg hlj
              generalize args[j] = y at *
              have HKY := Lib.hid (fun (z : World) (hz : Below W1.heap.size W1 z) => And.intro (cell_later hz g1) (And.intro (cell_later hz g2) (cell_later hz g3)))
              obtain ⟨yk, yt, yn⟩ := y
              simp only at *
              have g1 := (HKY.out _ hb).1
              have HO := Lib.hid hown; have HB := Lib.hid hb
              obtain ⟨W2, hW2⟩ : ∃ W2, W2 = wr := ⟨_, rfl⟩
              subst hW2
              have hcle := (hown.sl (by decide)).le
              clear hown hb g2 g3
              go_wp2_with fail
              go_loopw [11, 12] (fun f i' wr => ∃ k : Nat, k ≤ cs5.length ∧ i' = .int .i64 k ∧ (∃ q, f = .bool q) ∧ Below W2.heap.size W2 wr) (fun _ i _ => cs5.length - (intOf i).toNat)
              case atStart => exact ⟨0, by omega, rfl, ⟨_, rfl⟩, Below.refl _ _⟩
              case round =>
                obtain ⟨m, hm, rfl, ⟨q, rfl⟩, hb2⟩ := hrel
                have hb3 := HB.out.trans (hb2.mono HB.out.size)
                have q2 := HK.out _ hb3
                have hwz4 := hb3.size
                have HKZ := HKY.out _ hb3
                cases q
                · by_cases hlm : m < cs5.length
                  · obtain ⟨b6, o6, rfl, -, hbs6, e1, e2, e3⟩ := ((HO.out.below hb2).sl (by decide)).arg hlm
                    generalize cs5[m] = u at *
                    obtain ⟨uk, ut, un⟩ := u
                    obtain ⟨f1, f2, f3⟩ := HKZ
                    simp only at *
                    have HX := Lib.hid (fun (x : World) (hx : Below wr.heap.size wr x) => And.intro (cell_later hx q2) (And.intro (cell_later hx f1) (And.intro (cell_later hx f2) (And.intro (cell_later hx f3) (And.intro (cell_later hx e1) (And.intro (cell_later hx e2) (cell_later hx e3)))))))
                    have HB2 := Lib.hid hb2
                    have m1 : (m : Int) < (cs5.length : Int) := by omega
                    have m2 : (i : Int) < (out.length : Int) := by omega
                    have m3 : (j : Int) < (args.length : Int) := by omega
                    clear q2 f1 f2 f3 e1 e2 e3 hb2 hb3
                    go_wp2_with fail
                    refine wpH_region (fun x => Below wr.heap.size wr x) (by kernel_rfl) ?_
                    have hS : Below wr.heap.size wr wr.drew := (Below.refl _ _).drew
                    (refine tkW 0 (v := ?_) hS ?_ ?_; rotate_left; (focus (intro x hx; have fx := HX.out x hx; go_simp; (try with_reducible rfl); done)); (try simp only [Act.put, lsa, lsz, lss]))
                    (refine tkW 1 (v := ?_) hS ?_ ?_; rotate_left; (focus (intro x hx; have fx := HX.out x hx; go_simp; (try with_reducible rfl); done)); (try simp only [Act.put, lsa, lsz, lss]))
                    (refine tkW 2 (v := ?_) hS ?_ ?_; rotate_left; (focus (intro x hx; have fx := HX.out x hx; go_simp; (try with_reducible rfl); done)); (try simp only [Act.put, lsa, lsz, lss]))
                    (refine tkW 3 (v := ?_) hS ?_ ?_; rotate_left; (focus (intro x hx; have fx := HX.out x hx; go_simp; (try with_reducible rfl); done)); (try simp only [Act.put, lsa, lsz, lss]))
                    (refine tkW 4 (v := ?_) hS ?_ ?_; rotate_left; (focus (intro x hx; have fx := HX.out x hx; go_simp; (try with_reducible rfl); done)); (try simp only [Act.put, lsa, lsz, lss]))
                    (refine tkW 5 (v := ?_) hS ?_ ?_; rotate_left; (focus (intro x hx; have fx := HX.out x hx; go_simp; (try with_reducible rfl); done)); (try simp only [Act.put, lsa, lsz, lss]))
                    (refine tkW 6 (v := ?_) hS ?_ ?_; rotate_left; (focus (intro x hx; have fx := HX.out x hx; go_simp; (try with_reducible rfl); done)); (try simp only [Act.put, lsa, lsz, lss]))
                    (refine tkW 7 (v := ?_) hS ?_ ?_; rotate_left; (focus (intro x hx; have fx := HX.out x hx; go_simp; (try with_reducible rfl); done)); (try simp only [Act.put, lsa, lsz, lss]))
                    (refine tkW 8 (v := ?_) hS ?_ ?_; rotate_left; (focus (intro x hx; have fx := HX.out x hx; go_simp; (try with_reducible rfl); done)); (try simp only [Act.put, lsa, lsz, lss]))
                    (refine tkW 9 (v := ?_) hS ?_ ?_; rotate_left; (focus (intro x hx; have fx := HX.out x hx; go_simp; (try with_reducible rfl); done)); (try simp only [Act.put, lsa, lsz, lss]))
                    (refine tkW 10 (v := ?_) hS ?_ ?_; rotate_left; (focus (intro x hx; have fx := HX.out x hx; go_simp; (try with_reducible rfl); done)); (try simp only [Act.put, lsa, lsz, lss]))
                    (refine tkW 11 (v := ?_) hS ?_ ?_; rotate_left; (focus (intro x hx; have fx := HX.out x hx; go_simp; (try with_reducible rfl); done)); (try simp only [Act.put, lsa, lsz, lss]))
                    by_cases hpq : uk = yk ∧ ut = yt ∧ un = yn
                    · obtain ⟨rfl, rfl, rfl⟩ := hpq
                      (refine tkW 12 (v := ?_) hS ?_ ?_; rotate_left; (focus (intro x hx; have fx := HX.out x hx; go_simp; (try with_reducible rfl); done)); (try simp only [Act.put, lsa, lsz, lss]))
                      (refine tkW 13 (v := ?_) hS ?_ ?_; rotate_left; (focus (intro x hx; have fx := HX.out x hx; go_simp; (try with_reducible rfl); done)); (try simp only [Act.put, lsa, lsz, lss]))
                      refine wpAnyH_done (by kernel_rfl) ?_ _
                      have HB7 := Lib.hid (HB2.out.trans (hS.mono HB2.out.size))
                      clear hS HX
                      go_wp2_with fail
                      go_roundw
                      case rel => exact ⟨m + 1, by omega, by go_num, ⟨_, rfl⟩, HB7.out⟩
                      case measure => simp [intOf]; omega
                    · refine wpAnyH_takeW 12 rfl rfl (by kernel_rfl) (by kernel_rfl) (by kernel_rfl) (fun _ _ _ h => h) (v := .bool false) (by kernel_rfl) hS (fun x hx => by have fx := HX.out x hx; go_simp; exact fun a b c => hpq ⟨a, b, c⟩) ?_
                      simp only [Act.put, lsa, lsz, lss]
                      (refine tkW 13 (v := ?_) hS ?_ ?_; rotate_left; (focus (intro x hx; have fx := HX.out x hx; go_simp; (try with_reducible rfl); done)); (try simp only [Act.put, lsa, lsz, lss]))
                      refine wpAnyH_done (by kernel_rfl) ?_ _
                      have HB7 := Lib.hid (HB2.out.trans (hS.mono HB2.out.size))
                      clear hS HX hpq
                      go_wp2_with fail
                      go_roundw
                      case rel => exact ⟨m + 1, by omega, by go_num, ⟨_, rfl⟩, HB7.out⟩
                      case measure => simp [intOf]; omega
                  · obtain ⟨f1, f2, f3⟩ := HKZ
                    (try simp only at f1 f2 f3)
                    have HO6 := Lib.hid (HO.out.below hb2)
                    have HB3 := Lib.hid hb3
                    clear hb2 hb3
                    go_wp2_with (at_builtin; go_loud (refine wpList_app1 rfl _ _ eltArg rfl (by decide) rfl rfl rfl (HO6.out.alloc _) rfl [.int .i64 yk, .string ⟨yt.toArray⟩, .int .i64 yn] (⟨yk, yt, yn⟩ : Arg) (blkAt _ _ rfl) rfl ⟨rfl, rfl, rfl⟩ (by omega) (by omega) (by simp; omega) ?_); intro A6 c6 w6 hown6 hg6 hat6)
                    have hb6 := (HB3.out.alloc (by omega) (.cells #[.int .i64 yk, .string ⟨yt.toArray⟩, .int .i64 yn] 46)).grown hg6 (by simp; omega) (fun q hq => by have := (HO6.out.lt q hq).1; omega)
                    have HO7 := Lib.hid hown6; have HB6 := Lib.hid hb6
                    clear hown6 hg6 hat6 hb6 q2 f1 f2 f3
                    go_wp2_with fail
                    go_roundw
                    case rel => exact ⟨j + 1, by omega, by go_num, _, A6, c6, by simp, HO7.out, by simp; omega, HB6.out⟩
                    case measure => simp [intOf]; omega
                · have HO6 := Lib.hid (HO.out.below hb2)
                  have HB3 := Lib.hid hb3
                  clear hb2 hb3 HKZ q2
                  by_cases hlm : m < cs5.length
                  · go_wp2_with fail
                    go_roundw
                    case rel => exact ⟨j + 1, by omega, by go_num, cs5, A5, c5, rfl, HO6.out, by omega, HB3.out⟩
                    case measure => simp [intOf]; omega
                  · go_wp2_with fail
                    go_roundw
                    case rel => exact ⟨j + 1, by omega, by go_num, cs5, A5, c5, rfl, HO6.out, by omega, HB3.out⟩
                    case measure => simp [intOf]; omega
            · have HO := Lib.hid hown; have HB := Lib.hid hb
              clear hown hb
              go_wp2_with fail
              go_roundw
              case rel => exact ⟨i + 1, by omega, by go_num, cs5, A5, c5, rfl, HO.out, by omega, HB.out⟩
              case measure => simp [intOf]; omega
        · have HB := Lib.hid hb
          clear hown hb
          go_wp2_with fail
          go_ret
          exact ⟨⟨_, by rfl⟩, HB1.out.trans (HB.out.mono HB1.out.size)⟩
end Go.Proofs.YtkjoaodoioicpaaGreatDoor
namespace Go.Proofs.YtkjoaodoioicpaaGreatDoor
open Go.RowKit
set_option maxRecDepth 100000 in
set_option maxHeartbeats 8000000 in
theorem bounded_any (l : List Rul) (facts : List Atm) (A : Option Addr) (n c : Nat) (B : Option Addr) (m d : Nat) (w : World) (S T : Nat → Prop) (hl : Sl w S A n c l) (hf : Sl w T B m d facts)
    (h1 : l.length ≤ 6) (h2 : facts.length ≤ 14) (h3 : ∀ r ∈ l, SmR r) (h4 : ∀ a ∈ facts, SmA a) :
    Calls Tryz.prog 26 #[.slice A n c, .slice B m d] w fun e w' => (∃ q, e = .returned (.bool q)) ∧ Below w.heap.size w w' := by
  have hn := hl.len; have hm := hf.len
  subst hn hm
  have hle := hl.le; have hle2 := hf.le
  have hcn := constants_any l facts A _ c B _ d w S T hl hf h1 h2 h3 h4
  have HL := Lib.hid hl; have HF := Lib.hid hf
  have H3 := Lib.hid h3; have HCN := Lib.hid hcn
  clear hl hf h3 h4 hcn
  go_enter Tryz.func26, Tryz.ntmps26
  go_wp2_with fail
  refine HCN.out.mono ?_
  rintro e w1 ⟨⟨z, rfl⟩, hb1⟩
  have HB1 := Lib.hid hb1
  clear hb1 HCN
  go_wp2_with fail
  go_loopw [6, 7] (fun o i wr => ∃ k : Nat, k ≤ l.length ∧ i = .int .i64 k ∧ (∃ y, o = .int .i64 y) ∧ Below w.heap.size w wr) (fun _ i _ => l.length - (intOf i).toNat)
  case atStart => exact ⟨0, by omega, rfl, ⟨0, rfl⟩, HB1.out⟩
  case round =>
    obtain ⟨k, hk, rfl, ⟨y, rfl⟩, hb⟩ := hrel
    clear HB1
    by_cases hlt : k < l.length
    · obtain ⟨b, o, rfl, hbS, hbs, A2, n2, c2, A3, n3, c3, q1, q2, q3, hs1, hs2⟩ := HL.out.rul hlt
      have hsr := H3.out l[k] (List.getElem_mem hlt)
      generalize l[k] = x at *
      obtain ⟨⟨nm, args⟩, body⟩ := x
      have hbl : body.length ≤ 8 := hsr.2.1
      have hsr2 : ∀ x ∈ body, SmA x.atom := hsr.2.2
      simp only at *
      have hn3 := hs2.len
      subst hn3
      have hle3 := hs2.le
      have hwz := hb.size
      have HK := Lib.hid (fun (z : World) (hz : Below w.heap.size w z) => cell_later hz q3)
      have HS2 := Lib.hid hs2; have HB := Lib.hid hb; have HSR2 := Lib.hid hsr2
      clear hs1 hs2 hb hsr hsr2 q1 q2 q3 hbS hbs
      go_wp2_with fail
      go_loopw [8, 9, 10, 11] (fun p mo o i wr => ∃ j : Nat, j ≤ body.length ∧ i = .int .i64 j ∧ (∃ y, p = .int .i64 y) ∧ (∃ y, mo = .int .i64 y) ∧ ∃ (ns : List Bs) (A : Option Addr) (c : Nat), o = .slice A ns.length c ∧ Own wr (fun _ => False) w.heap.size 9 A c ns ∧ ns.length ≤ 10 * j ∧ Below w.heap.size w wr) (fun _ _ _ i _ => body.length - (intOf i).toNat)
      case atStart => exact ⟨0, by omega, rfl, ⟨1, rfl⟩, ⟨0, rfl⟩, [], none, 0, rfl, Own.nil _ _ _ _, by simp, HB.out⟩
      case round =>
        obtain ⟨j, hj, rfl, ⟨p, rfl⟩, ⟨mo, rfl⟩, ns, A5, c5, rfl, hown, hnl, hb⟩ := hrel
        clear HB
        have hwz := hb.size
        have q3 := HK.out _ hb
        have HO := Lib.hid hown; have HB := Lib.hid hb
        by_cases hlj : j < body.length
        · obtain ⟨b', o', rfl, hbS', hbs', B1, m1, d1, g1, g2, g3, g4, ht⟩ := HS2.out.ltl hlj
          have g1 := cell_later hb g1; have g2 := cell_later hb g2; have g3 := cell_later hb g3; have g4 := cell_later hb g4
          have hsy := HSR2.out body[j] (List.getElem_mem hlj)
          generalize body[j] = x at *
          have hpos := fun w' => posR_any x B1 m1 d1 w'
          obtain ⟨neg, op, ⟨xnm, xargs⟩⟩ := x
          have hsx : xargs.length ≤ 10 := hsy
          simp only at *
          have hn5 := ht.len
          subst hn5
          have hle5 := ht.le
          generalize positiveS _ = pv at *
          have HT0 := Lib.hid ht; have HP := Lib.hid hpos
          clear hown hb hsy ht hpos
          go_wp2_with fail
          refine (HP.out _).mono ?_
          rintro e w2 ⟨rfl, hb2⟩
          have hX2 := keptBlk hb2 (blkAt wr (.cells #[.bool neg, .string ⟨op.toArray⟩, .string ⟨xnm.toArray⟩, .slice B1 xargs.length d1] 60) rfl)
          have hb3 : Below w.heap.size w w2 := (HB.out.alloc (by omega) _).trans (hb2.mono (by simp; omega))
          have ho2 := (HO.out.alloc (.cells #[.bool neg, .string ⟨op.toArray⟩, .string ⟨xnm.toArray⟩, .slice B1 xargs.length d1] 60)).below hb2
          have hne2 : A5.map Addr.block ≠ some wr.heap.size := fun e => by have := (HO.out.lt _ e).2; omega
          obtain ⟨bx, hbx⟩ : ∃ bx, bx = wr.heap.size := ⟨_, rfl⟩
          rw [← hbx] at hX2 hne2
          rw [← hbx]
          have hbxw : w.heap.size ≤ bx := by omega
          have HX2 := Lib.hid hX2; have HB3 := Lib.hid hb3; have HO2 := Lib.hid ho2; have HNE := Lib.hid hne2
          clear hX2 hb2 hb3 ho2 hne2 HB HO HP hbx q3 g1 g2 g3 g4
          cases pv
          · go_wp2_with fail
            go_roundw
            case rel => exact ⟨j + 1, by omega, by go_num, ⟨_, rfl⟩, ⟨_, rfl⟩, ns, A5, c5, rfl, HO2.out, by omega, HB3.out⟩
            case measure => simp [intOf]; omega
          · have e0 := (cell_blk HX2.out 2).trans rfl
            go_wp2_with fail
            refine (instances_any l facts _ _ c B _ d xnm z w2 _ _ (HL.out.below HB3.out) (HF.out.below HB3.out)).mono ?_
            rintro e w3 ⟨⟨q, rfl⟩, rfl⟩
            clear e0
            go_wp2_with fail
            go_loopw [10, 13] (fun o i wr => ∃ m : Nat, m ≤ xargs.length ∧ i = .int .i64 m ∧ ∃ (ns : List Bs) (A : Option Addr) (c : Nat), o = .slice A ns.length c ∧ Own wr (fun _ => False) w.heap.size 9 A c ns ∧ ns.length ≤ 10 * j + m ∧ Below w.heap.size w wr ∧ A.map Addr.block ≠ some bx ∧ wr.heap[bx]? = some (.cells #[.bool neg, .string ⟨op.toArray⟩, .string ⟨xnm.toArray⟩, .slice B1 xargs.length d1] 60 (0, 0))) (fun _ i _ => xargs.length - (intOf i).toNat)
            case atStart => exact ⟨0, by omega, rfl, ns, A5, c5, rfl, HO2.out, by omega, HB3.out, HNE.out, HX2.out⟩
            case round =>
              obtain ⟨m, hm, rfl, ns6, A6, c6, rfl, hown, hnl6, hb, hne, hX⟩ := hrel
              clear HO2 HB3 HNE HX2
              have e3 := (cell_blk hX 3).trans rfl
              have hbxl := (Array.getElem?_eq_some_iff.1 hX).1
              have hwz6 := hb.size
              have HO := Lib.hid hown; have HB := Lib.hid hb; have HNE := Lib.hid hne; have HX := Lib.hid hX
              by_cases hlm : m < xargs.length
              · obtain ⟨b7, o7, rfl, -, hbs7, f1, f2, f3⟩ := (HT0.out.below hb).arg hlm
                generalize xargs[m] = u at *
                have hha := fun t => has54_any A6 ns6.length c6 ns6 t wr _ (hown.sl (by decide))
                obtain ⟨uk, ut, un⟩ := u
                simp only at *
                have hha := hha ut
                by_cases hk1 : uk = 1
                · subst hk1
                  generalize ns6.contains ut = cv at *
                  have HHA := Lib.hid hha
                  clear hown hb hne hX hha f3
                  go_wp2_with fail
                  refine HHA.out.mono ?_
                  rintro e w7 ⟨rfl, rfl⟩
                  cases cv
                  · go_wp2_with (at_builtin; go_loud (refine wpList_app1 rfl _ _ eltStr rfl (by decide) rfl rfl rfl (HO.out.alloc _) rfl [.string ⟨ut.toArray⟩] ut (blkAt _ _ rfl) rfl rfl (by omega) (by omega) (by simp; omega) ?_); intro A8 c8 w8 hown8 hg8 hat8)
                    have hb8 := (HB.out.alloc (by omega) (.cells #[.string ⟨ut.toArray⟩] 9)).grown hg8 (by simp; omega) (fun q hq => by have := (HO.out.lt q hq).1; omega)
                    have hX8 := grownBlk hg8 (blkOld HX.out _) HNE.out
                    have hne8 : A8.map Addr.block ≠ some bx := by
                      rcases hat8 with h | h
                      · rw [h]; exact HNE.out
                      · rw [h]; intro e; injection e with e; simp at e; omega
                    have HO8 := Lib.hid hown8; have HB8 := Lib.hid hb8; have HX8 := Lib.hid hX8; have HNE8 := Lib.hid hne8
                    clear hown8 hb8 hX8 hne8 hg8 hat8 e3 f1 f2
                    go_wp2_with fail
                    go_roundw
                    case rel => exact ⟨m + 1, by omega, by go_num, _, A8, c8, by simp, HO8.out, by simp; omega, HB8.out, HNE8.out, HX8.out⟩
                    case measure => simp [intOf]; omega
                  · go_wp2_with fail
                    go_roundw
                    case rel => exact ⟨m + 1, by omega, by go_num, ns6, A6, c6, rfl, HO.out, by omega, HB.out, HNE.out, HX.out⟩
                    case measure => simp [intOf]; omega
                · have hkb : (uk == 1) = false := by simpa using hk1
                  clear hown hb hne hX hha f3 f2 hk1
                  go_wp2_with fail
                  go_roundw
                  case rel => exact ⟨m + 1, by omega, by go_num, ns6, A6, c6, rfl, HO.out, by omega, HB.out, HNE.out, HX.out⟩
                  case measure => simp [intOf]; omega
              · clear hown hb hne hX
                go_wp2_with fail
                refine (power_any z ns6.length (by omega) wr).mono ?_
                rintro e w7 ⟨⟨q7, rfl⟩, rfl⟩
                go_wp2_with fail
                go_roundw
                case rel => exact ⟨j + 1, by omega, by go_num, ⟨_, rfl⟩, ⟨_, rfl⟩, ns6, A6, c6, rfl, HO.out, by omega, HB.out⟩
                case measure => simp [intOf]; omega
        · clear hown hb
          go_wp2_with fail
          go_roundw
          case rel => exact ⟨k + 1, by omega, by go_num, ⟨_, rfl⟩, HB.out⟩
          case measure => simp [intOf]; omega
    · have HB := Lib.hid hb
      clear hb
      go_wp2_with fail
      go_ret
      exact ⟨⟨_, by rfl⟩, HB.out⟩
end Go.Proofs.YtkjoaodoioicpaaGreatDoor
