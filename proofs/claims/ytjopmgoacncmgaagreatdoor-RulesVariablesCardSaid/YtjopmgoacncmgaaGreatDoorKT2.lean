/- Rules: tokens of a line. -/
import Derived.Test.YtjopmgoacncmgaaGreatDoorKT1
import Derived.Test.YtjopmgoacncmgaaGreatDoorRfSpl
import Derived.Test.YtjopmgoacncmgaaGreatDoorKP1
set_option linter.unusedVariables false
set_option linter.unusedSimpArgs false
namespace Go.Proofs.YtjopmgoacncmgaaGreatDoor
open Go.RowKit

theorem trimL_any (s : Bs) (w : World) : Calls Tryz.prog 41 #[.string ⟨s.toArray⟩, .string ⟨#[32]⟩] w fun e w' => e = .returned (.string ⟨(trimS s).toArray⟩) ∧ w' = w := by
  have h := Tryz.strings_TrimLeft_one ⟨s.toArray⟩ 32 (by decide) w
  exact h
theorem symS_le (l : List Bs) (s : Bs) : symS l s ≤ s.length := by
  induction l with
  | nil => exact Nat.zero_le _
  | cons t r ih =>
    rw [symS]
    split
    · rename_i h
      exact (List.isPrefixOf_iff_prefix.1 h).length_le
    · exact ih
theorem lenS_le (x : UInt8) (r : Bs) : lenS (x :: r) ≤ (x :: r).length := by
  unfold lenS
  simp only [List.headD_cons, List.drop_one, List.tail_cons]
  have h1 := span_le varB r
  have h2 := span_le digB r
  have h3 := span_le (fun c => c != 34) r
  split
  · rw [List.length_cons]; omega
  · split
    · rw [List.length_cons]; omega
    · split
      · split
        · omega
        · rw [List.length_cons] at *; omega
      · exact symS_le _ _
def TPost (w : World) (r : List Bs × Bool) (e : Ending) (w' : World) : Prop :=
  ∃ A c, e = .returned (.tuple #[.slice A r.1.length c, .bool r.2]) ∧ Sl w' (fun b => w.heap.size ≤ b) A r.1.length c r.1 ∧ Below w.heap.size w w'

set_option maxRecDepth 100000 in
set_option maxHeartbeats 4000000 in
theorem tokens_any (s : Bs) (w : World) (hl : s.length ≤ 4294967000) :
    Calls Tryz.prog 42 #[.string ⟨s.toArray⟩] w (TPost w (tokensS s)) := by
  obtain ⟨V, hV⟩ : ∃ V, V = tokensS s := ⟨_, rfl⟩
  rw [← hV]
  unfold tokensS at hV
  have HV : Hid (V = tokGo (s.length + 1) (trimS s) []) := hV
  clear hV
  have htl := trim_len s
  go_enter Tryz.func42, Tryz.ntmps42
  go_wp2_with fail
  refine (trimL_any s _).mono ?_
  rintro e w1 ⟨rfl, rfl⟩
  go_wp2_with fail
  have hown0 : Own w1 (fun _ => False) w1.heap.size 9 none 0 ([] : List Bs) := Own.nil _ _ _ _
  go_loopg [0, 4] (s.length + 1) (fun f sv o wx => ∃ (t : Bs) (out : List Bs) (A : Option Addr) (c : Nat), sv = .string ⟨t.toArray⟩ ∧ o = .slice A out.length c ∧ Own wx (fun _ => False) w1.heap.size 9 A c out ∧ Below w1.heap.size w1 wx ∧ t.length < f ∧ t.length + out.length ≤ s.length ∧ Hid (V = tokGo f t out))
  case atStart => exact ⟨trimS s, [], none, 0, rfl, rfl, hown0, Below.refl _ _, by omega, by simpa using htl, HV⟩
  case round =>
    obtain ⟨t, out, A, c, rfl, rfl, hown, hb, hlt, hsum, hf⟩ := hrel
    have hsz := hb.size
    obtain ⟨f, rfl⟩ : ∃ f, gk = f + 1 := ⟨gk - 1, by omega⟩
    have hd := hf.out
    rw [tokGo] at hd
    cases t with
    | nil =>
      have hd : V = (out, true) := hd
      have HD := Lib.hid hd; have HO := Lib.hid hown; have HB := Lib.hid hb; clear hd hown hf hb
      go_wp2_with fail
      refine bodyPost_ret (v := .tuple #[.slice A out.length c, .bool true]) (by simp [results, Tryz.results42, go_sem]) rfl ?_
      rw [HD.out]
      exact ⟨A, c, rfl, (HO.out.sl (by decide)).wide (fun k _ hk => hk.elim False.elim (fun hk => (HO.out.lt k hk).1)) (by decide), HB.out⟩
    | cons x r =>
      have hlen := length_any x r
      have hle := lenS_le x r
      rw [if_neg (by simp)] at hd
      generalize lenS (x :: r) = n at *
      have hlx : (x :: r).length ≤ 4294967000 := by omega
      have hlen := fun w => hlen w hlx
      have HLEN := Lib.hid hlen; have HO := Lib.hid hown; have HB := Lib.hid hb; clear hlen hown hf hb
      by_cases hn : n = 0
      · rw [if_pos hn] at hd
        subst hn
        have HD := Lib.hid hd; clear hd
        go_wp2_with fail
        refine (HLEN.out _).mono ?_
        rintro e w2 ⟨rfl, hb2⟩
        go_wp2_with fail
        refine bodyPost_ret (v := .tuple #[.slice none 0 0, .bool false]) (by simp [results, Tryz.results42, go_sem]) rfl ?_
        rw [HD.out]
        exact ⟨none, 0, rfl, Sl.nil _ _ _ _ (by omega), next HB.out hb2 (Nat.le_refl _)⟩
      · rw [if_neg hn] at hd
        have hnI : ((n : Int) == 0) = false := by rw [beq_eq_false_iff_ne]; omega
        have HD := Lib.hid hd; clear hd
        have htl2 := trim_len ((x :: r).drop n)
        rw [List.length_drop] at htl2
        have hle2 : n ≤ r.length + 1 := hle
        have hlx2 : r.length + 1 ≤ 4294967000 := hlx
        have hsum2 : r.length + 1 + out.length ≤ s.length := hsum
        have hlt2 : r.length + 1 < f + 1 := hlt
        have htl3 : (trimS ((x :: r).drop n)).length ≤ r.length + 1 - n := htl2
        clear hle hlx hsum hlt htl2 hlen
        go_wp2_with fail
        refine (HLEN.out _).mono ?_
        rintro e w2 ⟨rfl, hb2⟩
        have hsz2 := hb2.size
        have HO2 := Lib.hid (HO.out.below hb2); have HB2 := Lib.hid (next HB.out hb2 (Nat.le_refl _)); clear hb2
        go_wp2_with (first | (at_builtin; go_loud (refine wpList_app1 rfl _ _ eltStr rfl (by decide) rfl rfl rfl (HO2.out.alloc _) rfl [.string ⟨((x :: r).take n).toArray⟩] ((x :: r).take n) (blkAt _ _ (by simp)) rfl rfl (by omega) (by omega) (by simp; omega) ?_); intro A' c' w3 hown' hg hat))
        refine (trimL_any ((x :: r).drop n) _).mono ?_
        rintro e w4 ⟨rfl, rfl⟩
        go_wp2_with fail
        have hsz3 := hg.size
        simp at hsz3
        go_roundg f
        case measure => omega
        case rel => exact ⟨trimS ((x :: r).drop n), out ++ [(x :: r).take n], A', c', rfl, by simp, hown', (HB2.out.alloc (by omega) _).grown hg (by simp; omega) (fun k hk => (HO2.out.lt k hk).1), by omega, by simp; omega, HD.out⟩
end Go.Proofs.YtjopmgoacncmgaaGreatDoor
