/- Rules: the sorted names of a map; Check. -/
import Derived.Test.YtjopmgoacncmgaaGreatDoorK11
import Derived.Test.YtjopmgoacncmgaaGreatDoorRfSort
import Derived.Test.YtjopmgoacncmgaaGreatDoorRfStr
import Derived.Test.YtjopmgoacncmgaaGreatDoorIter
set_option linter.unusedVariables false
set_option linter.unusedSimpArgs false
namespace Go.Proofs.YtjopmgoacncmgaaGreatDoor
open Go.RowKit Go.Maps

set_option maxRecDepth 100000 in
theorem run_lookK {w : World} {b : Nat} {m : KMap} {o : Oper} {a : Act} (hm : MapR w b m) (x y : Operand) (hop : o.op = Op.lookup 96 x y false) (hx : a.eval x = .map (some b)) (s : Bs) (hy : a.eval y = .string ⟨s.toArray⟩) (hs : s.length ≤ 9223372036854775807) :
    (execOp a.eval o).run Tryz.prog w = .ok (.value (.int .i64 (getV m s))) w := by
  obtain ⟨D, ho, h1, h2, h3⟩ := hm
  obtain ⟨c, hrun, hat, hwc⟩ := ho.lookup_int lawS Tryz.underlying96 Tryz.underlying3 (zeroI w) (WideMaps.keyOf_string_mk Tryz.underlying9 (s := ⟨s.toArray⟩) (by simpa [ByteArray.size, maxLen] using hs))
  rw [h2] at hat
  injection hat with hat
  injection hat with _ hat
  rw [hat]
  simp [execOp, hop, hx, hy, hrun, Result.andThen]

set_option maxRecDepth 100000 in
theorem sortedK_any (w : World) (b : Nat) (m : KMap) (hm : MapR w b m) (hnd : (keysK m).Nodup) (hlen : m.length ≤ 1000000) :
    Calls Tryz.prog 63 #[.func (.func 113) #[] #[.pointer (some ⟨w.heap.size, 0, none⟩)]] (w.alloc (.cells #[.map (some b)] 96))
      fun e w' => ∃ A c, e = .returned (.slice A (sortB (keysK m)).length c) ∧ Sl w' (fun k => w.heap.size ≤ k) A (sortB (keysK m)).length c (sortB (keysK m)) ∧ Below w.heap.size w w' := by
  obtain ⟨D, ho, h1, h2, h3⟩ := hm
  refine (callsIn_wide.1 (Tryz.slices_Sorted_keys_63_64 b _ D _ w ho (by simp [maxLen]; omega) (by omega))).mono ?_
  rintro e w' ⟨v, ss, rfl, hp, hrow, -, hb⟩
  have hperm : (keysK m).Perm (strKeys D) := by
    obtain ⟨es, hD, hpw, _⟩ := ho.entries lawS
    obtain ⟨es', hD', hko⟩ := ho.keysOf
    obtain rfl : es = es' := by rw [hD] at hD'; simpa using hD'
    subst hD
    refine perm_strKeys hpw (fun p hp => by obtain ⟨v, hv⟩ := hko p hp; obtain ⟨x, _, hx, _⟩ := Maps.keyOf_str Tryz.underlying9 hv; exact ⟨x, hx⟩) hnd (fun x => ?_)
    rw [h1, getK_mem]
  have hs : ss.mergeSort (fun x y => decide (x ≤ y)) = sortB (keysK m) := by
    rw [mergeSort_of_perm (hp.trans hperm.symm), merge_sortB _ hnd]
  have hlen2 : ss.length = (sortB (keysK m)).length := by rw [← hs, List.length_mergeSort]
  rw [hs, hlen2] at hrow
  generalize sortB (keysK m) = ks at *
  have hform : ∃ A c, v = .slice A ks.length c := by
    rcases hrow.2 with ⟨hv, h0⟩ | ⟨g, cap, cur, hv, _⟩
    · exact ⟨none, 0, by rw [hv, h0]⟩
    · exact ⟨_, _, hv⟩
  obtain ⟨A, c, rfl⟩ := hform
  have hrow' : w'.ownsRow (w.heap.size + 1) 9 1 (.slice A ks.length c) ks.length (ks.map encStr) := by simpa using hrow
  have hown : Own w' (fun _ => False) (w.heap.size + 1) 9 A c ks := ⟨_, hrow', fun i hi => by
    show (ks.map encStr).getD (i * GoT.size (List UInt8) + 0) undef = _
    have hz : GoT.size (List UInt8) = 1 := rfl
    rw [hz, List.getD_eq_getElem?_getD, show i * 1 + 0 = i by omega, List.getElem?_map, List.getElem?_eq_getElem hi]
    rfl⟩
  exact ⟨A, c, rfl, (hown.sl (by decide)).wide (fun k _ hk => hk.elim False.elim (fun hk => by have := (hown.lt k hk).1; omega)) (by decide), boxed.trans (hb.mono (by simp))⟩

theorem check_ok {l : List Rul} (h : (check0S l).2 = 0) : l.length ≤ 64 ∧ ∀ r ∈ l, ruleS r = true := by
  unfold check0S at h
  by_cases h64 : 64 < l.length
  · rw [if_pos h64] at h; cases h
  · rw [if_neg h64] at h
    cases hf : firstBad l 0 with
    | none => exact ⟨by omega, firstBad_none l 0 hf⟩
    | some e =>
      rw [hf] at h
      exfalso
      have : ∀ l i e, firstBad l i = some e → e.2 ≠ 0 := by
        intro l
        induction l with
        | nil => intro i e h; cases h
        | cons x t ih =>
          intro i e h
          rw [firstBad] at h
          split at h
          · injection h with h; subst h; intro h; cases h
          · split at h
            · injection h with h; subst h; intro h; cases h
            · exact ih _ _ h
      exact this _ _ _ hf h

set_option maxRecDepth 100000 in
set_option maxHeartbeats 1000000 in
theorem Check_any (A : Option Addr) (n c : Nat) (l : List Rul) (w : World) (S : Nat → Prop) (hl : Sl w S A n c l) (ho : ∀ r ∈ l, OkR r) (hL : LD w) :
    Calls Tryz.prog 20 #[.slice A n c] w fun e w' => e = .returned (.tuple #[.int .i64 (checkS53 l).1, .int .i64 (checkS53 l).2]) ∧ Below w.heap.size w w' := by
  have hc := check_any A n c l w S hl ho hL
  have hok := @check_ok l
  have hlv := fun w1 (hb : Below w.heap.size w w1) (h : (check0S l).2 = 0) => levels_any A n c l w1 S (hl.below hb) ho (hok h).2 (hok h).1
  obtain ⟨v, hv⟩ : ∃ v, v = checkS53 l := ⟨_, rfl⟩
  rw [← hv]
  unfold checkS53 at hv
  obtain ⟨c0, hc0⟩ : ∃ c0, c0 = check0S l := ⟨_, rfl⟩
  rw [← hc0] at hc hlv hv
  simp only at hv
  obtain ⟨c1, c2⟩ := c0
  by_cases h2 : c2 = 0
  · subst h2
    have hlv := fun w1 hb => hlv w1 hb rfl
    cases hL2 : levelsS l with
    | none =>
      rw [hL2] at hv
      have hlv2 : ∀ w1, Below w.heap.size w w1 → Calls Tryz.prog 59 #[.slice A n c] w1 fun e w' => e = .returned (.tuple #[.map none, .bool false]) ∧ Below w1.heap.size w1 w' := fun w1 hb => (hlv w1 hb).mono (by
        rintro e w' ⟨hb, ⟨_, he⟩ | ⟨m, b, hs, _⟩⟩
        · exact ⟨he, hb⟩
        · rw [hL2] at hs; cases hs)
      have HC := Lib.hid hc; have HLV := Lib.hid hlv2; have HV := Lib.hid hv
      clear hc hlv hlv2 hv hL2 hok hl ho hL hc0
      go_enter Tryz.func20, Tryz.ntmps20
      go_wp2_with (first | (go_at_call 58; refine HC.out.mono ?_; rintro e w1 ⟨rfl, hb1⟩) | (go_at_call 59; refine (HLV.out _ hb1).mono ?_; rintro e w2 ⟨rfl, hb2⟩))
      go_ret2
      exact ⟨by rw [HV.out]; rfl, next hb1 hb2 (Nat.le_refl _)⟩
    | some m =>
      rw [hL2] at hv
      have hlv2 : ∀ w1, Below w.heap.size w w1 → Calls Tryz.prog 59 #[.slice A n c] w1 fun e w' => ∃ b, e = .returned (.tuple #[.map (some b), .bool true]) ∧ Below w1.heap.size w1 w' := fun w1 hb => (hlv w1 hb).mono (by
        rintro e w' ⟨hb, ⟨hn, _⟩ | ⟨m, b, hs, he, _⟩⟩
        · rw [hL2] at hn; cases hn
        · exact ⟨b, he, hb⟩)
      have HC := Lib.hid hc; have HLV := Lib.hid hlv2; have HV := Lib.hid hv
      clear hc hlv hlv2 hv hL2 hok hl ho hL hc0
      go_enter Tryz.func20, Tryz.ntmps20
      go_wp2_with (first | (go_at_call 58; refine HC.out.mono ?_; rintro e w1 ⟨rfl, hb1⟩) | (go_at_call 59; refine (HLV.out _ hb1).mono ?_; rintro e w2 ⟨b, rfl, hb2⟩))
      go_ret2
      exact ⟨by rw [HV.out]; rfl, next hb1 hb2 (Nat.le_refl _)⟩
  · have HC := Lib.hid hc; have HV := Lib.hid hv
    clear hc hlv hv hok hl ho hL hc0
    have h2' : (c2 == 0) = false := by simpa using h2
    go_enter Tryz.func20, Tryz.ntmps20
    go_wp2_with (first | (go_at_call 58; refine HC.out.mono ?_; rintro e w1 ⟨rfl, hb1⟩))
    go_ret2
    refine ⟨?_, hb1⟩
    have hv := HV.out
    rw [if_pos h2] at hv
    rw [hv]
    rfl
end Go.Proofs.YtjopmgoacncmgaaGreatDoor
