/- Query (package licitlaw54): a part of the proofs of its laws; see the law's own text, which comes last in 'order'. No conditions of its own. -/
import Derived.Test.YtkjoaodoioicpaaGreatDoorWC01
import Derived.Test.YtkjoaodoioicpaaGreatDoorWC03
import Derived.Test.YtkjoaodoioicpaaGreatDoorWC06
import Derived.Test.YtkjoaodoioicpaaGreatDoorWC13
set_option linter.unusedVariables false
set_option linter.unusedSimpArgs false
namespace Go.Proofs.YtkjoaodoioicpaaGreatDoor
open Go.RowKit
instance : GoT Value where
  size := 1
  rd := fun _ _ g x => g 0 = x ∧ x.oneCell' = true
  keep := fun _ h => h
  wide := fun _ h => h
  same := fun hg h => ⟨(hg 0 (by omega)).trans h.1, h.2⟩
  one := fun h j hj => by obtain rfl : j = 0 := by omega
                          rw [h.1]; exact h.2
section
variable {w w' : World} {T : Nat → Prop} {base e : Nat} {A : Option Addr} {c : Nat} {xs : List Value}
theorem Own.at1 (h : Own w T base e A c xs) {k : Nat} (hk : k < xs.length) : ∃ g, A = some ⟨g, 0, none⟩ ∧ base ≤ g ∧ g < w.heap.size ∧ w.cell? ⟨g, k, none⟩ = some xs[k] ∧ w.frozen? ⟨g, k, none⟩ = false := by
  obtain ⟨cs, ⟨hl, h2⟩, h3⟩ := h
  have hz : GoT.size Value = 1 := rfl
  rcases h2 with ⟨_, h0⟩ | ⟨g, cap, cur, hv, hb, hg, hn, hm, hcs, htk⟩
  · omega
  · injection hv with hA hn' hc'
    refine ⟨g, hA, hb, (Array.getElem?_eq_some_iff.1 hg).1, ?_, frz_blk hg k⟩
    rw [cell_blk hg]
    have hr := (h3 k hk).1
    rw [hz] at hl htk hr
    have hr : cs.getD (k * 1 + 0) undef = xs[k] := hr
    have hlt : k < cs.length := by omega
    rw [List.getD_eq_getElem?_getD, show k * 1 + 0 = k by omega, List.getElem?_eq_getElem hlt, Option.getD_some] at hr
    rw [← hr]
    have h5 : cs[k]? = some cs[k] := List.getElem?_eq_getElem hlt
    rw [← h5]
    conv => rhs; rw [← htk]
    rw [List.getElem?_take, if_pos (by omega), Array.getElem?_toList]
theorem Own.put1 (h : Own w T base e A c xs) {k g : Nat} (hk : k < xs.length) (hA : A = some ⟨g, 0, none⟩) (v : Value) (hv : v.oneCell' = true) : Own (w.setCell ⟨g, k, none⟩ v) T base e A c (xs.set k v) := by
  obtain ⟨cs, ⟨hl, h2⟩, h3⟩ := h
  have hz : GoT.size Value = 1 := rfl
  rw [hz] at hl
  rcases h2 with ⟨_, h0⟩ | ⟨g2, cap, cur, hv2, hb, hg, hn, hm, hcs, htk⟩
  · omega
  · injection hv2 with hA2 hn' hc'
    rw [hA] at hA2
    injection hA2 with hA2
    injection hA2 with hA2
    subst hA2
    refine ⟨cs.set k v, ⟨by rw [hz]; simp; omega, .inr ⟨g, cap, cur.setIfInBounds k v, by rw [List.length_set, hA, hc'], hb, Blk.set w hg k v, by simpa using hn, hm, by simpa using hcs, ?_⟩⟩, fun i hi => ?_⟩
    · rw [← htk, List.length_set, hz, Array.toList_setIfInBounds, List.take_set]
    · have hi' : i < xs.length := by simpa using hi
      have hr := h3 i hi'
      show _ = _ ∧ _
      rw [List.getElem_set]
      have hr1 := hr.1
      rw [hz] at hr1 ⊢
      have hr1 : cs.getD (i * 1 + 0) undef = xs[i] := hr1
      show (cs.set k v).getD (i * 1 + 0) undef = _ ∧ _
      rw [List.getD_eq_getElem?_getD, show i * 1 + 0 = i by omega, List.getElem?_eq_getElem (by omega), Option.getD_some] at hr1
      rw [List.getD_eq_getElem?_getD, show i * 1 + 0 = i by omega, List.getElem?_eq_getElem (by simp; omega), Option.getD_some, List.getElem_set]
      split
      · exact ⟨rfl, hv⟩
      · exact ⟨hr1, hr.2⟩
end
def NL (w : World) (base e t : Nat) (A : Option Addr) (c : Nat) (o : List (List (List UInt8))) : Prop :=
  ∃ vals : List Value, vals.length = o.length ∧ Own w (fun _ => False) base e A c vals ∧ ∃ (f : Nat → Option Addr) (cp : Nat → Nat),
    (∀ i (h : i < o.length), vals[i]? = some (.slice (f i) o[i].length (cp i)) ∧ Own w (fun _ => False) base t (f i) (cp i) o[i] ∧ ∀ k, (f i).map Addr.block = some k → A.map Addr.block ≠ some k) ∧
    (∀ i j k, i < o.length → j < o.length → (f i).map Addr.block = some k → (f j).map Addr.block = some k → i = j)
section
variable {w w' : World} {base e t : Nat} {A A' : Option Addr} {c c' : Nat} {o : List (List (List UInt8))}
theorem NL.nil (w : World) (base e t : Nat) : NL w base e t none 0 [] :=
  ⟨[], rfl, Own.nil w _ base e, fun _ => none, fun _ => 0, fun i h => absurd h (Nat.not_lt_zero i), fun i _ _ h => absurd h (Nat.not_lt_zero i)⟩
theorem NL.below (h : NL w base e t A c o) (hb : Below w.heap.size w w') : NL w' base e t A c o := by
  obtain ⟨vals, hl, ho, f, cp, h1, h2⟩ := h
  exact ⟨vals, hl, ho.below hb, f, cp, fun i hi => ⟨(h1 i hi).1, (h1 i hi).2.1.below hb, (h1 i hi).2.2⟩, h2⟩
theorem NL.alloc (h : NL w base e t A c o) (x : Obj) : NL (w.alloc x) base e t A c o := h.below ((Below.refl _ _).alloc (Nat.le_refl _) _)
theorem NL.cap (h : NL w base e t A c o) : o.length ≤ c ∧ c ≤ 9223372036854775807 := by
  obtain ⟨vals, hl, ho, _⟩ := h
  rw [← hl]
  exact ho.cap
theorem NL.lt (h : NL w base e t A c o) : ∀ k, A.map Addr.block = some k → base ≤ k ∧ k < w.heap.size := by
  obtain ⟨vals, hl, ho, _⟩ := h
  exact ho.lt
theorem NL.push (h : NL w base e t A c o) : ∃ vals : List Value, vals.length = o.length ∧ Own w (fun _ => False) base e A c vals ∧
    ∀ A' c' w', Own w' (fun _ => False) base e A' c' (vals ++ [.slice none 0 0]) → w.grownBy w' (A.map Addr.block) → (A'.map Addr.block = A.map Addr.block ∨ A'.map Addr.block = some w.heap.size) → NL w' base e t A' c' (o ++ [[]]) := by
  obtain ⟨vals, hl, ho, f, cp, h1, h2⟩ := h
  refine ⟨vals, hl, ho, fun A' c' w' ho' hg hat => ⟨_, by simp [hl], ho', fun i => if i < o.length then f i else none, fun i => if i < o.length then cp i else 0, fun i hi => ?_, fun i j k hi hj e1 e2 => ?_⟩⟩
  · rcases Nat.lt_or_ge i o.length with hlt | hge
    · obtain ⟨q1, q2, q3⟩ := h1 i hlt
      dsimp only
      rw [if_pos hlt, if_pos hlt, List.getElem_append_left hlt]
      refine ⟨by rw [List.getElem?_append_left (by omega)]; exact q1, q2.keep (fun k hk hs => hg.block k hk (fun e => ?_)), fun k hk e => ?_⟩
      · rcases hs with hs | hs
        · exact hs
        · exact q3 k hs e.symm
      · rcases hat with hat | hat
        · rw [hat] at e; exact q3 k hk e
        · rw [hat] at e; injection e with e; have := (q2.lt k hk).2; omega
    · have hie : i = o.length := by simp at hi; omega
      subst hie
      dsimp only
      rw [if_neg (by omega), if_neg (by omega), List.getElem_append_right (Nat.le_refl _)]
      refine ⟨by rw [List.getElem?_append_right (by omega)]; simp [hl], ?_, fun k hk => by cases hk⟩
      simp only [Nat.sub_self, List.getElem_cons_zero]
      exact Own.nil w' _ base t
  · dsimp only at e1 e2
    have hi' : i < o.length := by
      rcases Nat.lt_or_ge i o.length with hlt | hge
      · exact hlt
      · rw [if_neg (by omega)] at e1; cases e1
    have hj' : j < o.length := by
      rcases Nat.lt_or_ge j o.length with hlt | hge
      · exact hlt
      · rw [if_neg (by omega)] at e2; cases e2
    rw [if_pos hi'] at e1
    rw [if_pos hj'] at e2
    exact h2 i j k hi' hj' e1 e2
theorem NL.row (h : NL w base e t A c o) {i : Nat} (hi : i < o.length) : ∃ g B d, A = some ⟨g, 0, none⟩ ∧ base ≤ g ∧ g < w.heap.size ∧ w.cell? ⟨g, i, none⟩ = some (.slice B o[i].length d) ∧ w.frozen? ⟨g, i, none⟩ = false ∧
    B.map Addr.block ≠ some g ∧ Own w (fun _ => False) base t B d o[i] ∧
    ∀ B' d' w' x, Own w' (fun _ => False) base t B' d' (o[i] ++ [x]) → w.grownBy w' (B.map Addr.block) → (B'.map Addr.block = B.map Addr.block ∨ B'.map Addr.block = some w.heap.size) →
      NL (w'.setCell ⟨g, i, none⟩ (.slice B' (o[i].length + 1) d')) base e t A c (o.set i (o[i] ++ [x])) := by
  obtain ⟨vals, hl, ho, f, cp, h1, h2⟩ := h
  obtain ⟨g, hA, hbg, hgs, hc, hz⟩ := ho.at1 (k := i) (by omega)
  obtain ⟨q1, q2, q3⟩ := h1 i hi
  have hBg : (f i).map Addr.block ≠ some g := fun e => q3 g e (by rw [hA]; rfl)
  refine ⟨g, f i, cp i, hA, hbg, hgs, ?_, hz, hBg, q2, fun B' d' w' x ho' hg hat => ?_⟩
  · rw [hc]
    rw [List.getElem?_eq_getElem (by omega)] at q1
    exact q1
  have ho2 : Own w' (fun _ => False) base e A c vals := ho.keep (fun k hk hs => hg.block k hk (fun e => by
    rcases hs with hs | hs
    · exact hs
    · exact q3 k e.symm hs))
  have hset : ∀ k, k ≠ g → (w'.setCell ⟨g, i, none⟩ (.slice B' (o[i].length + 1) d')).heap[k]? = w'.heap[k]? := fun k hk => set_other w' g i _ k hk
  have hB'g : B'.map Addr.block ≠ some g := by
    rcases hat with hat | hat
    · rw [hat]; exact hBg
    · rw [hat]; intro e; injection e with e; omega
  refine ⟨vals.set i (.slice B' (o[i].length + 1) d'), by simp [hl], ho2.put1 (by omega) hA _ rfl, fun j => if j = i then B' else f j, fun j => if j = i then d' else cp j, fun j hj => ?_, fun j1 j2 k hj1 hj2 e1 e2 => ?_⟩
  · rw [List.length_set] at hj
    by_cases hji : j = i
    · subst hji
      dsimp only
      rw [if_pos rfl, if_pos rfl]
      simp only [List.getElem_set_self]
      refine ⟨by rw [List.getElem?_set_self (by omega)]; simp, ho'.keep (fun k _ hs => hset k (fun e => ?_)), fun k hk e => ?_⟩
      · rcases hs with hs | hs
        · exact hs
        · exact hB'g (e ▸ hs)
      · rw [hA] at e
        injection e with e
        exact hB'g (by rw [hk, ← e])
    · dsimp only
      rw [if_neg hji, if_neg hji]
      have hij : i ≠ j := fun e => hji e.symm
      obtain ⟨p1, p2, p3⟩ := h1 j hj
      simp only [List.getElem_set_ne hij]
      refine ⟨by rw [List.getElem?_set_ne hij]; exact p1, (p2.keep (w' := w') (fun k hk hs => hg.block k hk (fun e => ?_))).keep (fun k _ hs => hset k (fun e => ?_)), p3⟩
      · rcases hs with hs | hs
        · exact hs
        · exact hij (h2 i j k hi hj e.symm hs)
      · rcases hs with hs | hs
        · exact hs
        · exact p3 k hs (by rw [hA, e]; rfl)
  · rw [List.length_set] at hj1 hj2
    dsimp only at e1 e2
    by_cases ha : j1 = i <;> by_cases hb : j2 = i
    · rw [ha, hb]
    · rw [if_pos ha] at e1
      rw [if_neg hb] at e2
      rcases hat with hat | hat
      · rw [hat] at e1; rw [ha]; exact h2 i j2 k hi hj2 e1 e2
      · rw [hat] at e1; injection e1 with e1; have := ((h1 j2 hj2).2.1.lt k e2).2; omega
    · rw [if_neg ha] at e1
      rw [if_pos hb] at e2
      rcases hat with hat | hat
      · rw [hat] at e2; rw [hb]; exact h2 j1 i k hj1 hi e1 e2
      · rw [hat] at e2; injection e2 with e2; have := ((h1 j1 hj1).2.1.lt k e1).2; omega
    · rw [if_neg ha] at e1
      rw [if_neg hb] at e2
      exact h2 j1 j2 k hj1 hj2 e1 e2
theorem NL.sl (h : NL w base e t A c o) : Sl w (fun b => base ≤ b) A o.length c o := by
  have hcap := h.cap
  obtain ⟨vals, hl, ho, f, cp, h1, h2⟩ := h
  refine ⟨rfl, hcap.1, hcap.2, fun i hi => ?_⟩
  obtain ⟨g, hA, hbg, hgs, hc, hz⟩ := ho.at1 (k := i) (by omega)
  obtain ⟨q1, q2, q3⟩ := h1 i hi
  refine ⟨_, hA, hbg, fun _ => vals[i]'(by omega), fun j hj => ?_, ?_⟩
  · obtain rfl : j = 0 := by have : GoT.size (List (List UInt8)) = 1 := rfl; omega
    rw [add_plain]
    have : GoT.size (List (List UInt8)) = 1 := rfl
    rw [this, show 0 + (i * 1 + 0) = i by omega]
    exact hc
  · rw [List.getElem?_eq_getElem (by omega)] at q1
    injection q1 with q1
    exact ⟨_, _, _, q1, (q2.sl (by decide)).wide (fun k _ hk => hk.elim False.elim (fun hk => (q2.lt k hk).1)) (by decide), by decide⟩
end
end Go.Proofs.YtkjoaodoioicpaaGreatDoor
namespace Go.Proofs.YtkjoaodoioicpaaGreatDoor
open Go.RowKit Go.Maps
set_option maxRecDepth 100000 in
theorem run_lookK {w : World} {b : Nat} {m : KMap} {o : Oper} {a : Act} (hm : MapR w b m) (x y : Operand) (hop : o.op = Op.lookup 94 x y false) (hx : a.eval x = .map (some b)) (s : Bs) (hy : a.eval y = .string ⟨s.toArray⟩) (hs : s.length ≤ 9223372036854775807) :
    (execOp a.eval o).run Tryz.prog w = .ok (.value (.int .i64 (getV m s))) w := by
  obtain ⟨D, ho, h1, h2, h3⟩ := hm
  obtain ⟨c, hrun, hat, hwc⟩ := ho.lookup_int lawS Tryz.underlying94 Tryz.underlying3 (zeroI w) (WideMaps.keyOf_string_mk Tryz.underlying9 (s := ⟨s.toArray⟩) (by simpa [ByteArray.size, maxLen] using hs))
  rw [h2] at hat
  injection hat with hat
  injection hat with _ hat
  rw [hat]
  simp [execOp, hop, hx, hy, hrun, Result.andThen]
set_option maxRecDepth 100000 in
theorem sortedK_any (w : World) (b : Nat) (m : KMap) (hm : MapR w b m) (hnd : (keysK m).Nodup) (hlen : m.length ≤ 1000000) :
    Calls Tryz.prog 88 #[.func (.func 118) #[] #[.pointer (some ⟨w.heap.size, 0, none⟩)]] (w.alloc (.cells #[.map (some b)] 94))
      fun e w' => ∃ A c, e = .returned (.slice A (sortB (keysK m)).length c) ∧ Sl w' (fun k => w.heap.size ≤ k) A (sortB (keysK m)).length c (sortB (keysK m)) ∧ Below w.heap.size w w' := by
  obtain ⟨D, ho, h1, h2, h3⟩ := hm
  refine (callsIn_wide.1 (Tryz.slices_Sorted_keys_88_89 b _ D _ w ho (by simp [maxLen]; omega) (by omega))).mono ?_
  rintro e w' ⟨v, ss, rfl, hp, hrow, -, hb⟩
  have hperm : (keysK m).Perm (strKeys D) := by
    obtain ⟨es, hD, hpw, _⟩ := ho.entries lawS
    obtain ⟨es', hD', hko⟩ := ho.keysOf
    obtain rfl : es = es' := by rw [hD] at hD'; simpa using hD'
    subst hD
    refine perm_strKeys hpw (fun p hp => by obtain ⟨v, hv⟩ := hko p hp; obtain ⟨x, _, hx, _⟩ := Maps.keyOf_str Tryz.underlying9 hv; exact ⟨x, hx⟩) hnd (fun x => ?_)
    rw [h1, getK_mem]
  have hs : ss.mergeSort (fun x y => decide (x ≤ y)) = sortB (keysK m) := by
    rw [mergeSort_of_perm (hp.trans hperm.symm), merge_sortB _ hnd]
  have hlen2 : ss.length = (sortB (keysK m)).length := by rw [← hs, List.length_mergeSort]
  rw [hs, hlen2] at hrow
  generalize sortB (keysK m) = ks at *
  have hform : ∃ A c, v = .slice A ks.length c := by
    rcases hrow.2 with ⟨hv, h0⟩ | ⟨g, cap, cur, hv, _⟩
    · exact ⟨none, 0, by rw [hv, h0]⟩
    · exact ⟨_, _, hv⟩
  obtain ⟨A, c, rfl⟩ := hform
  have hrow' : w'.ownsRow (w.heap.size + 1) 9 1 (.slice A ks.length c) ks.length (ks.map encStr) := by simpa using hrow
  have hown : Own w' (fun _ => False) (w.heap.size + 1) 9 A c ks := ⟨_, hrow', fun i hi => by
    show (ks.map encStr).getD (i * GoT.size (List UInt8) + 0) undef = _
    have hz : GoT.size (List UInt8) = 1 := rfl
    rw [hz, List.getD_eq_getElem?_getD, show i * 1 + 0 = i by omega, List.getElem?_map, List.getElem?_eq_getElem hi]
    rfl⟩
  exact ⟨A, c, rfl, (hown.sl (by decide)).wide (fun k _ hk => hk.elim False.elim (fun hk => by have := (hown.lt k hk).1; omega)) (by decide), boxed.trans (hb.mono (by simp))⟩
theorem check_ok {l : List Rul} (h : (check0S l).2 = 0) : l.length ≤ 64 ∧ ∀ r ∈ l, ruleS r = true := by
  unfold check0S at h
  by_cases h64 : 64 < l.length
  · rw [if_pos h64] at h; cases h
  · rw [if_neg h64] at h
    cases hf : firstBad l 0 with
    | none => exact ⟨by omega, firstBad_none l 0 hf⟩
    | some e =>
      rw [hf] at h
      exfalso
      have : ∀ l i e, firstBad l i = some e → e.2 ≠ 0 := by
        intro l
        induction l with
        | nil => intro i e h; cases h
        | cons x t ih =>
          intro i e h
          rw [firstBad] at h
          split at h
          · injection h with h; subst h; intro h; cases h
          · split at h
            · injection h with h; subst h; intro h; cases h
            · exact ih _ _ h
      exact this _ _ _ hf h
set_option maxRecDepth 100000 in
set_option maxHeartbeats 1000000 in
theorem Check_any (A : Option Addr) (n c : Nat) (l : List Rul) (w : World) (S : Nat → Prop) (hl : Sl w S A n c l) (ho : ∀ r ∈ l, OkR r) (hL : LD w) :
    Calls Tryz.prog 73 #[.slice A n c] w fun e w' => e = .returned (.tuple #[.int .i64 (checkS53 l).1, .int .i64 (checkS53 l).2]) ∧ Below w.heap.size w w' := by
  have hc := check_any A n c l w S hl ho hL
  have hok := @check_ok l
  have hlv := fun w1 (hb : Below w.heap.size w w1) (h : (check0S l).2 = 0) => levels_any A n c l w1 S (hl.below hb) ho (hok h).2 (hok h).1
  obtain ⟨v, hv⟩ : ∃ v, v = checkS53 l := ⟨_, rfl⟩
  rw [← hv]
  unfold checkS53 at hv
  obtain ⟨c0, hc0⟩ : ∃ c0, c0 = check0S l := ⟨_, rfl⟩
  rw [← hc0] at hc hlv hv
  simp only at hv
  obtain ⟨c1, c2⟩ := c0
  by_cases h2 : c2 = 0
  · subst h2
    have hlv := fun w1 hb => hlv w1 hb rfl
    cases hL2 : levelsS l with
    | none =>
      rw [hL2] at hv
      have hlv2 : ∀ w1, Below w.heap.size w w1 → Calls Tryz.prog 87 #[.slice A n c] w1 fun e w' => e = .returned (.tuple #[.map none, .bool false]) ∧ Below w1.heap.size w1 w' := fun w1 hb => (hlv w1 hb).mono (by
        rintro e w' ⟨hb, ⟨_, he⟩ | ⟨m, b, hs, _⟩⟩
        · exact ⟨he, hb⟩
        · rw [hL2] at hs; cases hs)
      have HC := Lib.hid hc; have HLV := Lib.hid hlv2; have HV := Lib.hid hv
      clear hc hlv hlv2 hv hL2 hok hl ho hL hc0
      go_enter Tryz.func73, Tryz.ntmps73
      go_wp2_with (first | (go_at_call 107; refine HC.out.mono ?_; rintro e w1 ⟨rfl, hb1⟩) | (go_at_call 87; refine (HLV.out _ hb1).mono ?_; rintro e w2 ⟨rfl, hb2⟩))
      go_ret2
      exact ⟨by rw [HV.out]; rfl, next hb1 hb2 (Nat.le_refl _)⟩
    | some m =>
      rw [hL2] at hv
      have hlv2 : ∀ w1, Below w.heap.size w w1 → Calls Tryz.prog 87 #[.slice A n c] w1 fun e w' => ∃ b, e = .returned (.tuple #[.map (some b), .bool true]) ∧ Below w1.heap.size w1 w' := fun w1 hb => (hlv w1 hb).mono (by
        rintro e w' ⟨hb, ⟨hn, _⟩ | ⟨m, b, hs, he, _⟩⟩
        · rw [hL2] at hn; cases hn
        · exact ⟨b, he, hb⟩)
      have HC := Lib.hid hc; have HLV := Lib.hid hlv2; have HV := Lib.hid hv
      clear hc hlv hlv2 hv hL2 hok hl ho hL hc0
      go_enter Tryz.func73, Tryz.ntmps73
      go_wp2_with (first | (go_at_call 107; refine HC.out.mono ?_; rintro e w1 ⟨rfl, hb1⟩) | (go_at_call 87; refine (HLV.out _ hb1).mono ?_; rintro e w2 ⟨b, rfl, hb2⟩))
      go_ret2
      exact ⟨by rw [HV.out]; rfl, next hb1 hb2 (Nat.le_refl _)⟩
  · have HC := Lib.hid hc; have HV := Lib.hid hv
    clear hc hlv hv hok hl ho hL hc0
    have h2' : (c2 == 0) = false := by simpa using h2
    go_enter Tryz.func73, Tryz.ntmps73
    go_wp2_with (first | (go_at_call 107; refine HC.out.mono ?_; rintro e w1 ⟨rfl, hb1⟩))
    go_ret2
    refine ⟨?_, hb1⟩
    have hv := HV.out
    rw [if_pos h2] at hv
    rw [hv]
    rfl
end Go.Proofs.YtkjoaodoioicpaaGreatDoor
namespace Go.Proofs.YtkjoaodoioicpaaGreatDoor
open Go.RowKit Go.Maps
theorem eltRow : Elt 104 71 1 24 := .mk' (z := .slice none 0 0) (by kernel_rfl) (by kernel_rfl) rfl
def SPost (w : World) (s : List (List Bs) × Int × Int) (e : Ending) (w' : World) : Prop :=
  ∃ A c, e = .returned (.tuple #[.slice A s.1.length c, .int .i64 s.2.1, .int .i64 s.2.2]) ∧ Sl w' (fun b => w.heap.size ≤ b) A s.1.length c s.1 ∧ Below w.heap.size w w'
theorem check53_ok {l : List Rul} (h : (checkS53 l).2 = 0) : (check0S l).2 = 0 ∧ ∃ m, levelsS l = some m := by
  unfold checkS53 at h
  simp only at h
  by_cases hc : (check0S l).2 = 0
  · rw [if_neg (by simpa using hc)] at h
    cases hl : levelsS l with
    | none => rw [hl] at h; cases h
    | some m => exact ⟨hc, m, rfl⟩
  · rw [if_pos hc] at h
    exact absurd h hc
def StRel (W : World) (base : Nat) (o : Value) (out : List (List Bs)) (wr : World) : Prop :=
  ∃ A c, o = .slice A out.length c ∧ NL wr base 71 9 A c out ∧ Below base W wr
section
variable {P : Program} {ops : Array Oper} {Q : Exit → Act → World → Prop} {md : Region.Mode} {S : World → Prop}
theorem wpAnyH_two (i j : Nat) {o o' : Oper} {fuel : Nat} {listed : Array Bool} {a : Act} {w : World} (hr : Region.ready md ops listed = [i, j]) (ho : ops[i]? = some o) (ho' : ops[j]? = some o')
    (h : ∀ K' : Act → World → Prop, Shut (∀ a' w', S w' → wpAnyH P md ops Q S fuel (listed.setIfInBounds i true) a' w' → K' a' w') → if Region.wanted o (yielded ops a.tmps) = true then Oper.wp P o a w K' Q else K' (a.put o.dst undef) w)
    (h' : ∀ K' : Act → World → Prop, Shut (∀ a' w', S w' → wpAnyH P md ops Q S fuel (listed.setIfInBounds j true) a' w' → K' a' w') → if Region.wanted o' (yielded ops a.tmps) = true then Oper.wp P o' a w K' Q else K' (a.put o'.dst undef) w) :
    wpAnyH P md ops Q S (fuel + 1) listed a w := by
  refine ⟨fun h0 => (by rw [hr] at h0; cases h0), fun x hx => ?_⟩
  rw [hr] at hx
  rcases List.mem_cons.1 hx with rfl | hx
  · exact wpOp_step ho (fun K' hK => h K' (fun a w hS hW => hK a w ⟨hS, hW⟩))
  · rcases List.mem_cons.1 hx with rfl | hx
    · exact wpOp_step ho' (fun K' hK => h' K' (fun a w hS hW => hK a w ⟨hS, hW⟩))
    · cases hx
end
set_option maxRecDepth 100000 in
set_option maxHeartbeats 4000000 in
theorem Strata_any (A : Option Addr) (n c : Nat) (l : List Rul) (w : World) (S : Nat → Prop) (hl : Sl w S A n c l) (ho : ∀ r ∈ l, OkR r) (hL : LD w) :
    Calls Tryz.prog 56 #[.slice A n c] w (SPost w (strataS l)) := by
  have hc := Check_any A n c l w S hl ho hL
  obtain ⟨v, hv⟩ : ∃ v, v = strataS l := ⟨_, rfl⟩
  rw [← hv]
  unfold strataS at hv
  simp only at hv
  by_cases h0 : (checkS53 l).2 = 0
  · obtain ⟨h1, m, hm⟩ := check53_ok h0
    rw [if_neg (by simpa using h0), hm] at hv
    have hv : v = (strGo m [] (sortB (keysK m)), -1, 0) := hv
    have hok := check_ok h1
    have hlaw := levels_law l m hm
    have hkeys := init_keys l
    have hlv2 : ∀ w1, Below w.heap.size w w1 → Calls Tryz.prog 87 #[.slice A n c] w1 fun e w' => ∃ b, e = .returned (.tuple #[.map (some b), .bool true]) ∧ MapR w' b m ∧ Below w1.heap.size w1 w' := fun w1 hb => (levels_any A n c l w1 S (hl.below hb) ho hok.2 hok.1).mono (by
        rintro e w' ⟨hb, ⟨hn, _⟩ | ⟨m', b, hs, he, hm', _⟩⟩
        · rw [hm] at hn; cases hn
        · rw [hm] at hs; injection hs with hs; subst hs; exact ⟨b, he, hm', hb⟩)
    have hnd : (keysK m).Nodup := by rw [hlaw.1]; exact hkeys.1
    have hget := hlaw.2.1
    have hlen : m.length ≤ 1000000 := by
      have := hlaw.1
      rw [len_keys, this, ← len_keys]
      have key : ∀ (l : List Rul) (m : KMap), (∀ r ∈ l, r.body.length ≤ 4) → (initR m l).length ≤ m.length + 5 * l.length := by
        intro l
        induction l with
        | nil => intro m _; exact Nat.le_refl _
        | cons r t ih =>
          intro m h
          rw [initR]
          have h1 := ih (initA m (atomsS r)) (fun x hx => h x (List.mem_cons_of_mem _ hx))
          have h2 := initA_len (atomsS r) m
          have h3 := atoms_len r
          have h4 := h r List.mem_cons_self
          simp only [List.length_cons]
          omega
      have := key l [] (fun r hr => (rule_body (hok.2 r hr)).1)
      simp only [List.length_nil] at this
      have := hok.1
      omega
    have hlenk : ∀ s ∈ keysK m, s.length ≤ 9223372036854775807 := by
      intro s hs
      rw [hlaw.1] at hs
      obtain ⟨r, hr, a, ha, rfl⟩ := (hkeys.2.2 s).1 hs
      exact ok_atoms (ho r hr) a ha
    have hlenk : ∀ s ∈ sortB (keysK m), s.length ≤ 9223372036854775807 := fun s hs => hlenk s ((mem_sortB _ _).1 hs)
    have hks : (sortB (keysK m)).length ≤ 1000000 := by rw [len_sortB _ hnd, ← len_keys]; exact hlen
    have hsort := fun w b (hm : MapR w b m) => sortedK_any w b m hm hnd hlen
    generalize sortB (keysK m) = ks at *
    rw [show checkS53 l = ((checkS53 l).1, (checkS53 l).2) from rfl, h0] at hc
    generalize (checkS53 l).1 = i0 at *
    have HC := Lib.hid hc; have HLV := Lib.hid hlv2; have HV := Lib.hid hv; have HS := Lib.hid hsort; have HGET := Lib.hid hget; have HLK := Lib.hid hlenk; have HSL := Lib.hid (hl.wide (S' := fun b => b < w.heap.size) (fun k hk _ => hk) (by decide))
    clear hc hlv2 hv hsort hget hlenk hl ho hL h0 h1 hm hlaw hkeys hok hnd
    go_enter Tryz.func56, Tryz.ntmps56
    go_wp2_with (first | (go_at_call 73; refine HC.out.mono ?_; rintro e w1 ⟨rfl, hb1⟩) | (go_at_call 87; refine (HLV.out _ hb1).mono ?_; rintro e w2 ⟨mb, rfl, hmr, hb2⟩; have hb20 : Below w.heap.size w w2 := next hb1 hb2 (Nat.le_refl _); have HM2 := Lib.hid hmr; clear hmr hb2) | (go_at_call 89; refine (callsIn_wide.1 (Tryz.maps_Keys_89 _ _)).mono ?_; rintro e w' ⟨rfl, rfl⟩) | (go_at_call 88; refine (HS.out _ _ HM2.out).mono ?_; rintro e w3 ⟨A3, c3, rfl, hs3, hb3⟩; have hb30 : Below w.heap.size w w3 := next hb20 hb3 (Nat.le_refl _); have HM3 := Lib.hid (HM2.out.below hb3); have hmb := HM3.out.lt; have HS3 := Lib.hid (hs3.wide (S' := fun b => b < w3.heap.size) (fun k hk _ => hk) (by decide)); clear hb3 hs3))
    have hst0 : StRel w3 w3.heap.size (.slice none 0 0) [] w3 := ⟨none, 0, rfl, NL.nil _ _ _ _, Below.refl _ _⟩
    have Hf : Hid (v = (strGo m [] (ks.drop 0), -1, 0)) := HV
    go_loopw [9, 30] (fun o i wr => ∃ q : Nat, q ≤ ks.length ∧ i = .int .i64 q ∧ ∃ out, StRel w3 w3.heap.size o out wr ∧ out.length ≤ 1000001 ∧ (∀ r ∈ out, r.length ≤ q) ∧ Hid (v = (strGo m out (ks.drop q), -1, 0))) (fun _ i _ => ks.length - (intOf i).toNat)
    case atStart => exact ⟨0, by omega, rfl, [], hst0, by simp, fun r hr => (by cases hr), Hf⟩
    case round =>
      obtain ⟨q, hq, rfl, out, ⟨Ao, co, rfl, hnl, hbr⟩, hol, hrl0, hf⟩ := hrel
      have HRL := Lib.hid hrl0; clear hrl0
      have hwr := hbr.size
      have hcap := hnl.cap
      by_cases hlt : q < ks.length
      · obtain ⟨bs, os, rfl, -, hbs, h1⟩ := (HS3.out.keep (fun z hz hs => hbr.block z hs)).str hlt
        have hd := hf.out
        rw [drop_get hlt, strGo] at hd
        have hsl := HLK.out _ (List.getElem_mem hlt)
        have hgt := HGET.out ks[q]
        generalize ks[q] = s at *
        obtain ⟨k, hk⟩ : ∃ k : Nat, getV m s = (k : Int) := ⟨(getV m s).toNat, by omega⟩
        have hk6 : k ≤ 1000000 := by omega
        have hd2 : v = (strGo m ((out ++ List.replicate (k + 1 - out.length) []).set k ((out ++ List.replicate (k + 1 - out.length) []).getD k [] ++ [s])) (ks.drop (q + 1)), -1, 0) := by
          rw [hd, hk]; rfl
        have HK := Lib.hid hk; have HD := Lib.hid hd2; have HN := Lib.hid hnl; have HBR := Lib.hid hbr
        clear hk hd hd2 hf hgt hnl hbr
        go_wp2_with fail
        go_loopg [9] (k + 1 - out.length) (fun g o wx => ∃ j : Nat, StRel w3 w3.heap.size o (out ++ List.replicate j []) wx ∧ j + g = k + 1 - out.length)
        case atStart => exact ⟨0, ⟨Ao, co, by simp, by simpa using HN.out, HBR.out⟩, by omega⟩
        case round =>
          obtain ⟨j, ⟨A5, c5, rfl, hn5, hb5⟩, hj⟩ := hrel
          have hw5 := hb5.size
          have hlj : (out ++ List.replicate j ([] : List Bs)).length = out.length + j := by simp
          have hcap5 := hn5.cap
          obtain ⟨o5, ho5⟩ : ∃ o5, o5 = out ++ List.replicate j ([] : List Bs) := ⟨_, rfl⟩
          rw [← ho5] at hn5 hlj hcap5 ⊢
          have HO5 := Lib.hid ho5; have HLJ := Lib.hid hlj; clear ho5 hlj
          have HM5 := Lib.hid (HM3.out.below (hb5.mono (Nat.le_refl _)))
          by_cases hkl : o5.length ≤ k
          · have hle : (o5.length : Int) ≤ getV m s := by rw [HK.out]; omega
            have HN5 := Lib.hid hn5; have HB5 := Lib.hid hb5; clear hn5 hb5
            go_wp2_with (first | (at_lookup; refine wpList_lookK rfl _ _ rfl rfl s rfl HM5.out hsl ?_) | (at_builtin; obtain ⟨vals, hvl, hvo, hpush⟩ := (HN5.out.alloc (.cells #[.slice none 0 0] 71)).push; go_loud (refine wpList_app1 rfl _ _ eltRow rfl (by decide) rfl rfl hvl.symm hvo rfl [.slice none 0 0] (.slice none 0 0 : Value) (blkAt _ _ rfl) rfl ⟨rfl, rfl⟩ (by omega) (by omega) (by simp; omega) ?_); intro A' c' w6 hown' hg hat; have hn6 := hpush A' c' w6 hown' hg hat))
            have hlj := HLJ.out
            go_roundg (gk - 1)
            case measure => omega
            case rel =>
              refine ⟨j + 1, ⟨A', c', by simp [hlj, Nat.add_assoc], ?_, (HB5.out.alloc hw5 _).grown hg (by simp; omega) (fun z hz => (HN5.out.lt z hz).1)⟩, by omega⟩
              rw [List.replicate_succ', ← List.append_assoc, ← HO5.out]
              exact hn6
          · have hle : ¬ (o5.length : Int) ≤ getV m s := by rw [HK.out]; omega
            have hlj := HLJ.out
            have hjk : j = k + 1 - out.length := by omega
            have hd3 := HD.out
            rw [← hjk, ← HO5.out] at hd3
            have hkl' : k < o5.length := by omega
            have hrow := ((hn5.below (w' := wr.drew) (Below.refl _ _).drew).alloc (.cells #[.string ⟨s.toArray⟩] 9)).row hkl'
            have hget : o5.getD k [] = o5[k] := by rw [List.getD_eq_getElem?_getD, List.getElem?_eq_getElem hkl']; rfl
            rw [hget] at hd3
            obtain ⟨g, B, d, rfl, hgb, hgs, hgc, hgf, hBg, hrown, hrput⟩ := hrow
            have hglt := (hn5.lt g rfl).2
            have hgc0 : wr.cell? ⟨g, k, none⟩ = some (.slice B o5[k].length d) := (World.cell?_of_block (w := wr) (Below.heap_alloc wr _ g hglt)).symm.trans hgc
            have hol5 : o5.length ≤ 1000001 := by omega
            have hmbw := HM5.out.lt
            have hro5 : ∀ r ∈ o5, r.length ≤ q := by
              intro r hr
              rw [HO5.out] at hr
              rcases List.mem_append.1 hr with hr | hr
              · exact HRL.out r hr
              · rw [(List.mem_replicate.1 hr).2]; exact Nat.zero_le _
            have hrl := hro5 _ (List.getElem_mem hkl')
            have HR5 := Lib.hid hro5; clear hro5
            have h0k : (0 : Int) ≤ (k : Int) := by omega
            have hkI : (k : Int) < (o5.length : Int) := by omega
            have hX : ∀ x : World, x.heap[mb]? = wr.heap[mb]? → MapR x mb m := fun x hx => HM5.out.keep hx
            have HD3 := Lib.hid hd3; have HN5 := Lib.hid hn5; have HB5 := Lib.hid hb5; have HRO := Lib.hid hrown; have HRP := Lib.hid hrput; have HX := Lib.hid hX; have HLE := Lib.hid hle
            clear hlj hjk hd3 hn5 hb5 hget hrown hrput hX
            generalize o5[k] = row at *
            go_wp2_with (first | (at_lookup; refine wpList_lookK rfl _ _ rfl rfl s rfl HM5.out hsl ?_))
            refine wpH_region (fun x => x.heap[mb]? = wr.heap[mb]?) (by kernel_rfl) ?_
            have hS : wr.drew.heap[mb]? = wr.heap[mb]? := rfl
            (refine tkW 0 (v := ?_) hS ?_ ?_; rotate_left; (focus (intro x hx; have fx := HX.out x hx; go_simp; (try with_reducible rfl); done)); (try simp only [Act.put, lsa, lsz, lss]))
            (refine tkW 1 (v := ?_) hS ?_ ?_; rotate_left; (focus (intro x hx; have fx := HX.out x hx; go_simp; (try with_reducible rfl); done)); (try simp only [Act.put, lsa, lsz, lss]))
            (refine tkW 2 (v := ?_) hS ?_ ?_; rotate_left; (focus (intro x hx; have fx := HX.out x hx; go_simp; (try with_reducible rfl); done)); (try simp only [Act.put, lsa, lsz, lss]))
            refine wpAnyH_takeW 3 rfl rfl (by kernel_rfl) (by kernel_rfl) (by kernel_rfl) (fun _ _ _ h => h) (v := .int .i64 (k : Int)) (by kernel_rfl) hS (fun x hx => by rw [← HK.out]; exact run_lookK (HX.out x hx) _ _ rfl rfl s rfl hsl) ?_
            simp only [Act.put, lsa, lsz, lss]
            (refine tkW 4 (v := ?_) hS ?_ ?_; rotate_left; (focus (intro x hx; have fx := HX.out x hx; go_simp; (try with_reducible rfl); done)); (try simp only [Act.put, lsa, lsz, lss]))
            (refine tkW 5 (v := ?_) hS ?_ ?_; rotate_left; (focus (intro x hx; have fx := HX.out x hx; go_simp; (try with_reducible rfl); done)); (try simp only [Act.put, lsa, lsz, lss]))
            (refine tkW 6 (v := ?_) hS ?_ ?_; rotate_left; (focus (intro x hx; have fx := HX.out x hx; go_simp; (try with_reducible rfl); done)); (try simp only [Act.put, lsa, lsz, lss]))
            refine wpAnyH_takeW 7 rfl rfl (by kernel_rfl) (by kernel_rfl) (by kernel_rfl) (fun _ _ _ h => h) (v := .int .i64 (k : Int)) (by kernel_rfl) hS (fun x hx => by rw [← HK.out]; exact run_lookK (HX.out x hx) _ _ rfl rfl s rfl hsl) ?_
            simp only [Act.put, lsa, lsz, lss]
            (refine tkW 8 (v := ?_) hS ?_ ?_; rotate_left; (focus (intro x hx; have fx := HX.out x hx; go_simp; (try with_reducible rfl); done)); (try simp only [Act.put, lsa, lsz, lss]))
            (refine tkW 10 (v := ?_) hS ?_ ?_; rotate_left; (focus (intro x hx; have fx := HX.out x hx; go_simp; (try with_reducible rfl); done)); (try simp only [Act.put, lsa, lsz, lss]))
            have hrd : wr.drew.heap.size = wr.heap.size := rfl
            refine wpAnyH_two 9 11 (by kernel_rfl) rfl rfl ?_ ?_
            · intro K' hK'
              go_simp
              refine hK'.out _ _ hS ?_
              clear hK' K'
              refine wpAnyH_one 11 (by kernel_rfl) rfl ?_
              intro K' hK'
              go_simp
              refine hK'.out _ _ (Below.heap_alloc _ _ mb hmbw) ?_
              clear hK' K'
              refine wpAnyH_one 12 (by kernel_rfl) rfl ?_
              intro K' hK'
              refine step_app1 (T := fun _ => False) (base := w3.heap.size) (xs := row) rfl _ _ eltStr rfl (by decide) rfl rfl rfl HRO.out rfl [.string ⟨s.toArray⟩] s (blkAt _ _ rfl) rfl rfl (by omega) (by omega) (by simp; omega) ?_
              intro B' d' w6 hown6 hg6 hat6
              have hmb6 : w6.heap[mb]? = wr.heap[mb]? := (hg6.block mb (by simp; omega) (fun e => by have := (HRO.out.lt mb e.symm).1; omega)).trans (Below.heap_alloc _ _ mb hmbw)
              have b6 := hg6.block g (by simp; omega) (fun e => hBg e.symm)
              have c6 : w6.cell? ⟨g, k, none⟩ = some (.slice B row.length d) := (World.cell?_of_block b6).trans hgc
              have f6 : w6.frozen? ⟨g, k, none⟩ = false := by
                rw [← hgf]
                unfold World.frozen?
                rw [b6]
                rfl
              have hn6 := HRP.out B' d' w6 s hown6 hg6 hat6
              have HN6 := Lib.hid hn6; have HG6 := Lib.hid hg6; clear hn6 hg6 hat6 hown6 b6
              refine hK'.out _ _ hmb6 ?_
              clear hK' K'
              refine wpAnyH_one 13 (by kernel_rfl) rfl ?_
              intro K' hK'
              go_simp
              refine hK'.out _ _ hmb6 ?_
              clear hK' K'
              refine wpAnyH_one 14 (by kernel_rfl) rfl ?_
              intro K' hK'
              go_simp
              refine hK'.out _ _ ((set_other _ _ _ _ _ (by omega)).trans hmb6) ?_
              clear hK' K'
              refine wpAnyH_done (by kernel_rfl) ?_ _
              go_wp2_with fail
              go_roundw
              case rel =>
                have hs6 := HG6.out.size
                simp at hs6
                refine ⟨q + 1, by omega, by go_num, o5.set k (row ++ [s]), ⟨some ⟨g, 0, none⟩, c5, by simp, HN6.out, ?_⟩, by simp; omega, ?_, HD3.out⟩
                · exact (((HB5.out.drew).alloc (by simp; omega) _).grown HG6.out (by simp; omega) (fun z hz => (HRO.out.lt z hz).1)).setCell (p := ⟨g, k, none⟩) hgb _
                · intro r hr
                  rcases List.mem_or_eq_of_mem_set hr with hr | hr
                  · have := HR5.out r hr; omega
                  · rw [hr]; simp; omega
              case measure => simp [intOf]; omega
            · intro K' hK'
              go_simp
              refine hK'.out _ _ (Below.heap_alloc _ _ mb hmbw) ?_
              clear hK' K'
              refine wpAnyH_one 9 (by kernel_rfl) rfl ?_
              intro K' hK'
              go_simp
              refine hK'.out _ _ (Below.heap_alloc _ _ mb hmbw) ?_
              clear hK' K'
              refine wpAnyH_one 12 (by kernel_rfl) rfl ?_
              intro K' hK'
              refine step_app1 (T := fun _ => False) (base := w3.heap.size) (xs := row) rfl _ _ eltStr rfl (by decide) rfl rfl rfl HRO.out rfl [.string ⟨s.toArray⟩] s (blkAt _ _ rfl) rfl rfl (by omega) (by omega) (by simp; omega) ?_
              intro B' d' w6 hown6 hg6 hat6
              have hmb6 : w6.heap[mb]? = wr.heap[mb]? := (hg6.block mb (by simp; omega) (fun e => by have := (HRO.out.lt mb e.symm).1; omega)).trans (Below.heap_alloc _ _ mb hmbw)
              have b6 := hg6.block g (by simp; omega) (fun e => hBg e.symm)
              have c6 : w6.cell? ⟨g, k, none⟩ = some (.slice B row.length d) := (World.cell?_of_block b6).trans hgc
              have f6 : w6.frozen? ⟨g, k, none⟩ = false := by
                rw [← hgf]
                unfold World.frozen?
                rw [b6]
                rfl
              have hn6 := HRP.out B' d' w6 s hown6 hg6 hat6
              have HN6 := Lib.hid hn6; have HG6 := Lib.hid hg6; clear hn6 hg6 hat6 hown6 b6
              refine hK'.out _ _ hmb6 ?_
              clear hK' K'
              refine wpAnyH_one 13 (by kernel_rfl) rfl ?_
              intro K' hK'
              go_simp
              refine hK'.out _ _ hmb6 ?_
              clear hK' K'
              refine wpAnyH_one 14 (by kernel_rfl) rfl ?_
              intro K' hK'
              go_simp
              refine hK'.out _ _ ((set_other _ _ _ _ _ (by omega)).trans hmb6) ?_
              clear hK' K'
              refine wpAnyH_done (by kernel_rfl) ?_ _
              go_wp2_with fail
              go_roundw
              case rel =>
                have hs6 := HG6.out.size
                simp at hs6
                refine ⟨q + 1, by omega, by go_num, o5.set k (row ++ [s]), ⟨some ⟨g, 0, none⟩, c5, by simp, HN6.out, ?_⟩, by simp; omega, ?_, HD3.out⟩
                · exact (((HB5.out.drew).alloc (by simp; omega) _).grown HG6.out (by simp; omega) (fun z hz => (HRO.out.lt z hz).1)).setCell (p := ⟨g, k, none⟩) hgb _
                · intro r hr
                  rcases List.mem_or_eq_of_mem_set hr with hr | hr
                  · have := HR5.out r hr; omega
                  · rw [hr]; simp; omega
              case measure => simp [intOf]; omega
      · have hd := hf.out
        rw [drop_end hlt] at hd
        have hd : v = (out, -1, 0) := hd
        have HN := Lib.hid hnl; have HBR := Lib.hid hbr; have HD := Lib.hid hd
        clear hnl hbr hd hf
        go_wp2_with fail
        refine bodyPost_ret (v := .tuple #[.slice Ao out.length co, .int .i64 (-1), .int .i64 0]) (by simp [results, Tryz.results56, go_sem]) rfl ?_
        rw [HD.out]
        exact ⟨Ao, co, rfl, HN.out.sl.wide (fun k _ hk => by have := hb30.size; omega) (by decide), next hb30 HBR.out (Nat.le_refl _)⟩
  · have HC := Lib.hid hc; have HV := Lib.hid hv
    have h0' : ((checkS53 l).2 == 0) = false := by simpa using h0
    have HH := Lib.hid h0
    clear hc hv hl ho hL h0
    go_enter Tryz.func56, Tryz.ntmps56
    go_wp2_with (first | (go_at_call 73; refine HC.out.mono ?_; rintro e w1 ⟨rfl, hb1⟩))
    have hv := HV.out
    rw [if_pos HH.out] at hv
    refine bodyPost_ret (v := .tuple #[.slice none 0 0, .int .i64 (checkS53 l).1, .int .i64 (checkS53 l).2]) (by simp [results, Tryz.results56, go_sem]) rfl ?_
    rw [hv]
    exact ⟨none, 0, rfl, Sl.nil _ _ _ _ (by omega), hb1⟩
end Go.Proofs.YtkjoaodoioicpaaGreatDoor
