/- Query (package licitlaw54): a part of the proofs of its laws; see the law's own text, which comes last in 'order'. No conditions of its own. -/
import Derived.Shelf.SlIter.Nil
import Derived.Shelf.SortM.Plain
import Derived.Shelf.SortM.SortNone
import Derived.Ground.GgzProg
import Derived.Ground.SlgmProg
import Derived.Test.YtkjoaodoioicpaaGreatDoorProg
import Derived.Test.YtkjoaodoioicpaaGreatDoorWG01
set_option linter.unusedVariables false
set_option linter.unusedSimpArgs false
namespace Go.Proofs
open Go.Shelf
def Tryz.keys89_ren : Go.Shelf.Ren := ⟨fun | 7 => 89 | 10 => 118 | n => n, fun | 23 => 94 | 26 => 9 | 3 => 3 | 28 => 141 | 0 => 0 | 27 => 140 | 33 => 73 | 4 => 4 | n => n, fun | n => n⟩
theorem Tryz.keys89 : Go.Proofs.SlLaysZ.n7 Tryz.prog Tryz.keys89_ren := {
  mixed := by kernel_rfl
  f7 := ⟨Tryz.f89.name, by decide, Tryz.func89.trans (congrArg some (by kernel_rfl))⟩
  f10 := ⟨Tryz.f118.name, by decide, Tryz.func118.trans (congrArg some (by kernel_rfl))⟩
  t0 := Tryz.underlying0
  a0 := Tryz.isAgg0
  z0 := Tryz.sizeOf0
  v0 := Tryz.zeroValue0
  t4 := Tryz.underlying4
  a4 := Tryz.isAgg4
  z4 := Tryz.sizeOf4
  v4 := Tryz.zeroValue4
  t23 := Tryz.underlying94
  a23 := Tryz.isAgg94
  z23 := Tryz.sizeOf94
  v23 := Tryz.zeroValue94
  t26 := Tryz.underlying9
  a26 := Tryz.isAgg9
  z26 := Tryz.sizeOf9
  v26 := Tryz.zeroValue9
  t27 := Tryz.underlying140
  a27 := Tryz.isAgg140
  z27 := Tryz.sizeOf140
  v27 := Tryz.zeroValue140
  t28 := Tryz.underlying141
  a28 := Tryz.isAgg141
  z28 := Tryz.sizeOf141
  v28 := Tryz.zeroValue141
  t33 := Tryz.underlying73
  a33 := Tryz.isAgg73
  z33 := Tryz.sizeOf73
  v33 := Tryz.zeroValue73 }
def Tryz.sorted88_ren : Go.Shelf.Ren := ⟨fun | 6 => 88 | 8 => 116 | 9 => 117 | 11 => 144 | 13 => 94 | 12 => 145 | 23 => 127 | 24 => 128 | 14 => 170 | 15 => 171 | 16 => 172 | 17 => 173 | 18 => 174 | 19 => 175 | 20 => 176 | 21 => 177 | 22 => 178 | 25 => 188 | 26 => 147 | 27 => 148 | 28 => 189 | 29 => 190 | 30 => 129 | 31 => 198 | n => n, fun | 26 => 9 | 28 => 141 | 24 => 71 | 0 => 0 | 3 => 3 | 37 => 147 | 48 => 168 | 50 => 170 | 4 => 4 | 40 => 162 | 39 => 161 | 45 => 136 | 5 => 5 | 9 => 9 | 51 => 181 | 55 => 185 | 57 => 207 | 58 => 208 | 33 => 73 | n => n, fun | n => n⟩
theorem Tryz.sorted88 : Go.Proofs.SlLaysZ.n6 Tryz.prog Tryz.sorted88_ren := {
  mixed := by kernel_rfl
  f6 := ⟨Tryz.f88.name, by decide, Tryz.func88.trans (congrArg some (by kernel_rfl))⟩
  f8 := ⟨Tryz.f116.name, by decide, Tryz.func116.trans (congrArg some (by kernel_rfl))⟩
  f11 := ⟨Tryz.f144.name, by decide, Tryz.func144.trans (congrArg some (by kernel_rfl))⟩
  t0 := Tryz.underlying0
  a0 := Tryz.isAgg0
  z0 := Tryz.sizeOf0
  v0 := Tryz.zeroValue0
  t24 := Tryz.underlying71
  a24 := Tryz.isAgg71
  z24 := Tryz.sizeOf71
  v24 := Tryz.zeroValue71
  t26 := Tryz.underlying9
  a26 := Tryz.isAgg9
  z26 := Tryz.sizeOf9
  v26 := Tryz.zeroValue9
  t28 := Tryz.underlying141
  a28 := Tryz.isAgg141
  z28 := Tryz.sizeOf141
  v28 := Tryz.zeroValue141
  i26 := by kernel_rfl }
def Tryz.sort117_ren : Go.Shelf.Ren := ⟨fun | 6 => 117 | 8 => 94 | 9 => 145 | 19 => 127 | 20 => 128 | 21 => 170 | 22 => 171 | 23 => 172 | 24 => 173 | 25 => 174 | 26 => 175 | 27 => 176 | 28 => 177 | 29 => 178 | 36 => 188 | 31 => 147 | 32 => 148 | 37 => 189 | 38 => 190 | 39 => 129 | 41 => 198 | n => n, fun | 27 => 71 | 29 => 9 | 3 => 3 | 32 => 147 | 26 => 71 | 0 => 0 | 44 => 168 | 46 => 170 | 4 => 4 | 36 => 162 | 35 => 161 | 41 => 136 | 5 => 5 | 9 => 9 | 53 => 181 | 57 => 185 | 63 => 207 | 64 => 208 | n => n, fun | n => n⟩
theorem Tryz.sort117 : Go.Proofs.SlLaysM.n6 Tryz.prog Tryz.sort117_ren := {
  mixed := by kernel_rfl
  f6 := ⟨Tryz.f117.name, by decide, Tryz.func117.trans (congrArg some (by kernel_rfl))⟩
  f8 := Tryz.func94.trans (congrArg some (by kernel_rfl))
  f9 := ⟨Tryz.f145.name, by decide, Tryz.func145.trans (congrArg some (by kernel_rfl))⟩
  f19 := Tryz.func127.trans (congrArg some (by kernel_rfl))
  f20 := Tryz.func128.trans (congrArg some (by kernel_rfl))
  f21 := ⟨Tryz.f170.name, by decide, Tryz.func170.trans (congrArg some (by kernel_rfl))⟩
  f22 := ⟨Tryz.f171.name, by decide, Tryz.func171.trans (congrArg some (by kernel_rfl))⟩
  f23 := ⟨Tryz.f172.name, by decide, Tryz.func172.trans (congrArg some (by kernel_rfl))⟩
  f24 := ⟨Tryz.f173.name, by decide, Tryz.func173.trans (congrArg some (by kernel_rfl))⟩
  f25 := ⟨Tryz.f174.name, by decide, Tryz.func174.trans (congrArg some (by kernel_rfl))⟩
  f26 := ⟨Tryz.f175.name, by decide, Tryz.func175.trans (congrArg some (by kernel_rfl))⟩
  f27 := ⟨Tryz.f176.name, by decide, Tryz.func176.trans (congrArg some (by kernel_rfl))⟩
  f28 := ⟨Tryz.f177.name, by decide, Tryz.func177.trans (congrArg some (by kernel_rfl))⟩
  f29 := ⟨Tryz.f178.name, by decide, Tryz.func178.trans (congrArg some (by kernel_rfl))⟩
  f31 := Tryz.func147.trans (congrArg some (by kernel_rfl))
  f32 := Tryz.func148.trans (congrArg some (by kernel_rfl))
  f36 := ⟨Tryz.f188.name, by decide, Tryz.func188.trans (congrArg some (by kernel_rfl))⟩
  f37 := ⟨Tryz.f189.name, by decide, Tryz.func189.trans (congrArg some (by kernel_rfl))⟩
  f38 := ⟨Tryz.f190.name, by decide, Tryz.func190.trans (congrArg some (by kernel_rfl))⟩
  f39 := ⟨Tryz.f129.name, by decide, Tryz.func129.trans (congrArg some (by kernel_rfl))⟩
  f41 := ⟨Tryz.f198.name, by decide, Tryz.func198.trans (congrArg some (by kernel_rfl))⟩
  t0 := Tryz.underlying0
  a0 := Tryz.isAgg0
  z0 := Tryz.sizeOf0
  v0 := Tryz.zeroValue0
  t3 := Tryz.underlying3
  a3 := Tryz.isAgg3
  z3 := Tryz.sizeOf3
  v3 := Tryz.zeroValue3
  t4 := Tryz.underlying4
  a4 := Tryz.isAgg4
  z4 := Tryz.sizeOf4
  v4 := Tryz.zeroValue4
  t5 := Tryz.underlying5
  a5 := Tryz.isAgg5
  z5 := Tryz.sizeOf5
  v5 := Tryz.zeroValue5
  t9 := Tryz.underlying9
  a9 := Tryz.isAgg9
  z9 := Tryz.sizeOf9
  v9 := Tryz.zeroValue9
  t26 := Tryz.underlying71
  a26 := Tryz.isAgg71
  z26 := Tryz.sizeOf71
  v26 := Tryz.zeroValue71
  t27 := Tryz.underlying71
  a27 := Tryz.isAgg71
  z27 := Tryz.sizeOf71
  v27 := Tryz.zeroValue71
  t29 := Tryz.underlying9
  a29 := Tryz.isAgg9
  z29 := Tryz.sizeOf9
  v29 := Tryz.zeroValue9
  t32 := Tryz.underlying147
  a32 := Tryz.isAgg147
  z32 := Tryz.sizeOf147
  v32 := Tryz.zeroValue147
  t35 := Tryz.underlying161
  a35 := Tryz.isAgg161
  z35 := Tryz.sizeOf161
  v35 := Tryz.zeroValue161
  t36 := Tryz.underlying162
  a36 := Tryz.isAgg162
  z36 := Tryz.sizeOf162
  v36 := Tryz.zeroValue162
  t41 := Tryz.underlying136
  a41 := Tryz.isAgg136
  z41 := Tryz.sizeOf136
  v41 := Tryz.zeroValue136
  t44 := Tryz.underlying168
  a44 := Tryz.isAgg168
  z44 := Tryz.sizeOf168
  v44 := Tryz.zeroValue168
  t46 := Tryz.underlying170
  a46 := Tryz.isAgg170
  z46 := Tryz.sizeOf170
  v46 := Tryz.zeroValue170
  t53 := Tryz.underlying181
  a53 := Tryz.isAgg181
  z53 := Tryz.sizeOf181
  v53 := Tryz.zeroValue181
  t57 := Tryz.underlying185
  a57 := Tryz.isAgg185
  z57 := Tryz.sizeOf185
  v57 := Tryz.zeroValue185
  t63 := Tryz.underlying207
  a63 := Tryz.isAgg207
  z63 := Tryz.sizeOf207
  v63 := Tryz.zeroValue207
  t64 := Tryz.underlying208
  a64 := Tryz.isAgg208
  z64 := Tryz.sizeOf208
  v64 := Tryz.zeroValue208 }
open Go.RowKit Go.Maps Go.Sort in
theorem Tryz.sorts88 (m : Nat) : AnyZ.SortsIn Tryz.prog Tryz.sorted88_ren Fence.wide m :=
  ⟨fun blk off cap ss W hH hblk hsz => callsIn_wide.2 (AnyM.slices_Sort_string Tryz.sort117 blk off cap ss W hH hblk hsz),
   fun p cap W => callsIn_wide.2 (AnyM.slices_Sort_string_none Tryz.sort117 p cap W)⟩
open Go.RowKit Go.Maps Go.Sort in
theorem Tryz.maps_Keys_89 (mb : Option Nat) (W : World) : CallsIn Fence.wide 5 Tryz.prog 89 #[.map mb] W fun e w' => e = .returned (.func (.func 118) #[] #[.pointer (some ⟨W.heap.size, 0, none⟩)]) ∧ w' = W.alloc (.cells #[.map mb] 94) :=
  AnyZ.keys_in Tryz.keys89 Fence.wide 5 trivial rfl mb W
open Go.RowKit Go.Maps Go.Sort in
theorem Tryz.slices_Sorted_keys_88_89 {H : Type} (b nn : Nat) (D0 : DataW H) (R : Value → Option (DataW H × List MemPlace)) (w : World) (hown : w.ownsMap Tryz.prog 9 R b nn D0) (hmax : Maps.size D0 ≤ maxLen) (hbytes : Maps.size D0 * 16 ≤ 140737488355328) :
    CallsIn Fence.wide 5 Tryz.prog 88 #[.func (.func 118) #[] #[.pointer (some ⟨w.heap.size, 0, none⟩)]] (w.alloc (.cells #[.map (some b)] 94)) fun e w' => ∃ (v : Value) (ss : List (List UInt8)), e = .returned v ∧ ss.Perm (strKeys D0) ∧
      w'.ownsRow (w.alloc (.cells #[.map (some b)] 94)).heap.size 9 1 v ss.length ((ss.mergeSort (fun x y => decide (x ≤ y))).map encStr) ∧ (v = .slice none 0 0 ↔ ss = []) ∧ Below (w.alloc (.cells #[.map (some b)] 94)).heap.size (w.alloc (.cells #[.map (some b)] 94)) w' := by
  have hbl := hown.lt
  have hseq : SeqGives Fence.wide 2 Tryz.prog 118 #[.pointer (some ⟨w.heap.size, 0, none⟩)] encStr (fun ss => ss.Perm (strKeys D0)) (Maps.size D0) (w.alloc (.cells #[.map (some b)] 94)) :=
    AnyZ.keys_gives (ρ := Tryz.keys89_ren) { Tryz.keys89 with } Fence.wide _ trivial rfl (by omega) w.heap.size b nn D0 _ (by simp) (by simp) (by
      obtain ⟨es, clock, hb, Ft, hs, hD⟩ := hown
      exact ⟨es, clock, (Below.heap_alloc _ _ b hbl).trans hb, Ft, hs, hD⟩)
  exact AnyZ.sorted_in Tryz.sorted88 Fence.wide 5 trivial trivial trivial trivial rfl (by omega) (Tryz.sorts88 _) (enters_of Tryz.func117 (by kernel_rfl) rfl) 118 #[.pointer (some ⟨w.heap.size, 0, none⟩)] trivial (enters_of Tryz.func118 (by kernel_rfl) rfl) _ _ hmax hbytes _ hseq
end Go.Proofs
namespace Go.Proofs.YtkjoaodoioicpaaGreatDoor
open Go.RowKit
instance : GoT Value where
  size := 1
  rd := fun _ _ g x => g 0 = x ∧ x.oneCell' = true
  keep := fun _ h => h
  wide := fun _ h => h
  same := fun hg h => ⟨(hg 0 (by omega)).trans h.1, h.2⟩
  one := fun h j hj => by obtain rfl : j = 0 := by omega
                          rw [h.1]; exact h.2
section
variable {w w' : World} {T : Nat → Prop} {base e : Nat} {A : Option Addr} {c : Nat} {xs : List Value}
theorem Own.at1 (h : Own w T base e A c xs) {k : Nat} (hk : k < xs.length) : ∃ g, A = some ⟨g, 0, none⟩ ∧ base ≤ g ∧ g < w.heap.size ∧ w.cell? ⟨g, k, none⟩ = some xs[k] ∧ w.frozen? ⟨g, k, none⟩ = false := by
  obtain ⟨cs, ⟨hl, h2⟩, h3⟩ := h
  have hz : GoT.size Value = 1 := rfl
  rcases h2 with ⟨_, h0⟩ | ⟨g, cap, cur, hv, hb, hg, hn, hm, hcs, htk⟩
  · omega
  · injection hv with hA hn' hc'
    refine ⟨g, hA, hb, (Array.getElem?_eq_some_iff.1 hg).1, ?_, frz_blk hg k⟩
    rw [cell_blk hg]
    have hr := (h3 k hk).1
    rw [hz] at hl htk hr
    have hr : cs.getD (k * 1 + 0) undef = xs[k] := hr
    have hlt : k < cs.length := by omega
    rw [List.getD_eq_getElem?_getD, show k * 1 + 0 = k by omega, List.getElem?_eq_getElem hlt, Option.getD_some] at hr
    rw [← hr]
    have h5 : cs[k]? = some cs[k] := List.getElem?_eq_getElem hlt
    rw [← h5]
    conv => rhs; rw [← htk]
    rw [List.getElem?_take, if_pos (by omega), Array.getElem?_toList]
theorem Own.put1 (h : Own w T base e A c xs) {k g : Nat} (hk : k < xs.length) (hA : A = some ⟨g, 0, none⟩) (v : Value) (hv : v.oneCell' = true) : Own (w.setCell ⟨g, k, none⟩ v) T base e A c (xs.set k v) := by
  obtain ⟨cs, ⟨hl, h2⟩, h3⟩ := h
  have hz : GoT.size Value = 1 := rfl
  rw [hz] at hl
  rcases h2 with ⟨_, h0⟩ | ⟨g2, cap, cur, hv2, hb, hg, hn, hm, hcs, htk⟩
  · omega
  · injection hv2 with hA2 hn' hc'
    rw [hA] at hA2
    injection hA2 with hA2
    injection hA2 with hA2
    subst hA2
    refine ⟨cs.set k v, ⟨by rw [hz]; simp; omega, .inr ⟨g, cap, cur.setIfInBounds k v, by rw [List.length_set, hA, hc'], hb, Blk.set w hg k v, by simpa using hn, hm, by simpa using hcs, ?_⟩⟩, fun i hi => ?_⟩
    · rw [← htk, List.length_set, hz, Array.toList_setIfInBounds, List.take_set]
    · have hi' : i < xs.length := by simpa using hi
      have hr := h3 i hi'
      show _ = _ ∧ _
      rw [List.getElem_set]
      have hr1 := hr.1
      rw [hz] at hr1 ⊢
      have hr1 : cs.getD (i * 1 + 0) undef = xs[i] := hr1
      show (cs.set k v).getD (i * 1 + 0) undef = _ ∧ _
      rw [List.getD_eq_getElem?_getD, show i * 1 + 0 = i by omega, List.getElem?_eq_getElem (by omega), Option.getD_some] at hr1
      rw [List.getD_eq_getElem?_getD, show i * 1 + 0 = i by omega, List.getElem?_eq_getElem (by simp; omega), Option.getD_some, List.getElem_set]
      split
      · exact ⟨rfl, hv⟩
      · exact ⟨hr1, hr.2⟩
end
def NL (w : World) (base e t : Nat) (A : Option Addr) (c : Nat) (o : List (List (List UInt8))) : Prop :=
  ∃ vals : List Value, vals.length = o.length ∧ Own w (fun _ => False) base e A c vals ∧ ∃ (f : Nat → Option Addr) (cp : Nat → Nat),
    (∀ i (h : i < o.length), vals[i]? = some (.slice (f i) o[i].length (cp i)) ∧ Own w (fun _ => False) base t (f i) (cp i) o[i] ∧ ∀ k, (f i).map Addr.block = some k → A.map Addr.block ≠ some k) ∧
    (∀ i j k, i < o.length → j < o.length → (f i).map Addr.block = some k → (f j).map Addr.block = some k → i = j)
section
variable {w w' : World} {base e t : Nat} {A A' : Option Addr} {c c' : Nat} {o : List (List (List UInt8))}
theorem NL.nil (w : World) (base e t : Nat) : NL w base e t none 0 [] :=
  ⟨[], rfl, Own.nil w _ base e, fun _ => none, fun _ => 0, fun i h => absurd h (Nat.not_lt_zero i), fun i _ _ h => absurd h (Nat.not_lt_zero i)⟩
theorem NL.below (h : NL w base e t A c o) (hb : Below w.heap.size w w') : NL w' base e t A c o := by
  obtain ⟨vals, hl, ho, f, cp, h1, h2⟩ := h
  exact ⟨vals, hl, ho.below hb, f, cp, fun i hi => ⟨(h1 i hi).1, (h1 i hi).2.1.below hb, (h1 i hi).2.2⟩, h2⟩
theorem NL.alloc (h : NL w base e t A c o) (x : Obj) : NL (w.alloc x) base e t A c o := h.below ((Below.refl _ _).alloc (Nat.le_refl _) _)
theorem NL.cap (h : NL w base e t A c o) : o.length ≤ c ∧ c ≤ 9223372036854775807 := by
  obtain ⟨vals, hl, ho, _⟩ := h
  rw [← hl]
  exact ho.cap
theorem NL.lt (h : NL w base e t A c o) : ∀ k, A.map Addr.block = some k → base ≤ k ∧ k < w.heap.size := by
  obtain ⟨vals, hl, ho, _⟩ := h
  exact ho.lt
theorem NL.push (h : NL w base e t A c o) : ∃ vals : List Value, vals.length = o.length ∧ Own w (fun _ => False) base e A c vals ∧
    ∀ A' c' w', Own w' (fun _ => False) base e A' c' (vals ++ [.slice none 0 0]) → w.grownBy w' (A.map Addr.block) → (A'.map Addr.block = A.map Addr.block ∨ A'.map Addr.block = some w.heap.size) → NL w' base e t A' c' (o ++ [[]]) := by
  obtain ⟨vals, hl, ho, f, cp, h1, h2⟩ := h
  refine ⟨vals, hl, ho, fun A' c' w' ho' hg hat => ⟨_, by simp [hl], ho', fun i => if i < o.length then f i else none, fun i => if i < o.length then cp i else 0, fun i hi => ?_, fun i j k hi hj e1 e2 => ?_⟩⟩
  · rcases Nat.lt_or_ge i o.length with hlt | hge
    · obtain ⟨q1, q2, q3⟩ := h1 i hlt
      dsimp only
      rw [if_pos hlt, if_pos hlt, List.getElem_append_left hlt]
      refine ⟨by rw [List.getElem?_append_left (by omega)]; exact q1, q2.keep (fun k hk hs => hg.block k hk (fun e => ?_)), fun k hk e => ?_⟩
      · rcases hs with hs | hs
        · exact hs
        · exact q3 k hs e.symm
      · rcases hat with hat | hat
        · rw [hat] at e; exact q3 k hk e
        · rw [hat] at e; injection e with e; have := (q2.lt k hk).2; omega
    · have hie : i = o.length := by simp at hi; omega
      subst hie
      dsimp only
      rw [if_neg (by omega), if_neg (by omega), List.getElem_append_right (Nat.le_refl _)]
      refine ⟨by rw [List.getElem?_append_right (by omega)]; simp [hl], ?_, fun k hk => by cases hk⟩
      simp only [Nat.sub_self, List.getElem_cons_zero]
      exact Own.nil w' _ base t
  · dsimp only at e1 e2
    have hi' : i < o.length := by
      rcases Nat.lt_or_ge i o.length with hlt | hge
      · exact hlt
      · rw [if_neg (by omega)] at e1; cases e1
    have hj' : j < o.length := by
      rcases Nat.lt_or_ge j o.length with hlt | hge
      · exact hlt
      · rw [if_neg (by omega)] at e2; cases e2
    rw [if_pos hi'] at e1
    rw [if_pos hj'] at e2
    exact h2 i j k hi' hj' e1 e2
theorem NL.row (h : NL w base e t A c o) {i : Nat} (hi : i < o.length) : ∃ g B d, A = some ⟨g, 0, none⟩ ∧ base ≤ g ∧ g < w.heap.size ∧ w.cell? ⟨g, i, none⟩ = some (.slice B o[i].length d) ∧ w.frozen? ⟨g, i, none⟩ = false ∧
    B.map Addr.block ≠ some g ∧ Own w (fun _ => False) base t B d o[i] ∧
    ∀ B' d' w' x, Own w' (fun _ => False) base t B' d' (o[i] ++ [x]) → w.grownBy w' (B.map Addr.block) → (B'.map Addr.block = B.map Addr.block ∨ B'.map Addr.block = some w.heap.size) →
      NL (w'.setCell ⟨g, i, none⟩ (.slice B' (o[i].length + 1) d')) base e t A c (o.set i (o[i] ++ [x])) := by
  obtain ⟨vals, hl, ho, f, cp, h1, h2⟩ := h
  obtain ⟨g, hA, hbg, hgs, hc, hz⟩ := ho.at1 (k := i) (by omega)
  obtain ⟨q1, q2, q3⟩ := h1 i hi
  have hBg : (f i).map Addr.block ≠ some g := fun e => q3 g e (by rw [hA]; rfl)
  refine ⟨g, f i, cp i, hA, hbg, hgs, ?_, hz, hBg, q2, fun B' d' w' x ho' hg hat => ?_⟩
  · rw [hc]
    rw [List.getElem?_eq_getElem (by omega)] at q1
    exact q1
  have ho2 : Own w' (fun _ => False) base e A c vals := ho.keep (fun k hk hs => hg.block k hk (fun e => by
    rcases hs with hs | hs
    · exact hs
    · exact q3 k e.symm hs))
  have hset : ∀ k, k ≠ g → (w'.setCell ⟨g, i, none⟩ (.slice B' (o[i].length + 1) d')).heap[k]? = w'.heap[k]? := fun k hk => set_other w' g i _ k hk
  have hB'g : B'.map Addr.block ≠ some g := by
    rcases hat with hat | hat
    · rw [hat]; exact hBg
    · rw [hat]; intro e; injection e with e; omega
  refine ⟨vals.set i (.slice B' (o[i].length + 1) d'), by simp [hl], ho2.put1 (by omega) hA _ rfl, fun j => if j = i then B' else f j, fun j => if j = i then d' else cp j, fun j hj => ?_, fun j1 j2 k hj1 hj2 e1 e2 => ?_⟩
  · rw [List.length_set] at hj
    by_cases hji : j = i
    · subst hji
      dsimp only
      rw [if_pos rfl, if_pos rfl]
      simp only [List.getElem_set_self]
      refine ⟨by rw [List.getElem?_set_self (by omega)]; simp, ho'.keep (fun k _ hs => hset k (fun e => ?_)), fun k hk e => ?_⟩
      · rcases hs with hs | hs
        · exact hs
        · exact hB'g (e ▸ hs)
      · rw [hA] at e
        injection e with e
        exact hB'g (by rw [hk, ← e])
    · dsimp only
      rw [if_neg hji, if_neg hji]
      have hij : i ≠ j := fun e => hji e.symm
      obtain ⟨p1, p2, p3⟩ := h1 j hj
      simp only [List.getElem_set_ne hij]
      refine ⟨by rw [List.getElem?_set_ne hij]; exact p1, (p2.keep (w' := w') (fun k hk hs => hg.block k hk (fun e => ?_))).keep (fun k _ hs => hset k (fun e => ?_)), p3⟩
      · rcases hs with hs | hs
        · exact hs
        · exact hij (h2 i j k hi hj e.symm hs)
      · rcases hs with hs | hs
        · exact hs
        · exact p3 k hs (by rw [hA, e]; rfl)
  · rw [List.length_set] at hj1 hj2
    dsimp only at e1 e2
    by_cases ha : j1 = i <;> by_cases hb : j2 = i
    · rw [ha, hb]
    · rw [if_pos ha] at e1
      rw [if_neg hb] at e2
      rcases hat with hat | hat
      · rw [hat] at e1; rw [ha]; exact h2 i j2 k hi hj2 e1 e2
      · rw [hat] at e1; injection e1 with e1; have := ((h1 j2 hj2).2.1.lt k e2).2; omega
    · rw [if_neg ha] at e1
      rw [if_pos hb] at e2
      rcases hat with hat | hat
      · rw [hat] at e2; rw [hb]; exact h2 j1 i k hj1 hi e1 e2
      · rw [hat] at e2; injection e2 with e2; have := ((h1 j1 hj1).2.1.lt k e1).2; omega
    · rw [if_neg ha] at e1
      rw [if_neg hb] at e2
      exact h2 j1 j2 k hj1 hj2 e1 e2
theorem NL.sl (h : NL w base e t A c o) : Sl w (fun b => base ≤ b) A o.length c o := by
  have hcap := h.cap
  obtain ⟨vals, hl, ho, f, cp, h1, h2⟩ := h
  refine ⟨rfl, hcap.1, hcap.2, fun i hi => ?_⟩
  obtain ⟨g, hA, hbg, hgs, hc, hz⟩ := ho.at1 (k := i) (by omega)
  obtain ⟨q1, q2, q3⟩ := h1 i hi
  refine ⟨_, hA, hbg, fun _ => vals[i]'(by omega), fun j hj => ?_, ?_⟩
  · obtain rfl : j = 0 := by have : GoT.size (List (List UInt8)) = 1 := rfl; omega
    rw [add_plain]
    have : GoT.size (List (List UInt8)) = 1 := rfl
    rw [this, show 0 + (i * 1 + 0) = i by omega]
    exact hc
  · rw [List.getElem?_eq_getElem (by omega)] at q1
    injection q1 with q1
    exact ⟨_, _, _, q1, (q2.sl (by decide)).wide (fun k _ hk => hk.elim False.elim (fun hk => (q2.lt k hk).1)) (by decide), by decide⟩
end
end Go.Proofs.YtkjoaodoioicpaaGreatDoor
