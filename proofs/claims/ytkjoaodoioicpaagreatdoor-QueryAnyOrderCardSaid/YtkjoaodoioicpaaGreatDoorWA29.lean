/- Query (package licitlaw54): a part of the proofs of its laws; see the law's own text, which comes last in 'order'. No conditions of its own. -/
import Derived.Test.YtkjoaodoioicpaaGreatDoorWA28
set_option linter.unusedVariables false
set_option linter.unusedSimpArgs false
namespace Go.Proofs.YtkjoaodoioicpaaGreatDoor
open Go.RowKit
theorem gK_cons (p : Bs × Int) (r : KMap) (s : Bs) : getK (p :: r) s = if p.1 == s then some p.2 else getK r s := by
  unfold getK
  rw [List.find?_cons]
  cases h : p.1 == s <;> rfl
theorem setK_new : ∀ (m : KMap) (s : Bs) (v : Int), getK m s = none → setK m s v = m ++ [(s, v)]
  | [], _, _, _ => rfl
  | p :: r, s, v, h => by
    rw [gK_cons] at h
    rw [setK]
    cases hn : p.1 == s
    · rw [hn] at h
      simp only [Bool.false_eq_true, if_false] at h ⊢
      rw [setK_new r s v h]
      rfl
    · rw [hn] at h
      simp at h
def rkMap (rk : List (Atm × Int)) : KMap := rk.map fun p => ((printAtomS p.1).1, p.2)
theorem rkMap_get : ∀ (rk : List (Atm × Int)), (∀ p ∈ rk, groundP p.1 = true) → ∀ a, groundP a = true → getV (rkMap rk) (printAtomS a).1 = rankOf rk a ∧ ((∀ p ∈ rk, p.1 ≠ a) → getK (rkMap rk) (printAtomS a).1 = none)
  | [], _, a, _ => ⟨rfl, fun _ => rfl⟩
  | p :: r, hg, a, ha => by
    obtain ⟨h1, h2⟩ := rkMap_get r (fun q hq => hg q (List.mem_cons_of_mem _ hq)) a ha
    have hp := hg p List.mem_cons_self
    have hm : rkMap (p :: r) = ((printAtomS p.1).1, p.2) :: rkMap r := rfl
    by_cases he : p.1 = a
    · refine ⟨?_, fun h => absurd he (h p List.mem_cons_self)⟩
      rw [hm, getV, gK_cons, rankOf, he]
      simp
    · have hne : ((printAtomS p.1).1 == (printAtomS a).1) = false := by rw [beq_eq_false_iff_ne]; exact fun e => he (print_inj hp ha e)
      refine ⟨?_, fun h => ?_⟩
      · rw [hm, getV, gK_cons, rankOf, if_neg he]
        simp only [hne, Bool.false_eq_true, if_false]
        exact h1
      · rw [hm, gK_cons]
        simp only [hne, Bool.false_eq_true, if_false]
        exact h2 fun q hq => h q (List.mem_cons_of_mem _ hq)
theorem rankAdd_cons (n : Int) (h : Atm) (t known : List Atm) (rk : List (Atm × Int)) : rankAdd n (h :: t) known rk = if known.contains h then rankAdd n t known rk else rankAdd n t (known ++ [h]) (rk ++ [(h, n)]) := rfl
theorem rankH_cons (known all : List Atm) (r : Rul) (t : List Rul) (s : List Atm) : rankH known all (r :: t) s = rankH known all t (iterF (rankF known r.head) (eachQ r.body known all) s).1 := rfl
theorem rankGo_succ (l : List Rul) (all : List Atm) (f : Nat) (n : Int) (known : List Atm) (rk : List (Atm × Int)) : rankGo l all (f + 1) n known rk = if known.length < all.length then rankGo l all f (n + 1) (rankAdd n (rankH known all l []) known rk).1 (rankAdd n (rankH known all l []) known rk).2 else some rk := rfl
theorem rank_len (known : List Atm) (head : Atm) : ∀ (L : List Bnd) (s : List Atm), (iterF (rankF known head) L s).1.length ≤ s.length + L.length
  | [], s => by rw [iterF]; exact Nat.le_refl _
  | v :: r, s => by
    rw [iterF]
    have h1 : (rankF known head s v).1.length ≤ s.length + 1 := by
      unfold rankF
      simp only
      split
      · omega
      · rw [List.length_append, List.length_singleton]; omega
    have h2 : (rankF known head s v).2 = true := rfl
    rw [h2, if_pos rfl, List.length_cons]
    have := rank_len known head r (rankF known head s v).1
    omega
theorem rank_ground (known : List Atm) (head : Atm) : ∀ (L : List Bnd) (s : List Atm), (∀ h ∈ s, groundP h = true) → (∀ v ∈ L, groundP (atomV v head) = true) → ∀ h ∈ (iterF (rankF known head) L s).1, groundP h = true
  | [], s, hs, _ => by rw [iterF]; exact hs
  | v :: r, s, hs, hl => by
    rw [iterF]
    have h2 : (rankF known head s v).2 = true := rfl
    rw [h2, if_pos rfl]
    refine rank_ground known head r _ ?_ fun u hu => hl u (List.mem_cons_of_mem _ hu)
    unfold rankF
    simp only
    split
    · exact hs
    · intro h hh
      rcases List.mem_append.1 hh with hh | hh
      · exact hs h hh
      · rw [List.mem_singleton.1 hh]; exact hl v List.mem_cons_self
structure RkI (W0 wr : World) (F0 I0 Fk Ik : Nat → Prop) (pk mb : Nat) (known : List Atm) (rk : List (Atm × Int)) : Prop where
  base : BaseR wr Fk Ik pk known
  map : MapR wr mb (rkMap rk)
  f2 : ∀ k, Fk k → F0 k ∨ W0.heap.size ≤ k
  i2 : ∀ k, Ik k → I0 k ∨ W0.heap.size ≤ k
  b : ∀ k, Fk k ∨ Ik k → k < wr.heap.size
  frm : Frm (fun k => F0 k ∨ k = mb) W0 wr
  nm : ¬ Fk mb ∧ ¬ Ik mb ∧ mb ≠ pk
  gr : ∀ p ∈ rk, groundP p.1 = true ∧ p.1 ∈ known
  ln : rk.length ≤ known.length
theorem RkI.below {W0 wr wx : World} {F0 I0 Fk Ik : Nat → Prop} {pk mb : Nat} {known : List Atm} {rk : List (Atm × Int)} (h : RkI W0 wr F0 I0 Fk Ik pk mb known rk) (hb : Below wr.heap.size wr wx) : RkI W0 wx F0 I0 Fk Ik pk mb known rk :=
  ⟨h.base.below hb, h.map.below hb, h.f2, h.i2, fun k hk => Nat.lt_of_lt_of_le (h.b k hk) hb.size, h.frm.trans (Frm.any hb), h.nm, h.gr, h.ln⟩
theorem RkI.same {W0 wr wx : World} {F0 I0 Fk Ik F' I' : Nat → Prop} {pk mb : Nat} {known : List Atm} {rk : List (Atm × Int)} (h : RkI W0 wr F0 I0 Fk Ik pk mb known rk) {known' : List Atm} (hk : ∀ a ∈ known, a ∈ known') (hln : known.length ≤ known'.length) (hb : BaseR wx F' I' pk known') (hg : Grw wr wx Fk Ik F' I') : RkI W0 wx F0 I0 F' I' pk mb known' rk := by
  have hml := h.map.lt
  have hsz := h.frm.size
  refine ⟨hb, h.map.keep (hg.frm.block mb hml h.nm.1), fun k hk' => ?_, fun k hk' => ?_, hg.b, h.frm.transM hg.frm fun i hi hF => ?_, ⟨fun e => ?_, fun e => ?_, h.nm.2.2⟩, fun p hp => ⟨(h.gr p hp).1, hk _ (h.gr p hp).2⟩, Nat.le_trans h.ln hln⟩
  · rcases hg.f2 k hk' with e | e
    · exact h.f2 k e
    · exact .inr (by omega)
  · rcases hg.i2 k hk' with e | e
    · exact h.i2 k e
    · exact .inr (by omega)
  · rcases h.f2 i hF with e | e
    · exact .inl e
    · omega
  · rcases hg.f2 mb e with e | e
    · exact h.nm.1 e
    · omega
  · rcases hg.i2 mb e with e | e
    · exact h.nm.2.1 e
    · omega
theorem RkI.put {W0 wr wx : World} {F0 I0 Fk Ik : Nat → Prop} {pk mb : Nat} {known : List Atm} {rk : List (Atm × Int)} (h : RkI W0 wr F0 I0 Fk Ik pk mb known rk) {a : Atm} {n : Int} (ha : groundP a = true) (hk : a ∈ known) (hln : rk.length + 1 ≤ known.length) (hm : MapR wx mb (rkMap (rk ++ [(a, n)]))) (hg : wr.grownBy wx (some mb)) : RkI W0 wx F0 I0 Fk Ik pk mb known (rk ++ [(a, n)]) := by
  have hblk : ∀ k, k < wr.heap.size → k ≠ mb → wx.heap[k]? = wr.heap[k]? := fun k hk hne => hg.block k hk (fun e => hne (by injection e))
  refine ⟨h.base.keep fun k hk hF => hblk k hk ?_, hm, h.f2, h.i2, fun k hk => Nat.lt_of_lt_of_le (h.b k hk) hg.size, h.frm.grown hg (fun k hk _ => by injection hk with hk; exact .inr hk.symm), h.nm, fun p hp => ?_, by rw [List.length_append, List.length_singleton]; exact hln⟩
  · rcases hF with e | e | e
    · exact fun e2 => h.nm.1 (by rw [← e2]; exact e)
    · exact fun e2 => h.nm.2.1 (by rw [← e2]; exact e)
    · rw [e]; exact fun e2 => h.nm.2.2 e2.symm
  · rcases List.mem_append.1 hp with hp | hp
    · exact h.gr p hp
    · rw [List.mem_singleton.1 hp]; exact ⟨ha, hk⟩
end Go.Proofs.YtkjoaodoioicpaaGreatDoor
