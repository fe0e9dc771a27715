/- Query (package licitlaw54): a part of the proofs of its laws; see the law's own text, which comes last in 'order'. No conditions of its own. -/
import Derived.Test.YtkjoaodoioicpaaGreatDoorWA08
import Derived.Test.YtkjoaodoioicpaaGreatDoorWA18
set_option linter.unusedVariables false
set_option linter.unusedSimpArgs false
namespace Go.Proofs.YtkjoaodoioicpaaGreatDoor
open Go.RowKit
def BaseX (w : World) (F I : Nat → Prop) (p fb ib : Nat) (L : List Atm) (lst : Plc → List Atm) : Prop :=
  ∃ fm im, w.heap[p]? = some (.cells #[.map (some fb), .map (some ib)] 91 (0, 0)) ∧ F fb ∧ F ib ∧ fb < p ∧ ib < p ∧ fb ≠ ib ∧
    MapV TS w fb fm ∧ MapV TP w ib im ∧ fm.map (·.1) = L.map (fun a => (printAtomS a).1) ∧ (∀ i (h : i < fm.length) (h' : i < L.length), FactV w I fm[i].2 L[i]) ∧
    (∀ q, OkP q → ∃ B c, (getM im q).getD (.slice none 0 0) = .slice B (lst q).length c ∧ Own w I (p + 1) 31 B c (lst q) ∧ ∀ k, B.map Addr.block = some k → F k) ∧
    (∀ q q' B B' n n' c c', OkP q → OkP q' → q ≠ q' → (getM im q).getD (.slice none 0 0) = .slice B n c → (getM im q').getD (.slice none 0 0) = .slice B' n' c' → ∀ k, B.map Addr.block = some k → B'.map Addr.block ≠ some k)
structure BaseW (w : World) (F I : Nat → Prop) (p fb ib : Nat) (L : List Atm) (lst : Plc → List Atm) : Prop where
  ex : BaseX w F I p fb ib L lst
  nf : ¬ F p ∧ ¬ I p
  apart : ∀ k, F k → ¬ I k
  bd : ∀ k, F k ∨ I k → k < w.heap.size
  gr : Gr L
section
variable {w w' : World} {F I : Nat → Prop} {p fb ib : Nat} {L : List Atm} {lst : Plc → List Atm}
theorem BaseR.toW (h : BaseR w F I p L) (hb : ∀ k, F k ∨ I k → k < w.heap.size) : ∃ fb ib, BaseW w F I p fb ib L (idxL L) := by
  obtain ⟨fb, ib, fm, im, hx⟩ := h.ex
  exact ⟨fb, ib, ⟨⟨fm, im, hx⟩, h.nf, h.apart, hb, h.gr⟩⟩
theorem BaseW.toR (h : BaseW w F I p fb ib L lst) (hl : ∀ q, OkP q → lst q = idxL L q) (hn : L.Nodup) : BaseR w F I p L := by
  obtain ⟨fm, im, h0, h1, h2, h3, h3', h4, h5, h6, h7, h8, h9, h10⟩ := h.ex
  refine ⟨⟨fb, ib, fm, im, h0, h1, h2, h3, h3', h4, h5, h6, h7, h8, fun q hq => ?_, h10⟩, h.nf, h.apart, h.gr, hn⟩
  rw [← hl q hq]
  exact h9 q hq
theorem BaseW.lt (h : BaseW w F I p fb ib L lst) : p < w.heap.size := by
  obtain ⟨fm, im, h0, _⟩ := h.ex
  exact (Array.getElem?_eq_some_iff.1 h0).1
theorem BaseW.blk (h : BaseW w F I p fb ib L lst) : w.heap[p]? = some (.cells #[.map (some fb), .map (some ib)] 91 (0, 0)) := by
  obtain ⟨fm, im, h0, _⟩ := h.ex
  exact h0
theorem BaseW.maps (h : BaseW w F I p fb ib L lst) : F fb ∧ F ib ∧ fb < p ∧ ib < p ∧ fb ≠ ib := by
  obtain ⟨fm, im, h0, h1, h2, h3, h3', h4, _⟩ := h.ex
  exact ⟨h1, h2, h3, h3', h4⟩
theorem BaseW.wider (h : BaseW w F I p fb ib L lst) (hb : Below w.heap.size w w') {J : Nat → Prop} (hJ : ∀ k, J k → w.heap.size ≤ k ∧ k < w'.heap.size) : BaseW w' F (fun k => I k ∨ J k) p fb ib L lst := by
  have hlt := h.lt
  obtain ⟨fm, im, h0, h1, h2, h3, h3', h4, h5, h6, h7, h8, h9, h10⟩ := h.ex
  refine ⟨⟨fm, im, keptBlk hb h0, h1, h2, h3, h3', h4, h5.below hb, h6.below hb, h7, ?_, ?_, h10⟩, ⟨h.nf.1, fun e => e.elim h.nf.2 fun e => by have := hJ _ e; omega⟩, fun k hk e => e.elim (h.apart k hk) fun e => by have := hJ _ e; have := h.bd k (.inl hk); omega, ?_, h.gr⟩
  · intro i hi hi'
    obtain ⟨A, n, c, e, hs⟩ := h8 i hi hi'
    exact ⟨A, n, c, e, (hs.below hb).wide (fun k _ hk => .inl hk) (by decide)⟩
  · intro q hq
    obtain ⟨B, c, e, ho, hF⟩ := h9 q hq
    exact ⟨B, c, e, (ho.below hb).wide (fun k _ hk => .inl hk), hF⟩
  · intro k hk
    have := hb.size
    rcases hk with hk | hk | hk
    · have := h.bd k (.inl hk); omega
    · have := h.bd k (.inr hk); omega
    · exact (hJ k hk).2
theorem BaseW.below (h : BaseW w F I p fb ib L lst) (hb : Below w.heap.size w w') : BaseW w' F I p fb ib L lst := by
  obtain ⟨fm, im, h0, h1, h2, h3, h3', h4, h5, h6, h7, h8, h9, h10⟩ := h.ex
  refine ⟨⟨fm, im, keptBlk hb h0, h1, h2, h3, h3', h4, h5.below hb, h6.below hb, h7, ?_, ?_, h10⟩, h.nf, h.apart, fun k hk => Nat.lt_of_lt_of_le (h.bd k hk) hb.size, h.gr⟩
  · intro i hi hi'
    obtain ⟨A, n, c, e, hs⟩ := h8 i hi hi'
    exact ⟨A, n, c, e, hs.below hb⟩
  · intro q hq
    obtain ⟨B, c, e, ho, hF⟩ := h9 q hq
    exact ⟨B, c, e, ho.below hb, hF⟩
theorem BaseW.facts (h : BaseW w F I p fb ib L lst) : ∃ fm, MapV TS w fb fm ∧ (∀ x, (getM fm (printAtomS x).1).isSome = L.contains x) ∧
    (∀ s, ∃ s' A' n' c', (getM fm s).getD (.agg #[.string ⟨#[]⟩, .slice none 0 0]) = .agg #[.string s', .slice A' n' c']) ∧
    ∀ x v (w' : World), groundP x = true → x ∉ L → FactV w I v x → MapV TS w' fb (setM fm (printAtomS x).1 v) → w.grownBy w' (some fb) → BaseW w' F I p fb ib (L ++ [x]) lst := by
  have hlt := h.lt
  have hap := h.apart
  have hnf := h.nf
  obtain ⟨fm, im, h0, h1, h2, h3, h3', h4, h5, h6, h7, h8, h9, h10⟩ := h.ex
  refine ⟨fm, h5, fun x => has_key' h.gr h7 x, fun s => fact_at h7 h8 s, fun x v w' hx hn hv hm hg => ?_⟩
  have hk : ∀ k, k ≠ fb → k < w.heap.size → w'.heap[k]? = w.heap[k]? := fun k hne hk => hg.block k hk (fun e => hne (by injection e))
  have hnew : ∀ q ∈ fm, q.1 ≠ (printAtomS x).1 := by
    intro q hq e
    have h1 := has_key' h.gr h7 x
    have h2 : (getM fm (printAtomS x).1).isSome = true := getM_mem.2 (List.mem_map.2 ⟨q, hq, e⟩)
    rw [h2] at h1
    exact hn (List.contains_iff_mem.1 h1.symm)
  have hFI : ∀ k, I k → k ≠ fb := fun k hk e => hap fb h1 (by rw [← e]; exact hk)
  rw [setM_none v hnew] at hm
  refine ⟨⟨_, im, (hk p (by omega) hlt).trans h0, h1, h2, h3, h3', h4, hm, h6.keep (hk _ (fun e => h4 e.symm) h6.lt), by rw [List.map_append, List.map_append, h7]; rfl, ?_, ?_, h10⟩, hnf, hap, fun k hk => Nat.lt_of_lt_of_le (h.bd k hk) hg.size, ?_⟩
  · have hl : fm.length = L.length := by have := congrArg List.length h7; simpa using this
    intro i hi hi'
    by_cases hlt : i < L.length
    · rw [List.getElem_append_left (by omega), List.getElem_append_left hlt]
      obtain ⟨A, n, c, e, hs⟩ := h8 i (by omega) hlt
      exact ⟨A, n, c, e, hs.keep fun k hk' hI => hk k (hFI k hI) hk'⟩
    · rw [List.length_append, List.length_singleton] at hi hi'
      have : i = L.length := by omega
      subst this
      rw [List.getElem_append_right (by omega), List.getElem_append_right (Nat.le_refl _)]
      simp only [hl, Nat.sub_self, List.getElem_cons_zero]
      obtain ⟨A, n, c, e, hs⟩ := hv
      exact ⟨A, n, c, e, hs.keep fun k hk' hI => hk k (hFI k hI) hk'⟩
  · intro q hq
    obtain ⟨B, c, e, ho, hF⟩ := h9 q hq
    refine ⟨B, c, e, ho.keep fun k hk' hI => hk k ?_ hk', hF⟩
    rcases hI with hI | hI
    · exact hFI k hI
    · have := (ho.lt k hI).1; omega
  · intro a ha
    rcases List.mem_append.1 ha with ha | ha
    · exact h.gr a ha
    · rw [List.mem_singleton.1 ha]; exact hx
theorem BaseW.place (h : BaseW w F I p fb ib L lst) (q : Plc) (hq : OkP q) : ∃ im B c, MapV TP w ib im ∧ (getM im q).getD (.slice none 0 0) = .slice B (lst q).length c ∧ Own w I (p + 1) 31 B c (lst q) ∧ (∀ k, B.map Addr.block = some k → F k) ∧
    ∀ x (w' : World) B' c', MapV TP w' ib (setM im q (.slice B' ((lst q).length + 1) c')) → Own w' I (p + 1) 31 B' c' (lst q ++ [x]) → (B'.map Addr.block = B.map Addr.block ∨ ∀ k, B'.map Addr.block = some k → w.heap.size ≤ k) → w.heap.size ≤ w'.heap.size →
      (∀ k, k < w.heap.size → k ≠ ib → B.map Addr.block ≠ some k → w'.heap[k]? = w.heap[k]?) → BaseW w' (fun k => F k ∨ B'.map Addr.block = some k) I p fb ib L (fun q' => if q' = q then lst q ++ [x] else lst q') := by
  have hlt := h.lt
  have hap := h.apart
  have hnf := h.nf
  obtain ⟨fm, im, h0, h1, h2, h3, h3', h4, h5, h6, h7, h8, h9, h10⟩ := h.ex
  obtain ⟨B, c, e, ho, hF⟩ := h9 q hq
  refine ⟨im, B, c, h6, e, ho, hF, fun x w' B' c' hm ho' hat hsz hk => ?_⟩
  have hIi : ∀ k, I k → k ≠ ib := fun k hk e => hap ib h2 (by rw [← e]; exact hk)
  have hIB : ∀ k, I k → B.map Addr.block ≠ some k := fun k hk e => hap k (hF k e) hk
  have hlow : ∀ k, k ≤ p → B.map Addr.block ≠ some k := fun k hk e => by have := (ho.lt k e).1; omega
  have hF' : ∀ k, B'.map Addr.block = some k → F k ∨ w.heap.size ≤ k := fun k hk => by
    rcases hat with hat | hat
    · exact .inl (hF k (by rw [← hat]; exact hk))
    · exact .inr (hat k hk)
  refine ⟨⟨fm, _, (hk p hlt (by omega) (hlow p (Nat.le_refl _))).trans h0, .inl h1, .inl h2, h3, h3', h4, h5.keep (hk fb h5.lt h4 (hlow fb (by omega))), hm, h7, ?_, ?_, ?_⟩, ⟨fun e => e.elim hnf.1 fun e => by have := (ho'.lt p e).1; omega, hnf.2⟩, fun k hk' hI => ?_, fun k hk' => ?_, h.gr⟩
  · intro i hi hi'
    obtain ⟨A, n, c, e, hs⟩ := h8 i hi hi'
    exact ⟨A, n, c, e, hs.keep fun k hk' hI => hk k hk' (hIi k hI) (hIB k hI)⟩
  · intro q' hq'
    show ∃ B2 c2, (getM (setM im q (.slice B' ((lst q).length + 1) c')) q').getD (.slice none 0 0) = .slice B2 (if q' = q then lst q ++ [x] else lst q').length c2 ∧ Own w' I (p + 1) 31 B2 c2 (if q' = q then lst q ++ [x] else lst q') ∧ ∀ k, B2.map Addr.block = some k → F k ∨ B'.map Addr.block = some k
    by_cases hqq : q' = q
    · subst hqq
      rw [if_pos rfl, getM_set, if_pos rfl]
      exact ⟨B', c', by rw [List.length_append]; rfl, ho', fun k hk => .inr hk⟩
    · rw [if_neg hqq, getM_set, if_neg (fun e => hqq e.symm)]
      obtain ⟨B2, c2, e2, ho2, hF2⟩ := h9 q' hq'
      refine ⟨B2, c2, e2, ho2.keep fun k hk' hI => ?_, fun k hk => .inl (hF2 k hk)⟩
      rcases hI with hI | hI
      · exact hk k hk' (hIi k hI) (hIB k hI)
      · exact hk k hk' (by have := (ho2.lt k hI).1; omega) (fun e3 => h10 q q' B B2 _ _ c c2 hq hq' (fun e => hqq e.symm) e e2 k e3 hI)
  · intro q1 q2 B1 B2 n1 n2 c1 c2 hq1 hq2 hne g1 g2 k hb1 hb2
    rw [getM_set] at g1 g2
    by_cases e1 : q = q1
    · rw [if_pos e1] at g1
      rw [if_neg (fun e => hne (e1.symm.trans e))] at g2
      injection g1 with g1 _ _
      obtain ⟨B3, c3, e3, ho3, hF3⟩ := h9 q2 hq2
      rw [e3] at g2
      injection g2 with g2 _ _
      subst g1 g2
      rcases hat with hat | hat
      · exact h10 q q2 B B3 _ _ c c3 hq hq2 (by rw [e1]; exact hne) e e3 k (by rw [← hat]; exact hb1) hb2
      · have := hat k hb1
        have := (ho3.lt k hb2).2
        omega
    · rw [if_neg e1] at g1
      by_cases e2 : q = q2
      · rw [if_pos e2] at g2
        injection g2 with g2 _ _
        obtain ⟨B3, c3, e3, ho3, hF3⟩ := h9 q1 hq1
        rw [e3] at g1
        injection g1 with g1 _ _
        subst g1 g2
        rcases hat with hat | hat
        · exact h10 q1 q B3 B _ _ c3 c hq1 hq (by rw [e2]; exact hne) e3 e k hb1 (by rw [← hat]; exact hb2)
        · have := hat k hb2
          have := (ho3.lt k hb1).2
          omega
      · rw [if_neg e2] at g2
        exact h10 q1 q2 B1 B2 n1 n2 c1 c2 hq1 hq2 hne g1 g2 k hb1 hb2
  · rcases hk' with hk' | hk'
    · exact hap k hk' hI
    · rcases hF' k hk' with h' | h'
      · exact hap k h' hI
      · have := h.bd k (.inr hI); omega
  · rcases hk' with (hk' | hk') | hk'
    · have := h.bd k (.inl hk'); omega
    · exact (ho'.lt k hk').2
    · have := h.bd k (.inr hk'); omega
theorem BaseW.congr {lst' : Plc → List Atm} (h : BaseW w F I p fb ib L lst) (hl : ∀ q, OkP q → lst q = lst' q) : BaseW w F I p fb ib L lst' := by
  obtain ⟨fm, im, h0, h1, h2, h3, h3', h4, h5, h6, h7, h8, h9, h10⟩ := h.ex
  refine ⟨⟨fm, im, h0, h1, h2, h3, h3', h4, h5, h6, h7, h8, fun q hq => ?_, h10⟩, h.nf, h.apart, h.bd, h.gr⟩
  rw [← hl q hq]
  exact h9 q hq
end
def lstK (L : List Atm) (x : Atm) (k : Int) (q : Plc) : List Atm := idxL L q ++ (if matchP q x && decide (q.at_ < k) then [x] else [])
theorem match_at {q : Plc} {x : Atm} (h : matchP q x = true) : (q.at_ = -1 ∧ q = basePl x) ∨ ∃ (i : Nat) (y : Arg), q.at_ = i ∧ x.args[i]? = some y ∧ q = argPl x i y := by
  obtain ⟨nm, ar, at_, kd, nu, tx⟩ := q
  unfold matchP at h
  simp only [Bool.and_eq_true, beq_iff_eq] at h
  obtain ⟨⟨h1, h2⟩, h3⟩ := h
  by_cases ha : at_ = -1
  · left
    rw [if_pos ha] at h3
    simp only [Bool.and_eq_true, beq_iff_eq, List.isEmpty_iff] at h3
    refine ⟨ha, ?_⟩
    unfold basePl
    rw [← h1, ← h2, ha, h3.1.1, h3.1.2, h3.2]
  · right
    rw [if_neg ha] at h3
    simp only [Bool.and_eq_true, decide_eq_true_eq] at h3
    obtain ⟨h3, h4⟩ := h3
    refine ⟨at_.toNat, ?_⟩
    cases hg : x.args[at_.toNat]? with
    | none => rw [hg] at h4; cases h4
    | some y =>
      rw [hg] at h4
      have h4 : y = ⟨kd, tx, nu⟩ := by simpa using h4
      refine ⟨y, by simp only; omega, rfl, ?_⟩
      unfold argPl
      rw [← h1, ← h2, h4, Int.toNat_of_nonneg h3]
theorem match_base (x : Atm) : matchP (basePl x) x = true := by simp [matchP, basePl]
theorem match_arg {x : Atm} {i : Nat} {y : Arg} (h : x.args[i]? = some y) : matchP (argPl x i y) x = true := by
  have : ¬ ((i : Int) = -1) := by omega
  simp [matchP, argPl, h, this]
theorem lstK_start (L : List Atm) (x : Atm) (q : Plc) : idxL L q = lstK L x (-1) q := by
  unfold lstK
  cases hm : matchP q x
  · simp
  · have : ¬ q.at_ < -1 := by
      rcases match_at hm with ⟨h, _⟩ | ⟨i, y, h, _⟩ <;> omega
    simp [this]
theorem lstK_base (L : List Atm) (x : Atm) (q : Plc) : (if q = basePl x then lstK L x (-1) (basePl x) ++ [x] else lstK L x (-1) q) = lstK L x 0 q := by
  by_cases h : q = basePl x
  · rw [if_pos h, h]
    unfold lstK
    rw [match_base]
    simp [basePl]
  · rw [if_neg h]
    unfold lstK
    cases hm : matchP q x
    · rfl
    · rcases match_at hm with ⟨h1, h2⟩ | ⟨i, y, h1, h2, h3⟩
      · exact absurd h2 h
      · have e1 : ¬ q.at_ < -1 := by omega
        have e2 : ¬ q.at_ < 0 := by omega
        simp [e1, e2]
theorem lstK_arg (L : List Atm) {x : Atm} {i : Nat} {y : Arg} (hi : x.args[i]? = some y) (q : Plc) : (if q = argPl x i y then lstK L x i (argPl x i y) ++ [x] else lstK L x i q) = lstK L x ((i : Int) + 1) q := by
  by_cases h : q = argPl x i y
  · rw [if_pos h, h]
    unfold lstK
    rw [match_arg hi]
    have e1 : (argPl x i y).at_ = i := rfl
    rw [e1]
    have e2 : ¬ ((i : Int) < i) := by omega
    have e3 : ((i : Int) < (i : Int) + 1) := by omega
    simp [e2, e3]
  · rw [if_neg h]
    unfold lstK
    cases hm : matchP q x
    · rfl
    · rcases match_at hm with ⟨h1, h2⟩ | ⟨j, z, h1, h2, h3⟩
      · have e1 : q.at_ < i := by omega
        have e2 : q.at_ < (i : Int) + 1 := by omega
        simp [e1, e2]
      · have hne : j ≠ i := by
          intro e
          subst e
          rw [hi] at h2
          injection h2 with h2
          exact h (by rw [h3, h2])
        have : (q.at_ < (i : Int) + 1) ↔ q.at_ < i := by omega
        simp [this]
theorem lstK_end (L : List Atm) (x : Atm) (q : Plc) : lstK L x x.args.length q = idxL (L ++ [x]) q := by
  unfold lstK idxL
  rw [List.filter_append, List.filter_cons, List.filter_nil]
  cases hm : matchP q x
  · simp
  · have : q.at_ < (x.args.length : Int) := by
      rcases match_at hm with ⟨h1, h2⟩ | ⟨j, z, h1, h2, h3⟩
      · omega
      · have := (List.getElem?_eq_some_iff.1 h2).1; omega
    simp [this]
end Go.Proofs.YtkjoaodoioicpaaGreatDoor
namespace Go.Proofs.YtkjoaodoioicpaaGreatDoor
open Go.RowKit
section
variable {w : World} {F I : Nat → Prop} {p fb ib : Nat} {L : List Atm} {lst : Plc → List Atm}
theorem BaseW.app (h : BaseW w F I p fb ib L lst) (q : Plc) (hq : OkP q) : ∃ im B c, MapV TP w ib im ∧ (getM im q).getD (.slice none 0 0) = .slice B (lst q).length c ∧
    (∀ k, B.map Addr.block = some k → F k ∧ p + 1 ≤ k ∧ k < w.heap.size) ∧ (∀ k, I k → B.map Addr.block ≠ some k) ∧
    (∀ w1, w.heap.size ≤ w1.heap.size → (∀ k, k < w.heap.size → k ≠ ib → w1.heap[k]? = w.heap[k]?) → Own w1 I (p + 1) 31 B c (lst q)) ∧
    ∀ x (w1 w2 w3 : World) B' c', w.heap.size ≤ w1.heap.size → (∀ k, k < w.heap.size → k ≠ ib → w1.heap[k]? = w.heap[k]?) → Own w2 I (p + 1) 31 B' c' (lst q ++ [x]) → w1.grownBy w2 (B.map Addr.block) →
      (B'.map Addr.block = B.map Addr.block ∨ B'.map Addr.block = some w1.heap.size) → MapV TP w3 ib (setM im q (.slice B' ((lst q).length + 1) c')) → w2.grownBy w3 (some ib) →
      BaseW w3 (fun k => F k ∨ B'.map Addr.block = some k) I p fb ib L (fun q' => if q' = q then lst q ++ [x] else lst q') := by
  obtain ⟨im, B, c, hm, he, ho, hF, hcl⟩ := h.place q hq
  have hap := h.apart
  obtain ⟨f1, f2, f3, f4, f5⟩ := h.maps
  refine ⟨im, B, c, hm, he, fun k hk => ⟨hF k hk, ho.lt k hk⟩, fun k hk e => hap k (hF k e) hk, fun w1 hs hk => ?_, fun x w1 w2 w3 B' c' hs1 hk1 ho2 hg2 hat hm3 hg3 => ?_⟩
  · refine ho.keep fun k hk' hI => hk k hk' ?_
    rcases hI with hI | hI
    · exact fun e => hap ib f2 (by rw [← e]; exact hI)
    · have := (ho.lt k hI).1; omega
  · have hlow : ∀ k, B'.map Addr.block = some k → k ≠ ib := fun k hk e => by have := (ho2.lt k hk).1; omega
    refine hcl x w3 B' c' hm3 (ho2.keep fun k hk' hI => hg3.block k hk' (fun e => ?_)) ?_ (Nat.le_trans hs1 (Nat.le_trans hg2.size hg3.size)) fun k hk hne hB => ?_
    · injection e with e
      rcases hI with hI | hI
      · exact hap k (by rw [e]; exact f2) hI
      · exact hlow k hI e
    · rcases hat with hat | hat
      · exact .inl hat
      · exact .inr fun k hk => by rw [hat] at hk; injection hk with hk; omega
    · rw [hg3.block k (Nat.lt_of_lt_of_le hk (Nat.le_trans hs1 hg2.size)) (fun e => hne (by injection e)), hg2.block k (Nat.lt_of_lt_of_le hk hs1) (fun e => hB e.symm), hk1 k hk hne]
end
structure Grw (w w' : World) (F I F' I' : Nat → Prop) : Prop where
  f : ∀ k, F k → F' k
  f2 : ∀ k, F' k → F k ∨ w.heap.size ≤ k
  i : ∀ k, I k → I' k
  i2 : ∀ k, I' k → I k ∨ w.heap.size ≤ k
  b : ∀ k, F' k ∨ I' k → k < w'.heap.size
  frm : Frm F w w'
theorem Grw.refl {w w' : World} {F I : Nat → Prop} (hb : ∀ k, F k ∨ I k → k < w.heap.size) (h : Below w.heap.size w w') : Grw w w' F I F I :=
  ⟨fun _ h => h, fun _ h => .inl h, fun _ h => h, fun _ h => .inl h, fun k hk => Nat.lt_of_lt_of_le (hb k hk) h.size, Frm.any h⟩
structure AddI (w wx : World) (F I F' I' : Nat → Prop) (p fb ib : Nat) (x : Atm) (A : Option Addr) (c : Nat) (L : List Atm) (k : Int) : Prop where
  base : BaseW wx F' I' p fb ib (L ++ [x]) (lstK L x k)
  f : ∀ k, F k → F' k
  f2 : ∀ k, F' k → F k ∨ w.heap.size ≤ k
  i : ∀ k, I k → I' k
  i2 : ∀ k, I' k → I k ∨ w.heap.size ≤ k
  frm : Frm F w wx
  nk : ¬ F' w.heap.size
  blk : wx.heap[w.heap.size]? = some (.cells #[.string ⟨x.name.toArray⟩, .slice A x.args.length c] 31 (0, 0))
  sl : Sl wx I' A x.args.length c x.args
theorem AddI.below {w wx wy : World} {F I F' I' : Nat → Prop} {p fb ib : Nat} {x : Atm} {A : Option Addr} {c : Nat} {L : List Atm} {k : Int} (h : AddI w wx F I F' I' p fb ib x A c L k) (hb : Below wx.heap.size wx wy) : AddI w wy F I F' I' p fb ib x A c L k :=
  ⟨h.base.below hb, h.f, h.f2, h.i, h.i2, h.frm.trans (Frm.any hb), h.nk, keptBlk hb h.blk, h.sl.below hb⟩
theorem AddI.app {w wx : World} {F I F' I' : Nat → Prop} {p fb ib : Nat} {x : Atm} {A : Option Addr} {c : Nat} {L : List Atm} {k : Int} (h : AddI w wx F I F' I' p fb ib x A c L k) (q : Plc) (hq : OkP q) (k' : Int)
    (hl : ∀ q', (if q' = q then lstK L x k q ++ [x] else lstK L x k q') = lstK L x k' q') : ∃ im B c0, MapV TP wx ib im ∧ (getM im q).getD (.slice none 0 0) = .slice B (lstK L x k q).length c0 ∧
    (∀ k, B.map Addr.block = some k → p + 1 ≤ k ∧ k < wx.heap.size ∧ k ≠ w.heap.size) ∧
    (∀ w1, wx.heap.size ≤ w1.heap.size → (∀ k, k < wx.heap.size → k ≠ ib → w1.heap[k]? = wx.heap[k]?) → Own w1 I' (p + 1) 31 B c0 (lstK L x k q) ∧
      GoT.rd w1 (fun b => I' b ∧ B.map Addr.block ≠ some b) (fun j => ([.string ⟨x.name.toArray⟩, .slice A x.args.length c] : List Value).getD j undef) x) ∧
    ∀ (w1 w2 w3 : World) B' c', wx.heap.size ≤ w1.heap.size → w1.os = wx.os → w1.tape = wx.tape → w1.output = wx.output → (∀ k, k < wx.heap.size → k ≠ ib → w1.heap[k]? = wx.heap[k]?) → Own w2 I' (p + 1) 31 B' c' (lstK L x k q ++ [x]) → w1.grownBy w2 (B.map Addr.block) →
      (B'.map Addr.block = B.map Addr.block ∨ B'.map Addr.block = some w1.heap.size) → MapV TP w3 ib (setM im q (.slice B' ((lstK L x k q).length + 1) c')) → w2.grownBy w3 (some ib) →
      AddI w w3 F I (fun k => F' k ∨ B'.map Addr.block = some k) I' p fb ib x A c L k' := by
  obtain ⟨im, B, c0, h1, h2, h3, h4, h5, h6⟩ := h.base.app q hq
  obtain ⟨f1, f2, f3, f4, f5⟩ := h.base.maps
  have hap := h.base.apart
  have hklt := (Array.getElem?_eq_some_iff.1 h.blk).1
  have hni : w.heap.size ≠ ib := fun e => h.nk (by rw [e]; exact f2)
  have hnB : B.map Addr.block ≠ some w.heap.size := fun e => h.nk (h3 _ e).1
  have hII : ∀ k, I' k → k ≠ ib := fun k hk e => hap ib f2 (by rw [← e]; exact hk)
  refine ⟨im, B, c0, h1, h2, fun k hk => ⟨(h3 k hk).2.1, (h3 k hk).2.2, fun e => hnB (by rw [← e]; exact hk)⟩, fun w1 hs hk => ⟨h5 w1 hs hk, rfl, A, _, c, rfl, (h.sl.keep (w' := w1) fun k hk' hI => hk k hk' (hII k hI)).wide (fun k _ hI => ⟨hI, h4 k hI⟩) (by decide)⟩, fun w1 w2 w3 B' c' hs1 ho1 ht1 hu1 hk1 ho2 hg2 hat hm3 hg3 => ?_⟩
  have hall : ∀ k, k < wx.heap.size → k ≠ ib → B.map Addr.block ≠ some k → w3.heap[k]? = wx.heap[k]? := fun k hk hne hB => by
    rw [hg3.block k (Nat.lt_of_lt_of_le hk (Nat.le_trans hs1 hg2.size)) (fun e => hne (by injection e)), hg2.block k (Nat.lt_of_lt_of_le hk hs1) (fun e => hB e.symm), hk1 k hk hne]
  have hF2 : ∀ k, B'.map Addr.block = some k → F' k ∨ wx.heap.size ≤ k := fun k hk => by
    rcases hat with hat | hat
    · exact .inl (h3 k (by rw [← hat]; exact hk)).1
    · rw [hat] at hk; injection hk with hk; exact .inr (by omega)
  refine ⟨(h6 x w1 w2 w3 B' c' hs1 hk1 ho2 hg2 hat hm3 hg3).congr fun q' _ => hl q', fun k hk => .inl (h.f k hk), fun k hk => ?_, h.i, h.i2, ?_, fun e => ?_, (hall _ hklt hni hnB).trans h.blk, h.sl.keep fun k hk' hI => hall k hk' (hII k hI) (h4 k hI)⟩
  · rcases hk with hk | hk
    · exact h.f2 k hk
    · rcases hF2 k hk with hk | hk
      · exact h.f2 k hk
      · have := h.frm.size; exact .inr (by omega)
  · have hsz := h.frm.size
    refine ⟨?_, ?_, ?_, Nat.le_trans hsz (Nat.le_trans hs1 (Nat.le_trans hg2.size hg3.size)), fun k hk hF => ?_⟩
    · rw [hg3.os, hg2.os, ho1, h.frm.os]
    · rw [hg3.tape, hg2.tape, ht1, h.frm.tape]
    · rw [hg3.output, hg2.output, hu1, h.frm.output]
    · have hn : ∀ k', F' k' → k ≠ k' := fun k' hk' e => by
        rcases h.f2 k' hk' with h' | h'
        · exact hF (by rw [e]; exact h')
        · omega
      rw [hall k (by omega) (hn ib f2) (fun e => hn k (h3 k e).1 rfl), h.frm.block k hk hF]
  · rcases e with e | e
    · exact h.nk e
    · rcases hF2 _ e with e | e
      · exact h.nk e
      · omega
end Go.Proofs.YtkjoaodoioicpaaGreatDoor
namespace Go.Proofs.YtkjoaodoioicpaaGreatDoor
open Go.RowKit
structure CbOk {σ : Type} (Fn : Nat) (caps : Array Value) (found : σ → Bnd → σ × Bool) (P : Bnd → Prop) (Lv : σ → Nat → Prop) (St : World → σ → (Nat → Prop) → Prop) : Prop where
  enter : ∀ (args : Array Value) (w : World), (callFunc Fn args).run Tryz.prog w = .ok (.enter Fn args) w
  keep : ∀ {w w' s G}, St w s G → Below w.heap.size w w' → St w' s G
  ld : ∀ {w s G}, St w s G → LD w
  bd : ∀ {w s G}, St w s G → ∀ k, G k → k < w.heap.size
  lvm : ∀ s n m, m ≤ n → Lv s n → Lv s m
  lv : ∀ s v n, Lv s (n + 1) → (found s v).2 = true → Lv (found s v).1 n
  call : ∀ (w : World) s G b v, St w s G → Lv s 1 → MapA w b v → ¬ G b → P v → Calls Tryz.prog Fn (#[.map (some b)] ++ caps) w fun e w' => e = .returned (.bool (found s v).2) ∧ ∃ G', St w' (found s v).1 G' ∧ (∀ k, G' k → G k ∨ w.heap.size ≤ k) ∧ Frm G w w'
theorem iter_lv {α σ : Type} {found : σ → α → σ × Bool} {Lv : σ → Nat → Prop} (hl : ∀ s v n, Lv s (n + 1) → (found s v).2 = true → Lv (found s v).1 n) (m : Nat) : ∀ (l : List α) (s : σ), Lv s (l.length + m) → (iterF found l s).2 = true → Lv (iterF found l s).1 m
  | [], s, h, _ => by rw [List.length_nil, Nat.zero_add] at h; exact h
  | v :: r, s, h, h2 => by
    rw [List.length_cons, Nat.add_right_comm] at h
    rw [iterF] at h2 ⊢
    cases hf : (found s v).2
    · rw [hf] at h2; simp at h2
    · rw [hf] at h2
      simp only [if_true] at h2 ⊢
      exact iter_lv hl m r _ (hl s v _ h hf) h2
structure EachE (w : World) (G R : Nat → Prop) (kb ka kf kw ks : Nat) (A : Option Addr) (n c : Nat) (body : List Ltl) (ps pa : Nat) (Fs Is Fa Ia : Nat → Prop) (Ls La : List Atm) (Fn : Nat) (caps : Array Value) : Prop where
  b1 : w.heap[kb]? = some (.cells #[.slice A n c] 32 (0, 0))
  b2 : w.heap[ka]? = some (.cells #[.pointer (some ⟨pa, 0, none⟩)] 65 (0, 0))
  b3 : w.heap[kf]? = some (.cells #[.func (.func Fn) #[] caps] 92 (0, 0))
  b4 : w.heap[kw]? = some (.cells #[.func (.func 76) #[] #[.pointer (some ⟨kb, 0, none⟩), .pointer (some ⟨ka, 0, none⟩), .pointer (some ⟨kf, 0, none⟩), .pointer (some ⟨kw, 0, none⟩), .pointer (some ⟨ks, 0, none⟩)]] 121 (0, 0))
  b5 : w.heap[ks]? = some (.cells #[.pointer (some ⟨ps, 0, none⟩)] 65 (0, 0))
  sl : Sl w R A n c body
  bs : BaseR w Fs Is ps Ls
  ba : BaseR w Fa Ia pa La
  rd : ∀ k, k = kb ∨ k = ka ∨ k = kf ∨ k = kw ∨ k = ks ∨ Fs k ∨ Is k ∨ k = ps ∨ Fa k ∨ Ia k ∨ k = pa → R k
  off : ∀ k, R k → k < w.heap.size ∧ ¬ G k
section
variable {w w' : World} {G G' R : Nat → Prop} {kb ka kf kw ks : Nat} {A : Option Addr} {n c : Nat} {body : List Ltl} {ps pa : Nat} {Fs Is Fa Ia : Nat → Prop} {Ls La : List Atm} {Fn : Nat} {caps : Array Value}
theorem EachE.keep (h : EachE w G R kb ka kf kw ks A n c body ps pa Fs Is Fa Ia Ls La Fn caps) (hk : ∀ k, R k → w'.heap[k]? = w.heap[k]?) (hs : w.heap.size ≤ w'.heap.size) (hG : ∀ k, G' k → G k ∨ w.heap.size ≤ k) : EachE w' G' R kb ka kf kw ks A n c body ps pa Fs Is Fa Ia Ls La Fn caps := by
  obtain ⟨h1, h2, h3, h4, h5, h6, h7, h8, h9, h10⟩ := h
  refine ⟨(hk _ (h9 _ (by simp))).trans h1, (hk _ (h9 _ (by simp))).trans h2, (hk _ (h9 _ (by simp))).trans h3, (hk _ (h9 _ (by simp))).trans h4, (hk _ (h9 _ (by simp))).trans h5, h6.keep fun k _ hr => hk k hr, h7.keep fun k _ hr => hk k (h9 k ?_), h8.keep fun k _ hr => hk k (h9 k ?_), h9, fun k hr => ⟨Nat.lt_of_lt_of_le (h10 k hr).1 hs, fun hg => ?_⟩⟩
  · rcases hr with hr | hr | hr <;> simp [hr]
  · rcases hr with hr | hr | hr <;> simp [hr]
  · rcases hG k hg with hg | hg
    · exact (h10 k hr).2 hg
    · have := (h10 k hr).1; omega
theorem EachE.below (h : EachE w G R kb ka kf kw ks A n c body ps pa Fs Is Fa Ia Ls La Fn caps) (hb : Below w.heap.size w w') : EachE w' G R kb ka kf kw ks A n c body ps pa Fs Is Fa Ia Ls La Fn caps :=
  h.keep (fun k hr => hb.block k (h.off k hr).1) hb.size (fun _ hg => .inl hg)
theorem EachE.frm (h : EachE w G R kb ka kf kw ks A n c body ps pa Fs Is Fa Ia Ls La Fn caps) (hf : Frm G w w') (hG : ∀ k, G' k → G k ∨ w.heap.size ≤ k) : EachE w' G' R kb ka kf kw ks A n c body ps pa Fs Is Fa Ia Ls La Fn caps :=
  h.keep (fun k hr => hf.block k (h.off k hr).1 (h.off k hr).2) hf.size hG
end
def leftE (Ls La : List Atm) (body : List Ltl) (i : Nat) (v : Bnd) : List Bnd := (bindsS Ls (body.drop i) v).filter fun v => restS La v body
def EPost {σ : Type} (found : σ → Bnd → σ × Bool) (St : World → σ → (Nat → Prop) → Prop) (w : World) (G : Nat → Prop) (r : σ × Bool) (e : Ending) (w' : World) : Prop :=
  e = .returned (.bool r.2) ∧ ∃ G', St w' r.1 G' ∧ (∀ k, G' k → G k ∨ w.heap.size ≤ k) ∧ Frm G w w'
theorem leftE_end {Ls La : List Atm} {body : List Ltl} {v : Bnd} : leftE Ls La body body.length v = if restS La v body then [v] else [] := by
  unfold leftE
  rw [List.drop_length, bindsS, List.filter_cons]
  rfl
theorem leftE_neg {Ls La : List Atm} {body : List Ltl} {i : Nat} {v : Bnd} (h : i < body.length) (hp : positiveS body[i] = false) : leftE Ls La body i v = leftE Ls La body (i + 1) v := by
  unfold leftE
  rw [drop_get h, bindsS, hp]
  rfl
def stepE (Ls La : List Atm) (body : List Ltl) (i : Nat) (a : Atm) (v : Bnd) (f : Atm) : List Bnd := match fitGo v a.args f.args with
  | some w => leftE Ls La body (i + 1) w
  | none => []
theorem leftE_pos {Ls La : List Atm} (hg : Gr Ls) {body : List Ltl} {i : Nat} {v : Bnd} (hv : GrB v) (h : i < body.length) (hp : positiveS body[i] = true) {q : Plc} (hq : CandP (atomV v body[i].atom) q) :
    leftE Ls La body i v = (idxL Ls q).flatMap (stepE Ls La body i body[i].atom v) := by
  have h1 := fits_cand hg hv hq (leftE Ls La body (i + 1))
  refine Eq.trans ?_ h1.symm
  unfold leftE
  rw [drop_get h, bindsS, hp]
  simp only [Bool.not_true, Bool.false_eq_true, if_false]
  rw [List.filter_flatMap]
  congr 1
  funext f
  cases fitGo v body[i].atom.args f.args <;> rfl
theorem step_grb {v w : Bnd} {a f : Atm} (hv : GrB v) (hf : groundP f = true) (hl : f.args.length = a.args.length) (h : fitGo v a.args f.args = some w) : GrB w :=
  (fit_sound a.args f.args v w h hv (ground_args hf) hl.symm).1
end Go.Proofs.YtkjoaodoioicpaaGreatDoor
