/- A part of the proofs of the laws of one package; see the law's own text, which comes last in 'order'. No conditions of its own. -/
import Derived.Test.YtpeamehplhpcjaaGreatDoorWB16
set_option linter.unusedVariables false
set_option linter.unusedSimpArgs false
namespace Go.Proofs.YtpeamehplhpcjaaGreatDoor
def LAgr (x : Ln) (p : Bs) (l l' : List Bs) : Prop := l.length = l'.length ∧ ∀ j : Nat, (⟨p, j⟩ : Ln) ≠ x → l.getD j [] = l'.getD j []
def keysH (s : Sst) : List Ln := s.heads.map (·.1)
def GMono (g : Grp) : Prop := ∀ p l fr tu s s', g p l fr tu s = (true, s') → ∀ y ∈ keysH s, y ∈ keysH s'
def NMono (n : Option Grp) : Prop := ∀ g, n = some g → GMono g
theorem fail_no {s s' : Sst} {p : Bs} {n e : Int} (h : failS s p n e = (true, s')) : False := by
  injection h with h _; cases h
theorem file_mono {g : Grp} (hg : GMono g) {p : Bs} {l : List Bs} {s s' : Sst} (h : fileS g p l s = (true, s')) : ∀ y ∈ keysH s, y ∈ keysH s' := by
  unfold fileS at h
  cases hr : g p l 0 l.length { s with files := setM s.files p true, opn := s.opn ++ [p] } with
  | mk b s2 =>
    rw [hr] at h
    injection h with h1 h2
    simp only at h1
    subst h1
    intro y hy
    rw [← h2]
    exact hg _ _ _ _ _ _ hr y hy
theorem item_mono {p : Bs} {n : Int} {x : Itm} {s s' : Sst} (h : itemS p n x s = (true, s')) : s'.heads = s.heads := by
  unfold itemS at h
  split at h
  · exact (fail_no h).elim
  · split at h
    · exact (fail_no h).elim
    · injection h with _ h; rw [← h]
theorem incl_mono (t : List Fil) {nest : Option Grp} (hn : NMono nest) {p : Bs} {n : Int} {ref : Bs} {s s' : Sst} (h : inclS t nest p n ref s = (true, s')) : ∀ y ∈ keysH s, y ∈ keysH s' := by
  unfold inclS at h
  simp only at h
  split at h
  · exact (fail_no h).elim
  · split at h
    · exact (fail_no h).elim
    · split at h
      · exact (fail_no h).elim
      · split at h
        · exact (fail_no h).elim
        · split at h
          · exact (fail_no h).elim
          · rename_i g
            exact file_mono (hn g rfl) h
theorem head_mono (t : List Fil) {nest : Option Grp} (hn : NMono nest) {p : Bs} {l : List Bs} {i : Nat} {hd : Hd} {s s' : Sst} (h : doHead t nest p l i hd s = (true, s')) : ∀ y ∈ keysH s, y ∈ keysH s' := by
  unfold doHead at h
  simp only at h
  split at h
  · exact incl_mono t hn h
  · split at h
    · split at h
      · exact (fail_no h).elim
      · split at h
        · exact (fail_no h).elim
        · injection h with _ h; rw [← h]; exact fun y hy => hy
    · split at h
      · split at h
        · injection h with _ h; rw [← h]; exact fun y hy => hy
        · exact (fail_no h).elim
      · split at h
        · split at h
          · injection h with _ h; rw [← h]; exact fun y hy => hy
          · split at h
            · exact (fail_no h).elim
            · rename_i g
              exact hn g rfl _ _ _ _ _ _ h
        · split at h
          · intro y hy; unfold keysH; rw [item_mono h]; exact hy
          · split at h
            · intro y hy; unfold keysH; rw [item_mono h]; exact hy
            · split at h
              · intro y hy; unfold keysH; rw [item_mono h]; exact hy
              · injection h with _ h; rw [← h]; exact fun y hy => hy
theorem loop_mono (t : List Fil) {nest : Option Grp} (hn : NMono nest) (p : Bs) (l : List Bs) (tu : Nat) : ∀ f i (s s' : Sst), loopS t nest p l tu f i s = (true, s') → ∀ y ∈ keysH s, y ∈ keysH s' := by
  intro f
  induction f with
  | zero => intro i s s' h; injection h with _ h; rw [← h]; exact fun y hy => hy
  | succ f ih =>
    intro i s s' h
    unfold loopS at h
    split at h
    · injection h with _ h; rw [← h]; exact fun y hy => hy
    · split at h
      · exact (fail_no h).elim
      · simp only at h
        split at h
        · exact (fail_no h).elim
        · split at h
          · exact (fail_no h).elim
          · cases hr : doHead t nest p l i (parseH (l.getD i [])).1 { s with count := s.count + 1, heads := setM s.heads ⟨p, i⟩ true } with
            | mk b s2 =>
              rw [hr] at h
              cases b with
              | false => simp only [Bool.not_false, if_true] at h; injection h with h _; cases h
              | true =>
                simp only [Bool.not_true, Bool.false_eq_true, if_false] at h
                intro y hy
                refine ih _ _ _ h y (head_mono t hn hr y ?_)
                exact (keys_setM _ _ _ _).2 (.inr hy)
theorem group_mono (t : List Fil) : ∀ d, GMono (groupS t d) := by
  intro d
  induction d with
  | zero => intro p l fr tu s s' h; exact loop_mono t (fun g hg => by cases hg) p l tu _ _ s s' h
  | succ d ih => intro p l fr tu s s' h; exact loop_mono t (fun g hg => by injection hg with hg; subst hg; exact ih) p l tu _ _ s s' h
def TAgr (x : Ln) (t t' : List Fil) : Prop := ∀ q, match findT t q, findT t' q with
  | none, none => True
  | some d, some d' => (linesS d).2 = (linesS d').2 ∧ LAgr x q (linesS d).1 (linesS d').1
  | _, _ => False
def GAg (x : Ln) (g g' : Grp) : Prop := ∀ p l l' fr tu s s', LAgr x p l l' → g p l fr tu s = (true, s') → x ∉ keysH s' → g' p l' fr tu s = (true, s')
def NAg (x : Ln) : Option Grp → Option Grp → Prop
  | none, none => True
  | some g, some g' => GAg x g g'
  | _, _ => False
theorem file_ag {x : Ln} {g g' : Grp} (hg : GAg x g g') {p : Bs} {l l' : List Bs} {s s' : Sst} (hl : LAgr x p l l') (h : fileS g p l s = (true, s')) (hx : x ∉ keysH s') : fileS g' p l' s = (true, s') := by
  unfold fileS at h ⊢
  cases hr : g p l 0 l.length { s with files := setM s.files p true, opn := s.opn ++ [p] } with
  | mk b s2 =>
    rw [hr] at h
    injection h with h1 h2
    simp only at h1
    subst h1
    rw [← hl.1, hg p l l' 0 l.length _ s2 hl hr (by rw [← h2] at hx; exact hx)]
    exact congrArg (Prod.mk true) h2
theorem incl_ag {x : Ln} {t t' : List Fil} (ht : TAgr x t t') {nest nest' : Option Grp} (hn : NAg x nest nest') {p : Bs} {n : Int} {ref : Bs} {s s' : Sst} (h : inclS t nest p n ref s = (true, s')) (hx : x ∉ keysH s') : inclS t' nest' p n ref s = (true, s') := by
  unfold inclS at h ⊢
  simp only at h ⊢
  have ht := ht (refS ((splitS 47 p).headD []) ref).1
  generalize refS ((splitS 47 p).headD []) ref = q at *
  split at h
  · exact (fail_no h).elim
  · split at h
    · exact (fail_no h).elim
    · rename_i h1 h2
      rw [if_neg h1, if_neg h2]
      cases hf : findT t q.1 with
      | none => rw [hf] at h; exact (fail_no h).elim
      | some d =>
        rw [hf] at h ht
        simp only at h
        cases hf' : findT t' q.1 with
        | none => rw [hf'] at ht; exact ht.elim
        | some d' =>
          rw [hf'] at ht
          obtain ⟨ht1, ht2⟩ := ht
          simp only
          split at h
          · exact (fail_no h).elim
          · rename_i h3
            rw [if_neg (by rw [← ht1]; exact h3)]
            match nest, nest', hn with
            | none, none, _ => exact (fail_no h).elim
            | some g, some g', hn => exact file_ag hn ht2 h hx
theorem head_ag {x : Ln} {t t' : List Fil} (ht : TAgr x t t') {nest nest' : Option Grp} (hn : NAg x nest nest') {p : Bs} {l l' : List Bs} (hl : LAgr x p l l') {i : Nat} {hd : Hd} {s s' : Sst} (h : doHead t nest p l i hd s = (true, s')) (hx : x ∉ keysH s') : doHead t' nest' p l' i hd s = (true, s') := by
  unfold doHead at h ⊢
  simp only at h ⊢
  by_cases h1 : hd.word = 1
  · rw [if_pos h1] at h ⊢
    exact incl_ag ht hn h hx
  · rw [if_neg h1] at h ⊢
    by_cases h2 : hd.word = 2
    · rw [if_pos h2] at h ⊢; exact h
    · rw [if_neg h2] at h ⊢
      by_cases h3 : hd.word = 3
      · rw [if_pos h3] at h ⊢; exact h
      · rw [if_neg h3] at h ⊢
        by_cases h4 : hd.word = 4 ∨ hd.word = 5
        · rw [if_pos h4] at h ⊢
          by_cases h5 : (definedS s hd.name != decide (hd.word = 4)) = true
          · rw [if_pos h5] at h ⊢; exact h
          · rw [if_neg h5] at h ⊢
            match nest, nest', hn with
            | none, none, _ => exact (fail_no h).elim
            | some g, some g', hn => exact hn _ _ _ _ _ _ _ hl h hx
        · rw [if_neg h4] at h ⊢; exact h
theorem loop_ag {x : Ln} {t t' : List Fil} (ht : TAgr x t t') {nest nest' : Option Grp} (hn : NAg x nest nest') (hm : NMono nest) {p : Bs} {l l' : List Bs} (hl : LAgr x p l l') (tu : Nat) : ∀ f i (s s' : Sst), loopS t nest p l tu f i s = (true, s') → x ∉ keysH s' → loopS t' nest' p l' tu f i s = (true, s') := by
  intro f
  induction f with
  | zero => intro i s s' h _; exact h
  | succ f ih =>
    intro i s s' h hx
    unfold loopS at h ⊢
    split at h
    · rename_i h1
      rw [if_pos h1]; exact h
    · rename_i h1
      rw [if_neg h1]
      split at h
      · exact (fail_no h).elim
      · rename_i h2
        rw [if_neg h2]
        simp only at h ⊢
        split at h
        · exact (fail_no h).elim
        · rename_i h3
          split at h
          · exact (fail_no h).elim
          · rename_i h4
            cases hr : doHead t nest p l i (parseH (l.getD i [])).1 { s with count := s.count + 1, heads := setM s.heads ⟨p, i⟩ true } with
            | mk b s2 =>
              rw [hr] at h
              cases b with
              | false => simp only [Bool.not_false, if_true] at h; injection h with h _; cases h
              | true =>
                simp only [Bool.not_true, Bool.false_eq_true, if_false] at h
                have hx2 : x ∉ keysH s2 := fun hy => hx (loop_mono t hm p l tu _ _ _ _ h x hy)
                have hne : (⟨p, (i : Int)⟩ : Ln) ≠ x := fun e => hx2 (head_mono t hm hr x ((keys_setM _ _ _ _).2 (.inl e.symm)))
                rw [← hl.2 i hne, if_neg h3, if_neg h4, head_ag ht hn hl hr hx2]
                simp only [Bool.not_true, Bool.false_eq_true, if_false]
                exact ih _ _ _ h hx
theorem group_ag {x : Ln} {t t' : List Fil} (ht : TAgr x t t') : ∀ d, GAg x (groupS t d) (groupS t' d) := by
  intro d
  induction d with
  | zero => intro p l l' fr tu s s' hl h hx; exact loop_ag ht (nest := none) (nest' := none) trivial (fun g hg => by cases hg) hl tu _ _ s s' h hx
  | succ d ih => intro p l l' fr tu s s' hl h hx; exact loop_ag ht (nest := some _) (nest' := some _) ih (fun g hg => by injection hg with hg; subst hg; exact group_mono t d) hl tu _ _ s s' h hx
theorem run_err (t : List Fil) (p : Bs) (l : List Bs) (fl : List Bs) {s2 : Sst} (h : fileS (groupS t 24) p l (st0 fl) = (false, s2)) : s2.fault.err ≠ 0 := by
  rcases file_agr (group_agr t 24) p l (st0_agr fl) with ⟨h1, _, _⟩ | ⟨_, h2, h3⟩
  · rw [h] at h1; cases h1
  · rw [h] at h3; rw [h3]; exact h2
theorem scan_ag {x : Ln} {t t' : List Fil} (ht : TAgr x t t') (hc : treeS t' = treeS t) {p : Bs} {fl : List Bs} {u : Unt} {f : Flt} (h : scanS t p fl = (u, f)) (hf0 : f.err = 0) (hx : ¬ inL u.heads x) : scanS t' p fl = (u, f) := by
  have hp := ht p
  unfold scanS at h ⊢
  simp only at h ⊢
  have hs : startS t p fl = (if treeS t ≠ 0 then ([], ⟨[], -1⟩, 1) else if !pathS p || !p.contains 47 || fl.any (fun f => !nameT f) then ([], ⟨[], -1⟩, 2) else if dupS [] fl then ([], ⟨[], -1⟩, 6) else if 128 < fl.length then ([], ⟨[], -1⟩, 10) else match findT t p with | none => ([], ⟨p, -1⟩, 7) | some d => ((linesS d).1, ⟨p, -1⟩, (linesS d).2)) := rfl
  have hs' : startS t' p fl = (if treeS t ≠ 0 then ([], ⟨[], -1⟩, 1) else if !pathS p || !p.contains 47 || fl.any (fun f => !nameT f) then ([], ⟨[], -1⟩, 2) else if dupS [] fl then ([], ⟨[], -1⟩, 6) else if 128 < fl.length then ([], ⟨[], -1⟩, 10) else match findT t' p with | none => ([], ⟨p, -1⟩, 7) | some d => ((linesS d).1, ⟨p, -1⟩, (linesS d).2)) := by rw [← hc]; rfl
  have hboth : (startS t p fl).2.2 = (startS t' p fl).2.2 ∧ ((startS t p fl).2.2 = 0 → LAgr x p (startS t p fl).1 (startS t' p fl).1) := by
    rw [hs, hs']
    split
    · exact ⟨rfl, fun h => by cases h⟩
    · split
      · exact ⟨rfl, fun h => by cases h⟩
      · split
        · exact ⟨rfl, fun h => by cases h⟩
        · split
          · exact ⟨rfl, fun h => by cases h⟩
          · cases hf : findT t p with
            | none =>
              rw [hf] at hp
              cases hf' : findT t' p with
              | none => exact ⟨rfl, fun h => by cases h⟩
              | some d' => rw [hf'] at hp; exact hp.elim
            | some d =>
              rw [hf] at hp
              cases hf' : findT t' p with
              | none => rw [hf'] at hp; exact hp.elim
              | some d' => rw [hf'] at hp; exact ⟨hp.1, fun _ => hp.2⟩
  clear hs hs' hp
  obtain ⟨he, hl⟩ := hboth
  generalize startS t p fl = b at *
  generalize startS t' p fl = b' at *
  by_cases hb : b.2.2 ≠ 0
  · rw [if_pos hb] at h
    injection h with _ h
    rw [← h] at hf0
    exact absurd hf0 hb
  · rw [if_neg hb] at h
    rw [if_neg (by rw [← he]; exact hb)]
    have hb0 : b.2.2 = 0 := by omega
    cases hr : fileS (groupS t 24) p b.1 (st0 fl) with
    | mk ok s2 =>
      rw [hr] at h
      cases ok with
      | false =>
        simp only [Bool.not_false, if_true] at h
        injection h with _ h
        rw [← h] at hf0
        exact absurd hf0 (run_err t p b.1 fl hr)
      | true =>
        simp only [Bool.not_true, Bool.false_eq_true, if_false] at h
        have hu : untS p s2 = u := (Prod.mk.inj h).1
        have hx2 : x ∉ keysH s2 := fun hm => hx (by rw [← hu]; exact ((spans_law (s2.heads.map Prod.fst)).2 x).2 hm)
        rw [file_ag (group_ag ht 24) (hl hb0) hr hx2]
        simp only [Bool.not_true, Bool.false_eq_true, if_false]
        exact h
end Go.Proofs.YtpeamehplhpcjaaGreatDoor
