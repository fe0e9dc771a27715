/- A part of the proofs of the laws of one package; see the law's own text, which comes last in 'order'. No conditions of its own. -/
import Derived.Test.YtpeamehplhpcjaaGreatDoorWC18
set_option linter.unusedVariables false
set_option linter.unusedSimpArgs false
namespace Go.Proofs.YtpeamehplhpcjaaGreatDoor
def keysH (s : Sst) : List Ln := s.heads.map (·.1)
def GMono (g : Grp) : Prop := ∀ p l fr tu s s', g p l fr tu s = (true, s') → ∀ y ∈ keysH s, y ∈ keysH s'
def NMono (n : Option Grp) : Prop := ∀ g, n = some g → GMono g
theorem fail_no {s s' : Sst} {p : Bs} {n e : Int} (h : failS s p n e = (true, s')) : False := by
  injection h with h _; cases h
theorem file_mono {g : Grp} (hg : GMono g) {p : Bs} {l : List Bs} {s s' : Sst} (h : fileS g p l s = (true, s')) : ∀ y ∈ keysH s, y ∈ keysH s' := by
  unfold fileS at h
  cases hr : g p l 0 l.length { s with files := setM s.files p true, opn := s.opn ++ [p] } with
  | mk b s2 =>
    rw [hr] at h
    injection h with h1 h2
    simp only at h1
    subst h1
    intro y hy
    rw [← h2]
    exact hg _ _ _ _ _ _ hr y hy
theorem item_mono {p : Bs} {n : Int} {x : Itm} {s s' : Sst} (h : itemS p n x s = (true, s')) : s'.heads = s.heads := by
  unfold itemS at h
  split at h
  · exact (fail_no h).elim
  · split at h
    · exact (fail_no h).elim
    · injection h with _ h; rw [← h]
theorem incl_mono (t : List Fil) {nest : Option Grp} (hn : NMono nest) {p : Bs} {n : Int} {ref : Bs} {s s' : Sst} (h : inclS t nest p n ref s = (true, s')) : ∀ y ∈ keysH s, y ∈ keysH s' := by
  unfold inclS at h
  simp only at h
  split at h
  · exact (fail_no h).elim
  · split at h
    · exact (fail_no h).elim
    · split at h
      · exact (fail_no h).elim
      · split at h
        · exact (fail_no h).elim
        · split at h
          · exact (fail_no h).elim
          · rename_i g
            exact file_mono (hn g rfl) h
theorem head_mono (t : List Fil) {nest : Option Grp} (hn : NMono nest) {p : Bs} {l : List Bs} {i : Nat} {hd : Hd} {s s' : Sst} (h : doHead t nest p l i hd s = (true, s')) : ∀ y ∈ keysH s, y ∈ keysH s' := by
  unfold doHead at h
  simp only at h
  split at h
  · exact incl_mono t hn h
  · split at h
    · split at h
      · exact (fail_no h).elim
      · split at h
        · exact (fail_no h).elim
        · injection h with _ h; rw [← h]; exact fun y hy => hy
    · split at h
      · split at h
        · injection h with _ h; rw [← h]; exact fun y hy => hy
        · exact (fail_no h).elim
      · split at h
        · split at h
          · injection h with _ h; rw [← h]; exact fun y hy => hy
          · split at h
            · exact (fail_no h).elim
            · rename_i g
              exact hn g rfl _ _ _ _ _ _ h
        · split at h
          · intro y hy; unfold keysH; rw [item_mono h]; exact hy
          · split at h
            · intro y hy; unfold keysH; rw [item_mono h]; exact hy
            · split at h
              · intro y hy; unfold keysH; rw [item_mono h]; exact hy
              · injection h with _ h; rw [← h]; exact fun y hy => hy
theorem loop_mono (t : List Fil) {nest : Option Grp} (hn : NMono nest) (p : Bs) (l : List Bs) (tu : Nat) : ∀ f i (s s' : Sst), loopS t nest p l tu f i s = (true, s') → ∀ y ∈ keysH s, y ∈ keysH s' := by
  intro f
  induction f with
  | zero => intro i s s' h; injection h with _ h; rw [← h]; exact fun y hy => hy
  | succ f ih =>
    intro i s s' h
    unfold loopS at h
    split at h
    · injection h with _ h; rw [← h]; exact fun y hy => hy
    · split at h
      · exact (fail_no h).elim
      · simp only at h
        split at h
        · exact (fail_no h).elim
        · split at h
          · exact (fail_no h).elim
          · cases hr : doHead t nest p l i (parseH (l.getD i [])).1 { s with count := s.count + 1, heads := setM s.heads ⟨p, i⟩ true } with
            | mk b s2 =>
              rw [hr] at h
              cases b with
              | false => simp only [Bool.not_false, if_true] at h; injection h with h _; cases h
              | true =>
                simp only [Bool.not_true, Bool.false_eq_true, if_false] at h
                intro y hy
                refine ih _ _ _ h y (head_mono t hn hr y ?_)
                exact (keys_setM _ _ _ _).2 (.inr hy)
theorem group_mono (t : List Fil) : ∀ d, GMono (groupS t d) := by
  intro d
  induction d with
  | zero => intro p l fr tu s s' h; exact loop_mono t (fun g hg => by cases hg) p l tu _ _ s s' h
  | succ d ih => intro p l fr tu s s' h; exact loop_mono t (fun g hg => by injection hg with hg; subst hg; exact ih) p l tu _ _ s s' h
theorem run_err (t : List Fil) (p : Bs) (l : List Bs) (fl : List Bs) {s2 : Sst} (h : fileS (groupS t 24) p l (st0 fl) = (false, s2)) : s2.fault.err ≠ 0 := by
  rcases file_agr (group_agr t 24) p l (st0_agr fl) with ⟨h1, _, _⟩ | ⟨_, h2, h3⟩
  · rw [h] at h1; cases h1
  · rw [h] at h3; rw [h3]; exact h2
end Go.Proofs.YtpeamehplhpcjaaGreatDoor
