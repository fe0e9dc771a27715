/- A part of the proofs of the laws of one package; see the law's own text, which comes last in 'order'. No conditions of its own. -/
import Derived.Test.YtpeamehplhpcjaaGreatDoorWA06
import Derived.Test.YtpeamehplhpcjaaGreatDoorWA20
set_option linter.unusedVariables false
set_option linter.unusedSimpArgs false
namespace Go.Proofs.YtpeamehplhpcjaaGreatDoor
def keysH (s : Sst) : List Ln := s.heads.map (·.1)
def GMono (g : Grp) : Prop := ∀ p l fr tu s s', g p l fr tu s = (true, s') → ∀ y ∈ keysH s, y ∈ keysH s'
def NMono (n : Option Grp) : Prop := ∀ g, n = some g → GMono g
theorem fail_no {s s' : Sst} {p : Bs} {n e : Int} (h : failS s p n e = (true, s')) : False := by
  injection h with h _; cases h
theorem file_mono {g : Grp} (hg : GMono g) {p : Bs} {l : List Bs} {s s' : Sst} (h : fileS g p l s = (true, s')) : ∀ y ∈ keysH s, y ∈ keysH s' := by
  unfold fileS at h
  cases hr : g p l 0 l.length { s with files := setM s.files p true, opn := s.opn ++ [p] } with
  | mk b s2 =>
    rw [hr] at h
    injection h with h1 h2
    simp only at h1
    subst h1
    intro y hy
    rw [← h2]
    exact hg _ _ _ _ _ _ hr y hy
theorem item_mono {p : Bs} {n : Int} {x : Itm} {s s' : Sst} (h : itemS p n x s = (true, s')) : s'.heads = s.heads := by
  unfold itemS at h
  split at h
  · exact (fail_no h).elim
  · split at h
    · exact (fail_no h).elim
    · injection h with _ h; rw [← h]
theorem incl_mono (t : List Fil) {nest : Option Grp} (hn : NMono nest) {p : Bs} {n : Int} {ref : Bs} {s s' : Sst} (h : inclS t nest p n ref s = (true, s')) : ∀ y ∈ keysH s, y ∈ keysH s' := by
  unfold inclS at h
  simp only at h
  split at h
  · exact (fail_no h).elim
  · split at h
    · exact (fail_no h).elim
    · split at h
      · exact (fail_no h).elim
      · split at h
        · exact (fail_no h).elim
        · split at h
          · exact (fail_no h).elim
          · rename_i g
            exact file_mono (hn g rfl) h
theorem head_mono (t : List Fil) {nest : Option Grp} (hn : NMono nest) {p : Bs} {l : List Bs} {i : Nat} {hd : Hd} {s s' : Sst} (h : doHead t nest p l i hd s = (true, s')) : ∀ y ∈ keysH s, y ∈ keysH s' := by
  unfold doHead at h
  simp only at h
  split at h
  · exact incl_mono t hn h
  · split at h
    · split at h
      · exact (fail_no h).elim
      · split at h
        · exact (fail_no h).elim
        · injection h with _ h; rw [← h]; exact fun y hy => hy
    · split at h
      · split at h
        · injection h with _ h; rw [← h]; exact fun y hy => hy
        · exact (fail_no h).elim
      · split at h
        · split at h
          · injection h with _ h; rw [← h]; exact fun y hy => hy
          · split at h
            · exact (fail_no h).elim
            · rename_i g
              exact hn g rfl _ _ _ _ _ _ h
        · split at h
          · intro y hy; unfold keysH; rw [item_mono h]; exact hy
          · split at h
            · intro y hy; unfold keysH; rw [item_mono h]; exact hy
            · split at h
              · intro y hy; unfold keysH; rw [item_mono h]; exact hy
              · injection h with _ h; rw [← h]; exact fun y hy => hy
theorem loop_mono (t : List Fil) {nest : Option Grp} (hn : NMono nest) (p : Bs) (l : List Bs) (tu : Nat) : ∀ f i (s s' : Sst), loopS t nest p l tu f i s = (true, s') → ∀ y ∈ keysH s, y ∈ keysH s' := by
  intro f
  induction f with
  | zero => intro i s s' h; injection h with _ h; rw [← h]; exact fun y hy => hy
  | succ f ih =>
    intro i s s' h
    unfold loopS at h
    split at h
    · injection h with _ h; rw [← h]; exact fun y hy => hy
    · split at h
      · exact (fail_no h).elim
      · simp only at h
        split at h
        · exact (fail_no h).elim
        · split at h
          · exact (fail_no h).elim
          · cases hr : doHead t nest p l i (parseH (l.getD i [])).1 { s with count := s.count + 1, heads := setM s.heads ⟨p, i⟩ true } with
            | mk b s2 =>
              rw [hr] at h
              cases b with
              | false => simp only [Bool.not_false, if_true] at h; injection h with h _; cases h
              | true =>
                simp only [Bool.not_true, Bool.false_eq_true, if_false] at h
                intro y hy
                refine ih _ _ _ h y (head_mono t hn hr y ?_)
                exact (keys_setM _ _ _ _).2 (.inr hy)
theorem group_mono (t : List Fil) : ∀ d, GMono (groupS t d) := by
  intro d
  induction d with
  | zero => intro p l fr tu s s' h; exact loop_mono t (fun g hg => by cases hg) p l tu _ _ s s' h
  | succ d ih => intro p l fr tu s s' h; exact loop_mono t (fun g hg => by injection hg with hg; subst hg; exact ih) p l tu _ _ s s' h
end Go.Proofs.YtpeamehplhpcjaaGreatDoor
namespace Go.Proofs.YtpeamehplhpcjaaGreatDoor
inductive Rd (l : List Bs) : Nat → Nat → Nat → Nat → Prop
  | here {fr tu : Nat} : fr < tu → Rd l fr tu fr tu
  | next {fr tu i e : Nat} : (parseH (l.getD fr [])).2 = 0 → fr + 1 + (parseH (l.getD fr [])).1.n.toNat ≤ tu → Rd l (fr + 1 + (parseH (l.getD fr [])).1.n.toNat) tu i e → Rd l fr tu i e
  | sub {fr tu i e : Nat} : (parseH (l.getD fr [])).2 = 0 → ((parseH (l.getD fr [])).1.word = 4 ∨ (parseH (l.getD fr [])).1.word = 5) → fr + 1 + (parseH (l.getD fr [])).1.n.toNat ≤ tu → Rd l (fr + 1) (fr + 1 + (parseH (l.getD fr [])).1.n.toNat) i e → Rd l fr tu i e
theorem Rd.le {l : List Bs} {fr tu i e : Nat} (h : Rd l fr tu i e) : fr ≤ i ∧ i < e ∧ e ≤ tu := by
  induction h with
  | here h => omega
  | next _ _ _ ih => omega
  | sub _ _ _ _ ih => omega
theorem Rd.apart {l : List Bs} {fr tu i e : Nat} (h : Rd l fr tu i e) (hw : ¬ ((parseH (l.getD i [])).1.word = 4 ∨ (parseH (l.getD i [])).1.word = 5)) (hf : i + 1 + (parseH (l.getD i [])).1.n.toNat ≤ e) {j : Nat} (h1 : i < j) (h2 : j < i + 1 + (parseH (l.getD i [])).1.n.toNat) : ∀ e', ¬ Rd l fr tu j e' := by
  induction h with
  | here h =>
    intro e' hr
    cases hr with
    | here _ => omega
    | next _ _ hr => have := hr.le; omega
    | sub _ hw' _ _ => exact hw hw'
  | next hp hl h ih =>
    have hle := h.le
    intro e' hr
    cases hr with
    | here _ => omega
    | next _ _ hr => exact ih hw hf h1 h2 e' hr
    | sub _ _ _ hr => have := hr.le; omega
  | sub hp hw' hl h ih =>
    have hle := h.le
    intro e' hr
    cases hr with
    | here _ => omega
    | next _ _ hr => have := hr.le; omega
    | sub _ _ _ hr => exact ih hw hf h1 h2 e' hr
def LnOk (t : List Fil) (y : Ln) : Prop := ∃ d, ∃ j e : Nat, findT t y.path = some d ∧ (linesS d).2 = 0 ∧ y.n = j ∧ Rd (linesS d).1 0 (linesS d).1.length j e
def BdOk (t : List Fil) (s : Sst) (b : Spn) : Prop := ∃ d, ∃ j e : Nat, findT t b.path = some d ∧ (linesS d).2 = 0 ∧ Rd (linesS d).1 0 (linesS d).1.length j e ∧ ¬ ((parseH ((linesS d).1.getD j [])).1.word = 4 ∨ (parseH ((linesS d).1.getD j [])).1.word = 5) ∧
  j + 1 + (parseH ((linesS d).1.getD j [])).1.n.toNat ≤ e ∧ b.fr = (j : Int) + 1 ∧ b.tu = (j : Int) + 1 + (parseH ((linesS d).1.getD j [])).1.n.toNat ∧ (⟨b.path, j⟩ : Ln) ∈ keysH s
theorem BdOk.mono {t : List Fil} {s s' : Sst} {b : Spn} (h : BdOk t s b) (hk : ∀ y ∈ keysH s, y ∈ keysH s') : BdOk t s' b := by
  obtain ⟨d, j, e, h1, h2, h3, h4, h5, h6, h7, h8⟩ := h
  exact ⟨d, j, e, h1, h2, h3, h4, h5, h6, h7, hk _ h8⟩
structure Inv (t : List Fil) (s : Sst) : Prop where
  ln : ∀ y ∈ keysH s, LnOk t y
  ma : ∀ q ∈ s.macros, q.1 = q.2.name ∧ BdOk t s q.2.body
  it : ∀ x ∈ s.items, x.kind ≠ 3 → BdOk t s x.body
  dn : (s.items.map (·.name)).Nodup
  ap : ∀ k ∈ s.macros.map (·.1), k ∉ s.flags.map (·.1)
  ft : ∀ q ∈ s.flags, q.2 = true
def FOk (s s' : Sst) : Prop := ∀ q ∈ s'.files.map (·.1), q ∈ s.files.map (·.1) ∨ (⟨q, 0⟩ : Ln) ∈ keysH s'
def GFil (g : Grp) : Prop := ∀ p l fr tu s s', g p l fr tu s = (true, s') → FOk s s' ∧ (fr < tu → (⟨p, (fr : Int)⟩ : Ln) ∈ keysH s') ∧ (∀ q ∈ s.files.map (·.1), q ∈ s'.files.map (·.1))
def NFil (n : Option Grp) : Prop := ∀ g, n = some g → GFil g ∧ GMono g
def SOk (s s' : Sst) : Prop := FOk s s' ∧ ∀ q ∈ s.files.map (·.1), q ∈ s'.files.map (·.1)
theorem sok_refl (s s' : Sst) (h : s'.files = s.files) : SOk s s' := ⟨fun q hq => .inl (by rw [← h]; exact hq), fun q hq => by rw [h]; exact hq⟩
theorem file_fil {g : Grp} (hg : GFil g) {p : Bs} {l : List Bs} {s s' : Sst} (hl : 0 < l.length) (h : fileS g p l s = (true, s')) : SOk s s' ∧ p ∈ s'.files.map (·.1) := by
  unfold fileS at h
  cases hr : g p l 0 l.length { s with files := setM s.files p true, opn := s.opn ++ [p] } with
  | mk b s2 =>
    rw [hr] at h
    injection h with e1 e2
    simp only at e1
    subst e1
    obtain ⟨h1, h2, h3⟩ := hg _ _ _ _ _ _ hr
    have h2 := h2 hl
    rw [← e2]
    refine ⟨⟨fun q hq => ?_, fun q hq => h3 q ((keys_setM _ _ _ _).2 (.inr hq))⟩, h3 p ((keys_setM _ _ _ _).2 (.inl rfl))⟩
    rcases h1 q hq with h | h
    · rcases (keys_setM _ _ _ _).1 h with rfl | h
      · exact .inr h2
      · exact .inl h
    · exact .inr h
theorem lines_pos {d : Bs} (h : (linesS d).2 = 0) : (linesS d).1.length = 1 + d.count 10 := by
  unfold linesS at h ⊢
  split
  · rename_i h1; rw [if_pos h1] at h; cases h
  · rename_i h1
    rw [if_neg h1] at h
    split
    · rename_i h2; rw [if_pos h2] at h; cases h
    · show (splitS 10 d).length = _
      rw [split_len]; omega
theorem head_fil (t : List Fil) {nest : Option Grp} (hn : NFil nest) {p : Bs} {l : List Bs} {i : Nat} {x : Hd} {s s' : Sst} (h : doHead t nest p l i x s = (true, s')) : SOk s s' := by
  have hitem : ∀ {y : Itm}, itemS p i y s = (true, s') → SOk s s' := by
    intro y h
    unfold itemS at h
    split at h
    · exact (fail_no h).elim
    · split at h
      · exact (fail_no h).elim
      · injection h with _ h; rw [← h]; exact sok_refl _ _ rfl
  unfold doHead at h
  simp only at h
  split at h
  · unfold inclS at h
    simp only at h
    split at h
    · exact (fail_no h).elim
    · split at h
      · exact (fail_no h).elim
      · split at h
        · exact (fail_no h).elim
        · split at h
          · exact (fail_no h).elim
          · rename_i h0
            split at h
            · exact (fail_no h).elim
            · rename_i g
              exact (file_fil (hn g rfl).1 (by rw [lines_pos (by omega)]; omega) h).1
  · split at h
    · split at h
      · exact (fail_no h).elim
      · split at h
        · exact (fail_no h).elim
        · injection h with _ h; rw [← h]; exact sok_refl _ _ rfl
    · split at h
      · split at h
        · injection h with _ h; rw [← h]; exact sok_refl _ _ rfl
        · exact (fail_no h).elim
      · split at h
        · split at h
          · injection h with _ h; rw [← h]; exact sok_refl _ _ rfl
          · split at h
            · exact (fail_no h).elim
            · rename_i g
              obtain ⟨h1, _, h3⟩ := (hn g rfl).1 _ _ _ _ _ _ h
              exact ⟨h1, h3⟩
        · split at h
          · exact hitem h
          · split at h
            · exact hitem h
            · split at h
              · exact hitem h
              · injection h with _ h; rw [← h]; exact sok_refl _ _ rfl
theorem loop_fil (t : List Fil) {nest : Option Grp} (hn : NFil nest) (p : Bs) (l : List Bs) (tu : Nat) : ∀ f i (s s' : Sst), loopS t nest p l tu f i s = (true, s') → SOk s s' ∧ (0 < f → i < tu → (⟨p, (i : Int)⟩ : Ln) ∈ keysH s') := by
  intro f
  induction f with
  | zero => intro i s s' h; injection h with _ h; rw [← h]; exact ⟨sok_refl _ _ rfl, fun h => absurd h (by omega)⟩
  | succ f ih =>
    intro i s s' h
    unfold loopS at h
    split at h
    · injection h with _ h; rw [← h]; exact ⟨sok_refl _ _ rfl, fun _ h => by omega⟩
    · split at h
      · exact (fail_no h).elim
      · simp only at h
        split at h
        · exact (fail_no h).elim
        · split at h
          · exact (fail_no h).elim
          · cases hr : doHead t nest p l i (parseH (l.getD i [])).1 { s with count := s.count + 1, heads := setM s.heads ⟨p, i⟩ true } with
            | mk b s2 =>
              rw [hr] at h
              cases b with
              | false => simp only [Bool.not_false, if_true] at h; injection h with h _; cases h
              | true =>
                simp only [Bool.not_true, Bool.false_eq_true, if_false] at h
                have hm1 := head_mono t (fun g hg => (hn g hg).2) hr
                have hm2 := loop_mono t (fun g hg => (hn g hg).2) p l tu _ _ _ _ h
                obtain ⟨a1, a2⟩ := head_fil t hn hr
                obtain ⟨⟨b1, b2⟩, _⟩ := ih _ _ _ h
                refine ⟨⟨fun q hq => ?_, fun q hq => b2 q (a2 q hq)⟩, fun _ _ => hm2 _ (hm1 _ ((keys_setM _ _ _ _).2 (.inl rfl)))⟩
                rcases b1 q hq with h | h
                · rcases a1 q h with h | h
                  · exact .inl h
                  · exact .inr (hm2 _ h)
                · exact .inr h
theorem group_fil (t : List Fil) : ∀ d, GFil (groupS t d) := by
  intro d
  induction d with
  | zero => intro p l fr tu s s' h; obtain ⟨⟨h1, h2⟩, h3⟩ := loop_fil t (fun g hg => by cases hg) p l tu _ _ s s' h; exact ⟨h1, fun h => h3 (by omega) h, h2⟩
  | succ d ih => intro p l fr tu s s' h; obtain ⟨⟨h1, h2⟩, h3⟩ := loop_fil t (fun g hg => by injection hg with hg; subst hg; exact ⟨ih, group_mono t d⟩) p l tu _ _ s s' h; exact ⟨h1, fun h => h3 (by omega) h, h2⟩
end Go.Proofs.YtpeamehplhpcjaaGreatDoor
namespace Go.Proofs.YtpeamehplhpcjaaGreatDoor
theorem split_infix (c : UInt8) : ∀ (s : Bs), ∀ y ∈ splitS c s, y <:+: s := by
  have key : ∀ (s : Bs), (∃ h r, splitS c s = h :: r ∧ h <+: s ∧ ∀ y ∈ r, y <:+: s) := by
    intro s
    induction s with
    | nil => exact ⟨[], [], rfl, List.prefix_refl _, fun y hy => by cases hy⟩
    | cons x r ih =>
      obtain ⟨h, q, e, h1, h2⟩ := ih
      unfold splitS
      split
      · refine ⟨[], splitS c r, rfl, List.nil_prefix, fun y hy => ?_⟩
        rw [e] at hy
        rcases List.mem_cons.1 hy with rfl | hy
        · exact (h1.isInfix).trans (List.suffix_cons x r).isInfix
        · exact (h2 y hy).trans (List.suffix_cons x r).isInfix
      · rw [e]
        exact ⟨x :: h, q, rfl, by simpa using h1, fun y hy => (h2 y hy).trans (List.suffix_cons x r).isInfix⟩
  intro s y hy
  obtain ⟨h, r, e, h1, h2⟩ := key s
  rw [e] at hy
  rcases List.mem_cons.1 hy with rfl | hy
  · exact h1.isInfix
  · exact h2 y hy
theorem mode_mem (w : List Bs) : ∀ y ∈ (modeS w).2, y ∈ w := by
  unfold modeS
  split
  · split
    · exact fun y hy => List.mem_cons_of_mem _ hy
    · exact fun y hy => hy
  · exact fun y hy => hy
theorem shape_name (w : List Bs) : (shapeS w).1.name = [] ∨ (shapeS w).1.name ∈ w := by
  have hm := mode_mem w
  unfold shapeS
  simp only
  split
  · rename_i a b r e
    have hb : b ∈ w := hm b (by rw [e]; simp)
    split
    · exact .inl rfl
    · split
      · exact .inr hb
      · split
        · exact .inl rfl
        · exact .inr hb
  · exact .inl rfl
theorem parse_name (s : Bs) : (parseH s).1.name = [] ∨ (parseH s).1.name <:+: s := by
  unfold parseH
  split
  · exact .inl rfl
  · simp only
    split
    · exact .inl rfl
    · split
      · exact .inl rfl
      · rcases shape_name (splitS 32 s) with h | h
        · exact .inl h
        · exact .inr (split_infix 32 s _ h)
end Go.Proofs.YtpeamehplhpcjaaGreatDoor
