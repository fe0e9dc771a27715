/- A part of the proofs of the laws of one package; see the law's own text, which comes last in 'order'. No conditions of its own. -/
import Derived.Test.YtpeamehplhpcjaaGreatDoorWC05
import Derived.Test.YtpeamehplhpcjaaGreatDoorWC23
set_option linter.unusedVariables false
set_option linter.unusedSimpArgs false
namespace Go.Proofs.YtpeamehplhpcjaaGreatDoor
inductive Rd (l : List Bs) : Nat → Nat → Nat → Nat → Prop
  | here {fr tu : Nat} : fr < tu → Rd l fr tu fr tu
  | next {fr tu i e : Nat} : (parseH (l.getD fr [])).2 = 0 → fr + 1 + (parseH (l.getD fr [])).1.n.toNat ≤ tu → Rd l (fr + 1 + (parseH (l.getD fr [])).1.n.toNat) tu i e → Rd l fr tu i e
  | sub {fr tu i e : Nat} : (parseH (l.getD fr [])).2 = 0 → ((parseH (l.getD fr [])).1.word = 4 ∨ (parseH (l.getD fr [])).1.word = 5) → fr + 1 + (parseH (l.getD fr [])).1.n.toNat ≤ tu → Rd l (fr + 1) (fr + 1 + (parseH (l.getD fr [])).1.n.toNat) i e → Rd l fr tu i e
theorem Rd.le {l : List Bs} {fr tu i e : Nat} (h : Rd l fr tu i e) : fr ≤ i ∧ i < e ∧ e ≤ tu := by
  induction h with
  | here h => omega
  | next _ _ _ ih => omega
  | sub _ _ _ _ ih => omega
theorem Rd.apart {l : List Bs} {fr tu i e : Nat} (h : Rd l fr tu i e) (hw : ¬ ((parseH (l.getD i [])).1.word = 4 ∨ (parseH (l.getD i [])).1.word = 5)) (hf : i + 1 + (parseH (l.getD i [])).1.n.toNat ≤ e) {j : Nat} (h1 : i < j) (h2 : j < i + 1 + (parseH (l.getD i [])).1.n.toNat) : ∀ e', ¬ Rd l fr tu j e' := by
  induction h with
  | here h =>
    intro e' hr
    cases hr with
    | here _ => omega
    | next _ _ hr => have := hr.le; omega
    | sub _ hw' _ _ => exact hw hw'
  | next hp hl h ih =>
    have hle := h.le
    intro e' hr
    cases hr with
    | here _ => omega
    | next _ _ hr => exact ih hw hf h1 h2 e' hr
    | sub _ _ _ hr => have := hr.le; omega
  | sub hp hw' hl h ih =>
    have hle := h.le
    intro e' hr
    cases hr with
    | here _ => omega
    | next _ _ hr => have := hr.le; omega
    | sub _ _ _ hr => exact ih hw hf h1 h2 e' hr
def LnOk (t : List Fil) (y : Ln) : Prop := ∃ d, ∃ j e : Nat, findT t y.path = some d ∧ (linesS d).2 = 0 ∧ y.n = j ∧ Rd (linesS d).1 0 (linesS d).1.length j e
def BdOk (t : List Fil) (s : Sst) (b : Spn) : Prop := ∃ d, ∃ j e : Nat, findT t b.path = some d ∧ (linesS d).2 = 0 ∧ Rd (linesS d).1 0 (linesS d).1.length j e ∧ ¬ ((parseH ((linesS d).1.getD j [])).1.word = 4 ∨ (parseH ((linesS d).1.getD j [])).1.word = 5) ∧
  j + 1 + (parseH ((linesS d).1.getD j [])).1.n.toNat ≤ e ∧ b.fr = (j : Int) + 1 ∧ b.tu = (j : Int) + 1 + (parseH ((linesS d).1.getD j [])).1.n.toNat ∧ (⟨b.path, j⟩ : Ln) ∈ keysH s
theorem BdOk.mono {t : List Fil} {s s' : Sst} {b : Spn} (h : BdOk t s b) (hk : ∀ y ∈ keysH s, y ∈ keysH s') : BdOk t s' b := by
  obtain ⟨d, j, e, h1, h2, h3, h4, h5, h6, h7, h8⟩ := h
  exact ⟨d, j, e, h1, h2, h3, h4, h5, h6, h7, hk _ h8⟩
structure Inv (t : List Fil) (s : Sst) : Prop where
  ln : ∀ y ∈ keysH s, LnOk t y
  ma : ∀ q ∈ s.macros, q.1 = q.2.name ∧ BdOk t s q.2.body
  it : ∀ x ∈ s.items, x.kind ≠ 3 → BdOk t s x.body
  dn : (s.items.map (·.name)).Nodup
  ap : ∀ k ∈ s.macros.map (·.1), k ∉ s.flags.map (·.1)
  ft : ∀ q ∈ s.flags, q.2 = true
def Ctx (t : List Fil) (p : Bs) (l : List Bs) (fr tu : Nat) : Prop := ∃ d, findT t p = some d ∧ (linesS d).2 = 0 ∧ l = (linesS d).1 ∧ ∀ j e, Rd l fr tu j e → Rd l 0 l.length j e
def GInv (t : List Fil) (g : Grp) : Prop := ∀ p l fr tu s s', Ctx t p l fr tu → Inv t s → g p l fr tu s = (true, s') → Inv t s'
def NInv (t : List Fil) (n : Option Grp) : Prop := ∀ g, n = some g → GInv t g
theorem file_inv {t : List Fil} {g : Grp} (hg : GInv t g) {p : Bs} {l : List Bs} {s s' : Sst} {d : Bs} (h1 : findT t p = some d) (h2 : (linesS d).2 = 0) (h3 : l = (linesS d).1) (hi : Inv t s) (h : fileS g p l s = (true, s')) : Inv t s' := by
  unfold fileS at h
  cases hr : g p l 0 l.length { s with files := setM s.files p true, opn := s.opn ++ [p] } with
  | mk b s2 =>
    rw [hr] at h
    injection h with e1 e2
    simp only at e1
    subst e1
    have hi1 : Inv t { s with files := setM s.files p true, opn := s.opn ++ [p] } := ⟨hi.ln, hi.ma, hi.it, hi.dn, hi.ap, hi.ft⟩
    have := hg _ _ _ _ _ _ ⟨d, h1, h2, h3, fun _ _ h => h⟩ hi1 hr
    rw [← e2]
    exact ⟨this.ln, this.ma, this.it, this.dn, this.ap, this.ft⟩
theorem item_inv {t : List Fil} {p : Bs} {n : Int} {x : Itm} {s s' : Sst} (hi : Inv t s) (hx : x.kind ≠ 3 → BdOk t s x.body) (h : itemS p n x s = (true, s')) : Inv t s' := by
  unfold itemS at h
  split at h
  · exact (fail_no h).elim
  · rename_i hno
    split at h
    · exact (fail_no h).elim
    · injection h with _ h
      rw [← h]
      refine ⟨hi.ln, hi.ma, fun y hy => ?_, ?_, hi.ap, hi.ft⟩
      · rcases List.mem_append.1 hy with hy | hy
        · exact hi.it y hy
        · rw [List.mem_singleton.1 hy]; exact hx
      · rw [List.map_append, List.nodup_append]
        refine ⟨hi.dn, by simp, fun a ha b hb e => hno ?_⟩
        obtain ⟨y, hy, rfl⟩ := List.mem_map.1 ha
        simp only [List.map_cons, List.map_nil, List.mem_singleton] at hb
        rw [List.any_eq_true]
        exact ⟨y, hy, by simp [e, hb]⟩
theorem incl_inv {t : List Fil} {nest : Option Grp} (hn : NInv t nest) {p : Bs} {n : Int} {ref : Bs} {s s' : Sst} (hi : Inv t s) (h : inclS t nest p n ref s = (true, s')) : Inv t s' := by
  unfold inclS at h
  simp only at h
  split at h
  · exact (fail_no h).elim
  · split at h
    · exact (fail_no h).elim
    · split at h
      · exact (fail_no h).elim
      · rename_i d hd
        split at h
        · exact (fail_no h).elim
        · rename_i h0
          split at h
          · exact (fail_no h).elim
          · rename_i g
            exact file_inv (hn g rfl) hd (by omega) rfl hi h
theorem defined_not {s : Sst} {x : Bs} (h : ¬ definedS s x = true) (ht : ∀ q ∈ s.flags, q.2 = true) : x ∉ s.macros.map (·.1) ∧ x ∉ s.flags.map (·.1) := by
  unfold definedS at h
  rw [Bool.or_eq_true, not_or, hasM_iff, getM_true _ _ ht] at h
  exact h
theorem head_inv {t : List Fil} {nest : Option Grp} (hn : NInv t nest) {p : Bs} {l : List Bs} {i : Nat} {s s' : Sst} (hi : Inv t s) {d : Bs} {e : Nat} (h1 : findT t p = some d) (h2 : (linesS d).2 = 0) (h3 : l = (linesS d).1) (hr : Rd l 0 l.length i e)
    (hp : (parseH (l.getD i [])).2 = 0) (hfit : i + 1 + (parseH (l.getD i [])).1.n.toNat ≤ e) (hk : (⟨p, i⟩ : Ln) ∈ keysH s)
    (hsub : ((parseH (l.getD i [])).1.word = 4 ∨ (parseH (l.getD i [])).1.word = 5) → ∀ j e, Rd l (i + 1) (i + 1 + (parseH (l.getD i [])).1.n.toNat) j e → Rd l 0 l.length j e)
    (h : doHead t nest p l i (parseH (l.getD i [])).1 s = (true, s')) : Inv t s' := by
  have hn0 := (parse_n hp).1
  have hnt : (((parseH (l.getD i [])).1.n.toNat : Nat) : Int) = (parseH (l.getD i [])).1.n := Int.toNat_of_nonneg hn0
  have hbd : ¬ ((parseH (l.getD i [])).1.word = 4 ∨ (parseH (l.getD i [])).1.word = 5) → BdOk t s ⟨p, (i : Int) + 1, (i : Int) + 1 + (parseH (l.getD i [])).1.n⟩ := by
    intro hw
    subst h3
    exact ⟨d, i, e, h1, h2, hr, hw, hfit, rfl, by rw [hnt], hk⟩
  generalize hx : (parseH (l.getD i [])).1 = x at *
  unfold doHead at h
  simp only at h
  split at h
  · exact incl_inv hn hi h
  · rename_i w1
    split at h
    · rename_i w2
      split at h
      · exact (fail_no h).elim
      · rename_i hdf
        split at h
        · exact (fail_no h).elim
        · injection h with _ h
          rw [← h]
          obtain ⟨n1, n2⟩ := defined_not hdf hi.ft
          refine ⟨hi.ln, fun q hq => ?_, hi.it, hi.dn, fun k hk' => ?_, hi.ft⟩
          · rcases mem_setM _ _ _ _ hq with rfl | hq
            · exact ⟨rfl, hbd (by omega)⟩
            · exact hi.ma q hq
          · rcases (keys_setM _ _ _ _).1 hk' with rfl | hk'
            · exact n2
            · exact hi.ap k hk'
    · split at h
      · split at h
        · injection h with _ h
          rw [← h]
          refine ⟨hi.ln, fun q hq => hi.ma q ((List.mem_filter.1 hq).1), hi.it, hi.dn, fun k hk' hf => ?_, fun q hq => hi.ft q ((List.mem_filter.1 hq).1)⟩
          exact hi.ap k ((keys_delM _ _ _).1 hk').1 ((keys_delM _ _ _).1 hf).1
        · exact (fail_no h).elim
      · split at h
        · rename_i w4
          split at h
          · injection h with _ h; rw [← h]; exact hi
          · split at h
            · exact (fail_no h).elim
            · rename_i g
              exact hn g rfl _ _ _ _ _ _ ⟨d, h1, h2, h3, hsub w4⟩ hi h
        · rename_i w4
          split at h
          · exact item_inv hi (fun hk3 => absurd rfl hk3) h
          · split at h
            · exact item_inv hi (fun _ => hbd w4) h
            · split at h
              · exact item_inv hi (fun _ => hbd w4) h
              · injection h with _ h; rw [← h]; exact hi
theorem loop_inv {t : List Fil} {nest : Option Grp} (hn : NInv t nest) {p : Bs} {l : List Bs} (tu : Nat) : ∀ f i (s s' : Sst), Ctx t p l i tu → Inv t s → loopS t nest p l tu f i s = (true, s') → Inv t s' := by
  intro f
  induction f with
  | zero => intro i s s' _ hi h; injection h with _ h; rw [← h]; exact hi
  | succ f ih =>
    intro i s s' hc hi h
    obtain ⟨d, h1, h2, h3, h4⟩ := hc
    unfold loopS at h
    split at h
    · injection h with _ h; rw [← h]; exact hi
    · rename_i hto
      split at h
      · exact (fail_no h).elim
      · simp only at h
        split at h
        · exact (fail_no h).elim
        · rename_i hp
          have hp0 : (parseH (l.getD i [])).2 = 0 := by omega
          split at h
          · exact (fail_no h).elim
          · rename_i hsh
            have hn0 := (parse_n hp0).1
            have hfit : i + 1 + (parseH (l.getD i [])).1.n.toNat ≤ tu := by omega
            cases hr : doHead t nest p l i (parseH (l.getD i [])).1 { s with count := s.count + 1, heads := setM s.heads ⟨p, i⟩ true } with
            | mk b s2 =>
              rw [hr] at h
              cases b with
              | false => simp only [Bool.not_false, if_true] at h; injection h with h _; cases h
              | true =>
                simp only [Bool.not_true, Bool.false_eq_true, if_false] at h
                have hrd : Rd l 0 l.length i tu := h4 i tu (.here (by omega))
                have hk : ∀ y ∈ keysH s, y ∈ keysH { s with count := s.count + 1, heads := setM s.heads ⟨p, i⟩ true } := fun y hy => (keys_setM _ _ _ _).2 (.inr hy)
                have hi1 : Inv t { s with count := s.count + 1, heads := setM s.heads ⟨p, i⟩ true } := by
                  refine ⟨fun y hy => ?_, fun q hq => ⟨(hi.ma q hq).1, (hi.ma q hq).2.mono hk⟩, fun x hx hx3 => (hi.it x hx hx3).mono hk, hi.dn, hi.ap, hi.ft⟩
                  rcases (keys_setM _ _ _ _).1 hy with rfl | hy
                  · exact ⟨d, i, tu, h1, h2, rfl, h3 ▸ hrd⟩
                  · exact hi.ln y hy
                have hi2 := head_inv hn hi1 h1 h2 h3 hrd hp0 hfit ((keys_setM _ _ _ _).2 (.inl rfl)) (fun hw j e hj => h4 j e (.sub hp0 hw hfit hj)) hr
                exact ih _ _ _ ⟨d, h1, h2, h3, fun j e hj => h4 j e (.next hp0 hfit hj)⟩ hi2 h
theorem group_inv (t : List Fil) : ∀ d, GInv t (groupS t d) := by
  intro d
  induction d with
  | zero => intro p l fr tu s s' hc hi h; exact loop_inv (fun g hg => by cases hg) tu _ _ s s' hc hi h
  | succ d ih => intro p l fr tu s s' hc hi h; exact loop_inv (fun g hg => by injection hg with hg; subst hg; exact ih) tu _ _ s s' hc hi h
def FOk (s s' : Sst) : Prop := ∀ q ∈ s'.files.map (·.1), q ∈ s.files.map (·.1) ∨ (⟨q, 0⟩ : Ln) ∈ keysH s'
def GFil (g : Grp) : Prop := ∀ p l fr tu s s', g p l fr tu s = (true, s') → FOk s s' ∧ (fr < tu → (⟨p, (fr : Int)⟩ : Ln) ∈ keysH s') ∧ (∀ q ∈ s.files.map (·.1), q ∈ s'.files.map (·.1))
def NFil (n : Option Grp) : Prop := ∀ g, n = some g → GFil g ∧ GMono g
def SOk (s s' : Sst) : Prop := FOk s s' ∧ ∀ q ∈ s.files.map (·.1), q ∈ s'.files.map (·.1)
theorem sok_refl (s s' : Sst) (h : s'.files = s.files) : SOk s s' := ⟨fun q hq => .inl (by rw [← h]; exact hq), fun q hq => by rw [h]; exact hq⟩
theorem file_fil {g : Grp} (hg : GFil g) {p : Bs} {l : List Bs} {s s' : Sst} (hl : 0 < l.length) (h : fileS g p l s = (true, s')) : SOk s s' ∧ p ∈ s'.files.map (·.1) := by
  unfold fileS at h
  cases hr : g p l 0 l.length { s with files := setM s.files p true, opn := s.opn ++ [p] } with
  | mk b s2 =>
    rw [hr] at h
    injection h with e1 e2
    simp only at e1
    subst e1
    obtain ⟨h1, h2, h3⟩ := hg _ _ _ _ _ _ hr
    have h2 := h2 hl
    rw [← e2]
    refine ⟨⟨fun q hq => ?_, fun q hq => h3 q ((keys_setM _ _ _ _).2 (.inr hq))⟩, h3 p ((keys_setM _ _ _ _).2 (.inl rfl))⟩
    rcases h1 q hq with h | h
    · rcases (keys_setM _ _ _ _).1 h with rfl | h
      · exact .inr h2
      · exact .inl h
    · exact .inr h
theorem lines_pos {d : Bs} (h : (linesS d).2 = 0) : (linesS d).1.length = 1 + d.count 10 := by
  unfold linesS at h ⊢
  split
  · rename_i h1; rw [if_pos h1] at h; cases h
  · rename_i h1
    rw [if_neg h1] at h
    split
    · rename_i h2; rw [if_pos h2] at h; cases h
    · show (splitS 10 d).length = _
      rw [split_len]; omega
theorem head_fil (t : List Fil) {nest : Option Grp} (hn : NFil nest) {p : Bs} {l : List Bs} {i : Nat} {x : Hd} {s s' : Sst} (h : doHead t nest p l i x s = (true, s')) : SOk s s' := by
  have hitem : ∀ {y : Itm}, itemS p i y s = (true, s') → SOk s s' := by
    intro y h
    unfold itemS at h
    split at h
    · exact (fail_no h).elim
    · split at h
      · exact (fail_no h).elim
      · injection h with _ h; rw [← h]; exact sok_refl _ _ rfl
  unfold doHead at h
  simp only at h
  split at h
  · unfold inclS at h
    simp only at h
    split at h
    · exact (fail_no h).elim
    · split at h
      · exact (fail_no h).elim
      · split at h
        · exact (fail_no h).elim
        · split at h
          · exact (fail_no h).elim
          · rename_i h0
            split at h
            · exact (fail_no h).elim
            · rename_i g
              exact (file_fil (hn g rfl).1 (by rw [lines_pos (by omega)]; omega) h).1
  · split at h
    · split at h
      · exact (fail_no h).elim
      · split at h
        · exact (fail_no h).elim
        · injection h with _ h; rw [← h]; exact sok_refl _ _ rfl
    · split at h
      · split at h
        · injection h with _ h; rw [← h]; exact sok_refl _ _ rfl
        · exact (fail_no h).elim
      · split at h
        · split at h
          · injection h with _ h; rw [← h]; exact sok_refl _ _ rfl
          · split at h
            · exact (fail_no h).elim
            · rename_i g
              obtain ⟨h1, _, h3⟩ := (hn g rfl).1 _ _ _ _ _ _ h
              exact ⟨h1, h3⟩
        · split at h
          · exact hitem h
          · split at h
            · exact hitem h
            · split at h
              · exact hitem h
              · injection h with _ h; rw [← h]; exact sok_refl _ _ rfl
theorem loop_fil (t : List Fil) {nest : Option Grp} (hn : NFil nest) (p : Bs) (l : List Bs) (tu : Nat) : ∀ f i (s s' : Sst), loopS t nest p l tu f i s = (true, s') → SOk s s' ∧ (0 < f → i < tu → (⟨p, (i : Int)⟩ : Ln) ∈ keysH s') := by
  intro f
  induction f with
  | zero => intro i s s' h; injection h with _ h; rw [← h]; exact ⟨sok_refl _ _ rfl, fun h => absurd h (by omega)⟩
  | succ f ih =>
    intro i s s' h
    unfold loopS at h
    split at h
    · injection h with _ h; rw [← h]; exact ⟨sok_refl _ _ rfl, fun _ h => by omega⟩
    · split at h
      · exact (fail_no h).elim
      · simp only at h
        split at h
        · exact (fail_no h).elim
        · split at h
          · exact (fail_no h).elim
          · cases hr : doHead t nest p l i (parseH (l.getD i [])).1 { s with count := s.count + 1, heads := setM s.heads ⟨p, i⟩ true } with
            | mk b s2 =>
              rw [hr] at h
              cases b with
              | false => simp only [Bool.not_false, if_true] at h; injection h with h _; cases h
              | true =>
                simp only [Bool.not_true, Bool.false_eq_true, if_false] at h
                have hm1 := head_mono t (fun g hg => (hn g hg).2) hr
                have hm2 := loop_mono t (fun g hg => (hn g hg).2) p l tu _ _ _ _ h
                obtain ⟨a1, a2⟩ := head_fil t hn hr
                obtain ⟨⟨b1, b2⟩, _⟩ := ih _ _ _ h
                refine ⟨⟨fun q hq => ?_, fun q hq => b2 q (a2 q hq)⟩, fun _ _ => hm2 _ (hm1 _ ((keys_setM _ _ _ _).2 (.inl rfl)))⟩
                rcases b1 q hq with h | h
                · rcases a1 q h with h | h
                  · exact .inl h
                  · exact .inr (hm2 _ h)
                · exact .inr h
theorem group_fil (t : List Fil) : ∀ d, GFil (groupS t d) := by
  intro d
  induction d with
  | zero => intro p l fr tu s s' h; obtain ⟨⟨h1, h2⟩, h3⟩ := loop_fil t (fun g hg => by cases hg) p l tu _ _ s s' h; exact ⟨h1, fun h => h3 (by omega) h, h2⟩
  | succ d ih => intro p l fr tu s s' h; obtain ⟨⟨h1, h2⟩, h3⟩ := loop_fil t (fun g hg => by injection hg with hg; subst hg; exact ⟨ih, group_mono t d⟩) p l tu _ _ s s' h; exact ⟨h1, fun h => h3 (by omega) h, h2⟩
def Within (t : List Fil) (hs : List Spn) (b : Spn) : Prop := ∃ d, findT t b.path = some d ∧ 1 ≤ b.fr ∧ b.fr ≤ b.tu ∧ b.tu ≤ 1 + (d.count 10 : Nat) ∧ (∀ n, b.fr ≤ n → n < b.tu → ¬ inL hs ⟨b.path, n⟩) ∧ inL hs ⟨b.path, b.fr - 1⟩
theorem bd_within {t : List Fil} {s : Sst} (hi : Inv t s) {b : Spn} (h : BdOk t s b) : Within t (spansS (s.heads.map Prod.fst)) b := by
  obtain ⟨d, j, e, h1, h2, h3, h4, h5, h6, h7, h8⟩ := h
  have hle := h3.le
  have hlen := lines_pos h2
  refine ⟨d, h1, by omega, by omega, by omega, fun n hn1 hn2 hin => ?_, ?_⟩
  · have hm := ((spans_law (s.heads.map Prod.fst)).2 _).1 hin
    obtain ⟨d', j', e', k1, k2, k3, k4⟩ := hi.ln _ hm
    have k1 : findT t b.path = some d' := k1
    have k3 : n = (j' : Int) := k3
    rw [h1] at k1
    injection k1 with k1
    subst k1
    exact h3.apart h4 h5 (j := j') (by omega) (by omega) e' k4
  · refine ((spans_law (s.heads.map Prod.fst)).2 _).2 ?_
    have : b.fr - 1 = (j : Int) := by omega
    rw [this]
    exact h8
theorem st0_flags (fl : List Bs) : ∀ q ∈ (st0 fl).flags, q.2 = true := by
  have : ∀ (fl : List Bs) (m : List (Bs × Bool)), (∀ q ∈ m, q.2 = true) → ∀ q ∈ fl.foldl (fun m f => setM m f true) m, q.2 = true := by
    intro fl
    induction fl with
    | nil => intro m h; exact h
    | cons f r ih =>
      intro m h
      refine ih _ fun q hq => ?_
      rcases mem_setM _ _ _ _ hq with rfl | hq
      · rfl
      · exact h q hq
  exact this fl [] (fun q hq => by cases hq)
theorem st0_inv (t : List Fil) (fl : List Bs) : Inv t (st0 fl) := by
  constructor
  · intro y hy; cases hy
  · intro y hy; cases hy
  · intro y hy; cases hy
  · exact List.nodup_nil
  · intro y hy; cases hy
  · exact st0_flags fl
theorem roles_law {t : List Fil} {p : Bs} {fl : List Bs} {u : Unt} {f : Flt} (h : scanS t p fl = (u, f)) (hf0 : f.err = 0) :
    (∀ m ∈ u.macros, Within t u.heads m.body ∧ m.name ∉ u.flags) ∧ Srt ltMac u.macros ∧ (∀ x ∈ u.items, x.kind ≠ 3 → Within t u.heads x.body) ∧ (u.items.map (·.name)).Nodup ∧
      (∀ q ∈ u.files, inL u.heads ⟨q, 0⟩) ∧ p ∈ u.files ∧ Srt ltS u.files ∧ Srt ltS u.flags := by
  unfold scanS at h
  simp only at h
  by_cases hb : (startS t p fl).2.2 ≠ 0
  · rw [if_pos hb] at h
    injection h with _ h
    rw [← h] at hf0
    exact absurd hf0 hb
  · rw [if_neg hb] at h
    have hb0 : (startS t p fl).2.2 = 0 := by omega
    have hst : ∃ d, findT t p = some d ∧ (linesS d).2 = 0 ∧ (startS t p fl).1 = (linesS d).1 := by
      unfold startS at hb0 ⊢
      split at hb0; cases hb0
      rename_i n1
      split at hb0; cases hb0
      rename_i n2
      split at hb0; cases hb0
      rename_i n3
      split at hb0; cases hb0
      rename_i n4
      rw [if_neg n1, if_neg n2, if_neg n3, if_neg n4]
      clear n1 n2 n3 n4
      cases hf : findT t p with
      | none => rw [hf] at hb0; cases hb0
      | some d => rw [hf] at hb0; exact ⟨d, rfl, hb0, rfl⟩
    obtain ⟨d, d1, d2, d3⟩ := hst
    cases hr : fileS (groupS t 24) p (startS t p fl).1 (st0 fl) with
    | mk ok s2 =>
      rw [hr] at h
      cases ok with
      | false =>
        simp only [Bool.not_false, if_true] at h
        injection h with _ h
        rw [← h] at hf0
        exact absurd hf0 (run_err t p _ fl hr)
      | true =>
        simp only [Bool.not_true, Bool.false_eq_true, if_false] at h
        have hu : untS p s2 = u := (Prod.mk.inj h).1
        have hinv := file_inv (group_inv t 24) d1 d2 d3 (st0_inv t fl) hr
        obtain ⟨⟨f1, _⟩, f2⟩ := file_fil (group_fil t 24) (by rw [d3, lines_pos d2]; omega) hr
        have hag : ∃ r, Agr s2 r := by
          rcases file_agr (group_agr t 24) p (startS t p fl).1 (st0_agr fl) with ⟨_, _, h3⟩ | ⟨h1, _, _⟩
          · rw [hr] at h3; exact ⟨_, h3⟩
          · rw [hr] at h1; cases h1
        obtain ⟨r, hag⟩ := hag
        have hu2 := unt_agr hag p
        rw [hu] at hu2
        have e1 : u.flags = r.flags := by rw [← hu2]; rfl
        have e2 : u.macros = r.macros := by rw [← hu2]; rfl
        have e3 : u.files = r.files := by rw [← hu2]; rfl
        have e4 : u.heads = spansS (s2.heads.map Prod.fst) := by rw [← hu]; rfl
        have e5 : u.items = s2.items := by rw [← hu]; rfl
        refine ⟨fun m hm => ?_, by rw [e2]; exact hag.ma.1, fun x hx hx3 => by rw [e4]; exact bd_within hinv (hinv.it x (by rw [← e5]; exact hx) hx3), by rw [e5]; exact hinv.dn, fun q hq => ?_, ?_, by rw [e3]; exact hag.fi.1, by rw [e1]; exact hag.fl.1⟩
        · rw [e2] at hm
          obtain ⟨q, hq, rfl⟩ := List.mem_map.1 ((hag.ma.2 m).1 hm)
          obtain ⟨k1, k2⟩ := hinv.ma q hq
          refine ⟨by rw [e4]; exact bd_within hinv k2, fun hfl => ?_⟩
          rw [e1] at hfl
          have := (hag.fl.2 _).1 hfl
          exact hinv.ap q.1 (List.mem_map.2 ⟨q, hq, rfl⟩) (by rw [k1]; exact this)
        · rw [e3] at hq
          rcases f1 q ((hag.fi.2 q).1 hq) with h | h
          · cases h
          · rw [e4]; exact ((spans_law (s2.heads.map Prod.fst)).2 _).2 h
        · rw [e3]; exact (hag.fi.2 p).2 f2
end Go.Proofs.YtpeamehplhpcjaaGreatDoor
