/- Rules: the program's parser and the reference's give the same rules. Plain law. -/
import Derived.Test.YtjopmgoacncmgaaGreatDoorRfNum
set_option linter.unusedVariables false
set_option linter.unusedSimpArgs false
namespace Go.Proofs.YtjopmgoacncmgaaGreatDoor

def RS (p : KSt) (q : RSt) : Prop := p.2 = false ∧ q.2 = false ∧ q.1 = p.1.map tkOf ∧ ∀ t ∈ p.1, VTok t
def RA {α : Type} (x : α × KSt) (y : α × RSt) : Prop := (x.2.2 = true ∧ y.2.2 = true) ∨ (x.1 = y.1 ∧ RS x.2 y.2)
theorem RS.drop {p : KSt} {q : RSt} (h : RS p q) : RS (p.1.drop 1, p.2) (q.1.drop 1, q.2) :=
  ⟨h.1, h.2.1, by rw [h.2.2.1, List.map_drop], fun t ht => h.2.2.2 t (List.mem_of_mem_drop ht)⟩
theorem RS.next {p : KSt} {q : RSt} (h : RS p q) : rnext q = tkOf (peekS p) := by
  obtain ⟨l, b⟩ := p
  obtain ⟨m, c⟩ := q
  obtain ⟨_, _, h3, _⟩ := h
  simp only at h3
  subst h3
  cases l <;> rfl
theorem RS.peek {p : KSt} {q : RSt} (h : RS p q) : (p.1 = [] ∧ peekS p = []) ∨ (VTok (peekS p) ∧ p.1 ≠ []) := by
  obtain ⟨l, b⟩ := p
  cases l with
  | nil => exact .inl ⟨rfl, rfl⟩
  | cons t r => exact .inr ⟨h.2.2.2 t List.mem_cons_self, by simp⟩
theorem tk_zero {s : Bs} (h : s ≠ []) : (tkOf s).kind ≠ 0 := by
  cases s with
  | nil => exact absurd rfl h
  | cons c r => unfold tkOf; rw [if_neg (by simp)]; (repeat' split) <;> simp
theorem nextS_bad {p : KSt} (h : p.2 = true) : (nextS p).2.2 = true := by unfold nextS; split <;> simp_all
theorem takeS_bad {p : KSt} (s : Bs) (h : p.2 = true) : (takeS p s).2.2 = true := by
  unfold takeS; split
  · exact h
  · exact nextS_bad h
theorem argP_bad {p : KSt} (h : p.2 = true) : (argP p).2.2 = true := by
  unfold argP; simp only [nextS_bad h]; rfl
theorem argP_formed {p : KSt} (h : (argP p).2.2 = false) : formedS (argP p).1 = true := by
  unfold argP at h ⊢
  simp only [Bool.or_eq_false_iff, Bool.not_eq_false'] at h
  exact h.2
theorem arg_rel {p : KSt} {q : RSt} (h : RS p q) : RA (argP p) (rarg q) := by
  have hn := h.next
  unfold argP rarg
  rw [hn]
  rcases h.peek with ⟨h0, h1⟩ | ⟨hv, h0⟩
  · have e : nextS p = ([], (p.1, true)) := by unfold nextS; rw [h1]; rfl
    rw [e, h1]
    exact .inl ⟨rfl, by simp [tkOf, rargOf, formed_default]⟩
  · have hne : (peekS p).isEmpty = false := by cases hp : peekS p with | nil => exact absurd hp hv.1 | cons a b => rfl
    have e : nextS p = (peekS p, (p.1.drop 1, p.2)) := by unfold nextS; rw [hne]; rfl
    have ha := arg_eq (peekS p) hv
    rw [e]
    have hk := tk_zero hv.1
    simp only [h.1, h.2.1, Bool.false_or, if_pos hk]
    cases hf : formedS (argOf (peekS p))
    · left
      rw [hf] at ha
      refine ⟨rfl, ?_⟩
      have := ha.1
      simp only
      cases h2 : (rargOf (tkOf (peekS p))).2
      · rfl
      · rw [h2, Bool.true_and] at this
        rw [← this]
        rfl
    · right
      rw [hf] at ha
      have := ha.1.symm
      rw [Bool.and_eq_true] at this
      refine ⟨ha.2 rfl, rfl, by rw [this.1, this.2]; rfl, by simp only; rw [h.2.2.1, List.map_drop], fun t ht => h.2.2.2 t (List.mem_of_mem_drop ht)⟩
theorem tk_sym {s t : Bs} (ht : tkOf t = ⟨115, t⟩) : (tkOf s = ⟨115, t⟩) ↔ s = t := by
  constructor
  · intro h
    unfold tkOf at h
    split at h
    · exact absurd (congrArg RTk.kind h) (by simp; try omega)
    · split at h
      · exact absurd (congrArg RTk.kind h) (by simp; try omega)
      · split at h
        · exact absurd (congrArg RTk.kind h) (by simp; try omega)
        · split at h
          · exact absurd (congrArg RTk.kind h) (by simp; try omega)
          · injection h
  · rintro rfl; exact ht
theorem tk_word {s t : Bs} (ht : tkOf t = ⟨119, t⟩) : (tkOf s = ⟨119, t⟩) ↔ s = t := by
  constructor
  · intro h
    unfold tkOf at h
    split at h
    · exact absurd (congrArg RTk.kind h) (by simp; try omega)
    · split at h
      · injection h
      · split at h
        · exact absurd (congrArg RTk.kind h) (by simp; try omega)
        · split at h <;> (exact absurd (congrArg RTk.kind h) (by simp; try omega))
  · rintro rfl; exact ht
theorem take_rel {p : KSt} {q : RSt} (h : RS p q) (k : Nat) (t : Bs) (hk : ∀ s, tkOf s = ⟨k, t⟩ ↔ s = t) (ht : t.isEmpty = false) : (takeS p t).1 = (ris q k t).1 ∧ RS (takeS p t).2 (ris q k t).2 := by
  have hn := h.next
  unfold takeS ris
  rw [hn]
  by_cases he : peekS p = t
  · rw [if_neg (by rw [he]; simp), if_pos ((hk _).2 he)]
    have e : nextS p = (peekS p, (p.1.drop 1, p.2)) := by unfold nextS; rw [he, ht]; rfl
    rw [e]
    exact ⟨rfl, h.drop⟩
  · rw [if_pos (by simpa using he), if_neg (fun x => he ((hk _).1 x))]
    exact ⟨rfl, h⟩
theorem sy (t : Bs) (h : t ∈ syms) : ∀ s, tkOf s = ⟨115, t⟩ ↔ s = t := fun _ => tk_sym (sym_tok t h).1
theorem snot : ∀ s, tkOf s = ⟨119, sNot⟩ ↔ s = sNot := fun _ => tk_word (by decide)
theorem moreP_bad (f : Nat) (p : KSt) (out : List Arg) (h : p.2 = true) : moreP f p out = (out, p) := by
  cases f with
  | zero => rfl
  | succ f => rw [moreP, h]; rfl
theorem rmore_bad (f : Nat) (p : RSt) (out : List Arg) (h : p.2 = true) : rmore f p out = (out, p) := by
  cases f with
  | zero => rfl
  | succ f => rw [rmore, h]; rfl
theorem more_rel (f : Nat) : ∀ (x : List Arg × KSt) (y : List Arg × RSt), RA x y → RA (moreP f x.2 x.1) (rmore f y.2 y.1) := by
  induction f with
  | zero => intro x y h; exact h
  | succ f ih =>
    intro x y h
    rcases h with ⟨h1, h2⟩ | ⟨h1, h2⟩
    · rw [moreP_bad _ _ _ h1, rmore_bad _ _ _ h2]
      exact .inl ⟨h1, h2⟩
    · have ht := take_rel h2 115 [44] (sy _ (by decide)) rfl
      rw [moreP, rmore, h2.1, h2.2.1, ← ht.1]
      cases hc : (takeS x.2 [44]).1
      · exact .inr ⟨h1, h2⟩
      · refine ih (_, _) (_, _) ?_
        rcases arg_rel ht.2 with ha | ⟨ha, hb⟩
        · exact .inl ha
        · exact .inr ⟨by rw [h1]; simp only; rw [ha], hb⟩
theorem moreP_formed (f : Nat) : ∀ (p : KSt) (out : List Arg), (∀ a ∈ out, formedS a = true) → (moreP f p out).2.2 = false → ∀ a ∈ (moreP f p out).1, formedS a = true := by
  induction f with
  | zero => intro p out h _; exact h
  | succ f ih =>
    intro p out h hb
    rw [moreP] at hb ⊢
    split
    · rename_i hc
      rw [if_pos hc] at hb
      by_cases hx : (argP (takeS p [44]).2).2.2 = true
      · rw [moreP_bad _ _ _ hx] at hb
        rw [hx] at hb
        cases hb
      · rw [Bool.not_eq_true] at hx
        exact ih _ _ (fun a ha => by
          rcases List.mem_append.1 ha with h1 | h1
          · exact h a h1
          · rw [List.mem_singleton.1 h1]; exact argP_formed hx) hb
    · exact h
theorem pred_low {s : Bs} (h : predS s = true) : (tkOf s) = ⟨119, s⟩ := by
  cases s with
  | nil => exact absurd h (by decide)
  | cons c r =>
    unfold predS eachS at h
    simp only [Bool.and_eq_true, List.headD_cons] at h
    have hl : lowB c = true := h.2.1.2
    unfold tkOf
    rw [if_neg (by simp), List.headD_cons, hl]
    rfl
theorem tk_text {s : Bs} (h : (tkOf s).kind = 119) : (tkOf s).text = s := by
  unfold tkOf at *
  split
  · rename_i h0; rw [if_pos h0] at h; cases h
  · rename_i h0
    rw [if_neg h0] at h
    split
    · rfl
    · rename_i h1
      rw [if_neg h1] at h
      exfalso
      revert h
      (repeat' split) <;> simp
theorem pred_kind (s : Bs) : (decide ((tkOf s).kind ≠ 119) || !predS (tkOf s).text) = !predS s := by
  cases hp : predS s
  · by_cases hk : (tkOf s).kind = 119
    · rw [tk_text hk, hp]; simp
    · simp [hk]
  · rw [pred_low hp]; simp [hp]
theorem atomP_bad {p : KSt} (h : p.2 = true) : (atomP p).2.2 = true := by
  unfold atomP
  have ht := takeS_bad [40] (nextS_bad h)
  simp only
  split
  · have ha := argP_bad ht
    rw [moreP_bad _ _ _ ha]
    simp [ha]
  · simp [ht]
theorem atom_rel {p : KSt} {q : RSt} (h : RS p q) : RA (atomP p) (ratom q) := by
  have hn := h.next
  have hpk := pred_kind (peekS p)
  unfold ratom
  rw [hn]
  simp only
  by_cases hp : predS (peekS p) = true
  · have hk := pred_low hp
    have hpd : (decide ((tkOf (peekS p)).kind ≠ 119) || !predS (tkOf (peekS p)).text) = false := by rw [hpk, hp]; rfl
    rw [if_neg (by rw [Bool.or_eq_false_iff] at hpd; simpa using hpd)]
    rw [hk]
    have hne : (peekS p).isEmpty = false := by cases hq : peekS p with | nil => rw [hq] at hp; exact absurd hp (by decide) | cons a b => rfl
    have e : nextS p = (peekS p, (p.1.drop 1, p.2)) := by unfold nextS; rw [hne]; rfl
    unfold atomP
    rw [e]
    simp only
    have ht := take_rel h.drop 115 [40] (sy _ (by decide)) rfl
    rw [← ht.1]
    cases hc : (takeS (p.1.drop 1, p.2) [40]).1
    · simp only [Bool.false_eq_true, if_false, Bool.not_false, if_true]
      have hto : (takeS (p.1.drop 1, p.2) [40]).2 = (p.1.drop 1, p.2) := by
        unfold takeS at hc ⊢
        split
        · rfl
        · rename_i hx; rw [if_neg hx] at hc; cases hc
      rw [hto]
      have hat : atomS ⟨peekS p, []⟩ = true := by unfold atomS argsS; simp [hp]
      refine .inr ⟨rfl, ?_⟩
      have := h.drop
      rw [hat]
      simpa using this
    · simp only [if_true, Bool.not_true, Bool.false_eq_true, if_false]
      have hlen : (takeS (p.1.drop 1, p.2) [40]).2.1.length = (ris (q.1.drop 1, q.2) 115 [40]).2.1.length := by rw [ht.2.2.2.1, List.length_map]
      rw [← hlen]
      generalize (takeS (p.1.drop 1, p.2) [40]).2 = p1 at *
      generalize (ris (q.1.drop 1, q.2) 115 [40]).2 = q1 at *
      have har := arg_rel ht.2
      have hm := more_rel (p1.1.length + 1) ([(argP p1).1], (argP p1).2) ([(rarg q1).1], (rarg q1).2) (by
        rcases har with ha | ⟨ha, hb⟩
        · exact .inl ha
        · exact .inr ⟨by simp only; rw [ha], hb⟩)
      simp only at hm
      have hfm : (moreP (p1.1.length + 1) (argP p1).2 [(argP p1).1]).2.2 = false → ∀ a ∈ (moreP (p1.1.length + 1) (argP p1).2 [(argP p1).1]).1, formedS a = true := by
        intro hb
        refine moreP_formed _ _ _ (fun a ha => ?_) hb
        rw [List.mem_singleton.1 ha]
        refine argP_formed ?_
        cases hx : (argP p1).2.2
        · rfl
        · rw [moreP_bad _ _ _ hx, hx] at hb; cases hb
      generalize moreP (p1.1.length + 1) (argP p1).2 [(argP p1).1] = m at *
      generalize rmore (p1.1.length + 1) (rarg q1).2 [(rarg q1).1] = n at *
      rcases hm with ⟨h1, h2⟩ | ⟨h1, h2⟩
      · rw [if_pos h2]
        refine .inl ⟨?_, h2⟩
        rw [h1]; simp
      · have hb := h2.1
        have hb' := h2.2.1
        have hb2 : ¬ (n.2.2 = true) := by rw [hb']; simp
        simp only [if_neg hb2]
        have htk := take_rel h2 115 [41] (sy _ (by decide)) rfl
        have hat : atomS ⟨peekS p, m.1⟩ = decide (m.1.length ≤ 6) := by
          unfold atomS argsS
          have : m.1.all formedS = true := List.all_eq_true.2 (hfm hb)
          simp [hp, this]
        simp only [hb, Bool.false_eq_true, if_false, Bool.false_or, hat, ← htk.1, ← h1]
        by_cases h6 : m.1.length ≤ 6
        · have h6' : ¬ (6 < m.1.length) := by omega
          cases ho : (takeS m.2 [41]).1
          · simp [RA]
          · refine .inr ⟨rfl, ?_⟩
            simp only [h6, h6', decide_true, decide_false, Bool.not_true, Bool.or_false]
            exact ⟨rfl, rfl, htk.2.2.2⟩
        · have h6' : 6 < m.1.length := by omega
          left
          simp [h6, h6']
  · rw [Bool.not_eq_true] at hp
    have hpd : (decide ((tkOf (peekS p)).kind ≠ 119) || !predS (tkOf (peekS p)).text) = true := by rw [hpk, hp]; rfl
    rw [if_pos (by rw [Bool.or_eq_true] at hpd; simpa using hpd)]
    left
    refine ⟨?_, rfl⟩
    have hnx : (nextS p).1 = peekS p := by
      unfold nextS; split
      · rename_i h0; cases hq : peekS p with | nil => rfl | cons a b => rw [hq] at h0; cases h0
      · rfl
    unfold atomP
    simp only [hnx]
    have hfa : ∀ l, atomS ⟨peekS p, l⟩ = false := fun l => by unfold atomS; simp [hp]
    split <;> simp [hfa]
theorem ltlP_bad {p : KSt} (h : p.2 = true) : (ltlP p).2.2 = true := by
  unfold ltlP
  simp only
  split
  · exact atomP_bad (nextS_bad h)
  · split
    · exact atomP_bad h
    · simp only [argP_bad (nextS_bad (argP_bad h)), Bool.true_or]
theorem ltl_rel {p : KSt} {q : RSt} (h : RS p q) : RA (ltlP p) (rltl q) := by
  have hn := h.next
  unfold ltlP rltl
  simp only
  have ht := take_rel h 119 sNot snot rfl
  by_cases h1 : peekS p = sNot
  · have hr : (ris q 119 sNot).1 = true := by rw [← ht.1]; unfold takeS; rw [if_neg (by rw [h1]; simp)]
    have e : (takeS p sNot).2 = (nextS p).2 := by unfold takeS; rw [if_neg (by rw [h1]; simp)]
    rw [if_pos h1, hr]
    simp only [if_true]
    have ha := atom_rel ht.2
    rw [e] at ha
    rcases ha with ha | ⟨ha, hb⟩
    · exact .inl ha
    · exact .inr ⟨by simp only; rw [ha], hb⟩
  · have hr : (ris q 119 sNot).1 = false := by rw [← ht.1]; unfold takeS; rw [if_pos (by simpa using h1)]
    rw [if_neg h1, hr, hn]
    simp only [Bool.false_eq_true, if_false]
    have hpk := pred_kind (peekS p)
    by_cases h2 : (!(peekS p).isEmpty && lowB ((peekS p).headD 0)) = true
    · rw [if_pos h2]
      by_cases hp : predS (peekS p) = true
      · have hpd : (decide ((tkOf (peekS p)).kind = 119) && predS (tkOf (peekS p)).text) = true := by rw [pred_low hp]; simp [hp]
        rw [if_pos hpd]
        have ha := atom_rel h
        rcases ha with ha | ⟨ha, hb⟩
        · exact .inl ha
        · exact .inr ⟨by simp only; rw [ha], hb⟩
      · have hpd : ¬ ((decide ((tkOf (peekS p)).kind = 119) && predS (tkOf (peekS p)).text) = true) := by
          intro hx
          rw [Bool.and_eq_true, decide_eq_true_eq] at hx
          rw [tk_text hx.1] at hx
          exact hp hx.2
        rw [if_neg hpd]
        have hab : (atomP p).2.2 = true := by
          rcases atom_rel h with ha | ⟨ha, hb⟩
          · exact ha.1
          · have hx : (ratom q).2.2 = true := by
              unfold ratom
              rw [hn]
              simp only
              rw [Bool.not_eq_true] at hp
              rw [hp] at hpk
              rw [if_pos (by rw [Bool.not_false, Bool.or_eq_true] at hpk; simpa using hpk)]
            rw [hb.2.1] at hx; cases hx
        -- the reference reads an argument: a word that begins with a lower case letter is none
        have hrb : (rarg q).2.2 = true := by
          have hw : tkOf (peekS p) = ⟨119, peekS p⟩ := by
            rw [Bool.and_eq_true] at h2
            unfold tkOf
            rw [if_neg (by simpa using h2.1), h2.2]
            rfl
          unfold rarg
          rw [hn, hw]
          have : formedS ⟨1, peekS p, 0⟩ = false := by
            rw [Bool.and_eq_true] at h2
            have hu := (lowI_not h2.2).1
            unfold formedS varS eachS
            have : uppI ((((peekS p).headD 0).toNat : Nat) : Int) = false := hu
            simp only [this]
            simp
          simp [rargOf, this]
        rw [hrb]
        simp only [Bool.true_or, if_true]
        exact .inl ⟨hab, rfl⟩
    · rw [if_neg h2]
      have hpd : ¬ ((decide ((tkOf (peekS p)).kind = 119) && predS (tkOf (peekS p)).text) = true) := by
        intro hx
        rw [Bool.and_eq_true, decide_eq_true_eq] at hx
        rw [tk_text hx.1] at hx
        refine h2 ?_
        have hpp := hx.2
        cases hq : peekS p with
        | nil => rw [hq] at hpp; exact absurd hpp (by decide)
        | cons c r =>
          rw [hq] at hpp
          unfold predS eachS at hpp
          simp only [Bool.and_eq_true, List.headD_cons] at hpp
          have hl : lowB c = true := hpp.2.1.2
          simp [hl]
      rw [if_neg hpd]
      rcases arg_rel h with ⟨ha, hb⟩ | ⟨ha, hb⟩
      · have hx : (argP (nextS (argP p).2).2).2.2 = true := argP_bad (nextS_bad ha)
        rw [hb]
        simp only [Bool.true_or, if_true]
        exact .inl ⟨by rw [hx]; rfl, rfl⟩
      · have hn2 := hb.next
        have hpeek := hb.peek
        have hnx : (nextS (argP p).2).1 = peekS (argP p).2 := by
          unfold nextS; split
          · rename_i h0; cases hq : peekS (argP p).2 with | nil => rfl | cons a b => rw [hq] at h0; cases h0
          · rfl
        rw [hnx, hn2, hb.2.1]
        have hopk : ∀ s : Bs, opsL.contains s = true → tkOf s = ⟨115, s⟩ ∧ s.isEmpty = false ∧ compsS ⟨false, s, ⟨[], []⟩⟩ = true := by
          intro s hs
          have : s ∈ opsL := List.contains_iff_mem.1 hs
          have key : ∀ s ∈ opsL, tkOf s = ⟨115, s⟩ ∧ s.isEmpty = false ∧ compsS ⟨false, s, ⟨[], []⟩⟩ = true := by decide
          exact key s this
        have hfa : formedS (argP p).1 = true := argP_formed hb.1
        by_cases ho : opsL.contains (peekS (argP p).2) = true
        · have hk := hopk _ ho
          have e : nextS (argP p).2 = (peekS (argP p).2, ((argP p).2.1.drop 1, (argP p).2.2)) := by unfold nextS; rw [hk.2.1]; rfl
          rw [hk.1, e]
          rw [if_neg (by simp [List.contains_iff_mem.1 ho])]
          have hd := hb.drop
          have hdd : RS ((argP p).2.1.drop 1, (argP p).2.2) ((rarg q).2.1.drop 1, (rarg q).2.2) := hd
          have har := arg_rel hdd
          rw [hb.2.1] at har hd
          simp only
          have hop : opsL.contains (peekS (argP p).2) = true := ho
          have hcs : compsS ⟨false, peekS (argP p).2, ⟨[], [(argP p).1, (argP ((argP p).2.1.drop 1, (argP p).2.2)).1]⟩⟩ = true := hk.2.2
          have hls : (argP ((argP p).2.1.drop 1, (argP p).2.2)).2.2 = false → ltlS ⟨false, peekS (argP p).2, ⟨[], [(argP p).1, (argP ((argP p).2.1.drop 1, (argP p).2.2)).1]⟩⟩ = true := by
            intro hz
            have hf2 := argP_formed hz
            unfold ltlS
            rw [hcs]
            simp only [hop, hk.2.1, argsS, List.all_cons, List.all_nil, hfa, hf2]
            rfl
          rcases har with ⟨hc, hd2⟩ | ⟨hc, hd2⟩
          · exact .inl ⟨by rw [hc]; rfl, hd2⟩
          · right
            have hz := hd2.1
            refine ⟨by simp only; rw [ha, hc], ?_⟩
            rw [hls hz, hk.2.1, hz]
            exact ⟨rfl, hd2.2⟩
        · have hoc : opsL.contains (tkOf (peekS (argP p).2)).text = false ∨ (tkOf (peekS (argP p).2)).kind ≠ 115 := by
            by_cases hkk : (tkOf (peekS (argP p).2)).kind = 115
            · left
              have : (tkOf (peekS (argP p).2)).text = peekS (argP p).2 := by
                generalize peekS (argP p).2 = s at *
                unfold tkOf at hkk ⊢
                split
                · rename_i h0; rw [if_pos h0] at hkk; cases hkk
                · rename_i h0
                  rw [if_neg h0] at hkk
                  split
                  · rfl
                  · rename_i h1
                    rw [if_neg h1] at hkk
                    split
                    · rfl
                    · rename_i h2
                      rw [if_neg h2] at hkk
                      split
                      · rename_i h3; rw [if_pos h3] at hkk; cases hkk
                      · rfl
              rw [this]
              simpa using ho
            · exact .inr hkk
          rw [if_pos (by rcases hoc with h3 | h3; (rw [h3]; simp); simp [h3])]
          left
          refine ⟨?_, rfl⟩
          rw [Bool.not_eq_true] at ho
          cases hem : (peekS (argP p).2).isEmpty
          · have : ∀ x y, ltlS ⟨false, peekS (argP p).2, ⟨[], [x, y]⟩⟩ = false := by
              intro x y
              unfold ltlS compsS
              simp only [hem, ho]
              rfl
            simp [this]
          · simp
theorem moreL_bad (f : Nat) (p : KSt) (out : List Ltl) (h : p.2 = true) : moreL f p out = (out, p) := by
  cases f with
  | zero => rfl
  | succ f => rw [moreL, h]; rfl
theorem rmoreL_bad (f : Nat) (p : RSt) (out : List Ltl) (h : p.2 = true) : rmoreL f p out = (out, p) := by
  cases f with
  | zero => rfl
  | succ f => rw [rmoreL, h]; rfl
theorem moreL_rel (f : Nat) : ∀ (x : List Ltl × KSt) (y : List Ltl × RSt), RA x y → RA (moreL f x.2 x.1) (rmoreL f y.2 y.1) := by
  induction f with
  | zero => intro x y h; exact h
  | succ f ih =>
    intro x y h
    rcases h with ⟨h1, h2⟩ | ⟨h1, h2⟩
    · rw [moreL_bad _ _ _ h1, rmoreL_bad _ _ _ h2]
      exact .inl ⟨h1, h2⟩
    · have ht := take_rel h2 115 [44] (sy _ (by decide)) rfl
      rw [moreL, rmoreL, h2.1, h2.2.1, ← ht.1]
      cases hc : (takeS x.2 [44]).1
      · exact .inr ⟨h1, h2⟩
      · refine ih (_, _) (_, _) ?_
        rcases ltl_rel ht.2 with ha | ⟨ha, hb⟩
        · exact .inl ha
        · exact .inr ⟨by rw [h1]; simp only; rw [ha], hb⟩
theorem rule_rel {p : KSt} {q : RSt} (h : RS p q) : (ruleP p).2 = !(rrule q).2.2 ∧ ((ruleP p).2 = true → (ruleP p).1 = (rrule q).1) := by
  unfold ruleP rrule
  simp only
  rcases atom_rel h with ⟨h1, h2⟩ | ⟨h1, h2⟩
  · -- the head is wrong
    rw [h2]
    simp only [Bool.not_true, Bool.false_and, Bool.false_eq_true, if_false, if_true, h2]
    have hb : ∀ s : KSt, s.2 = true → ((takeS s [46]).1 && (takeS s [46]).2.1.isEmpty && !(takeS s [46]).2.2) = false := by
      intro s hs
      rw [takeS_bad _ hs]; simp
    have ht := takeS_bad [58, 45] h1
    split
    · rw [moreL_bad _ _ _ (ltlP_bad ht)]
      simp only
      rw [hb _ (ltlP_bad ht)]
      exact ⟨rfl, fun h => nomatch h⟩
    · simp only
      rw [hb _ ht]
      exact ⟨rfl, fun h => nomatch h⟩
  · have ht := take_rel h2 115 [58, 45] (sy _ (by decide)) rfl
    rw [h2.2.1, ← ht.1]
    simp only [Bool.not_false, Bool.true_and]
    have hm : RA (if (takeS (atomP p).2 [58, 45]).1 = true then moreL ((takeS (atomP p).2 [58, 45]).2.1.length + 1) (ltlP (takeS (atomP p).2 [58, 45]).2).2 [(ltlP (takeS (atomP p).2 [58, 45]).2).1] else ([], (takeS (atomP p).2 [58, 45]).2))
        (if (takeS (atomP p).2 [58, 45]).1 = true then rmoreL ((ris (ratom q).2 115 [58, 45]).2.1.length + 1) (rltl (ris (ratom q).2 115 [58, 45]).2).2 [(rltl (ris (ratom q).2 115 [58, 45]).2).1] else ([], (ratom q).2)) := by
      cases hc : (takeS (atomP p).2 [58, 45]).1
      · simp only [Bool.false_eq_true, if_false]
        have hr : (ris (ratom q).2 115 [58, 45]).2 = (ratom q).2 := by
          have : (ris (ratom q).2 115 [58, 45]).1 = false := by rw [← ht.1, hc]
          unfold ris at this ⊢
          split
          · rename_i hx; rw [if_pos hx] at this; cases this
          · rfl
        have := ht.2
        rw [hr] at this
        exact .inr ⟨rfl, this⟩
      · simp only [if_true]
        have hlen : (takeS (atomP p).2 [58, 45]).2.1.length = (ris (ratom q).2 115 [58, 45]).2.1.length := by rw [ht.2.2.2.1, List.length_map]
        rw [← hlen]
        refine moreL_rel _ (_, _) (_, _) ?_
        rcases ltl_rel ht.2 with ha | ⟨ha, hb⟩
        · exact .inl ha
        · exact .inr ⟨by simp only; rw [ha], hb⟩
    generalize (if (takeS (atomP p).2 [58, 45]).1 = true then moreL ((takeS (atomP p).2 [58, 45]).2.1.length + 1) (ltlP (takeS (atomP p).2 [58, 45]).2).2 [(ltlP (takeS (atomP p).2 [58, 45]).2).1] else ([], (takeS (atomP p).2 [58, 45]).2)) = m at *
    generalize (if (takeS (atomP p).2 [58, 45]).1 = true then rmoreL ((ris (ratom q).2 115 [58, 45]).2.1.length + 1) (rltl (ris (ratom q).2 115 [58, 45]).2).2 [(rltl (ris (ratom q).2 115 [58, 45]).2).1] else ([], (ratom q).2)) = n at *
    rcases hm with ⟨h3, h4⟩ | ⟨h3, h4⟩
    · rw [h4]
      simp only [if_true, h4]
      rw [takeS_bad _ h3]
      simp
    · have hd := take_rel h4 115 [46] (sy _ (by decide)) rfl
      rw [h4.2.1]
      simp only [Bool.false_eq_true, if_false]
      rw [← hd.1, ← h1, ← h3, hd.2.1]
      have hie : (ris n.2 115 [46]).2.1.isEmpty = (takeS m.2 [46]).2.1.isEmpty := by
        rw [hd.2.2.2.1]; cases (takeS m.2 [46]).2.1 <;> rfl
      rw [hie]
      refine ⟨by simp, fun _ => rfl⟩
theorem parseLine (line : Bs) : ((!(tokensS line).2 || !(ruleP ((tokensS line).1, false)).2) = (!(rtokS line).2 || (rrule ((rtokS line).1, false)).2.2)) ∧
    ((!(tokensS line).2 || !(ruleP ((tokensS line).1, false)).2) = false → (ruleP ((tokensS line).1, false)).1 = (rrule ((rtokS line).1, false)).1) := by
  have ht := rtokS_eq line
  have hr := rule_rel (p := ((tokensS line).1, false)) (q := ((rtokS line).1, false)) ⟨rfl, rfl, by rw [ht.1], ht.2⟩
  rw [hr.1, ht.1]
  refine ⟨by simp, fun h => ?_⟩
  rw [Bool.or_eq_false_iff] at h
  have h2 := hr.2 (by have := h.2; rw [ht.1] at hr; rw [hr.1]; simpa using this)
  rw [h2, ht.1]
theorem comm_eq (s : Bs) : commS s = ((trimS s).isEmpty || (trimS s).headD 0 == 37) := by
  induction s with
  | nil => rfl
  | cons c r ih =>
    rw [commS]
    by_cases h : (c == 32) = true
    · obtain rfl : c = 32 := by simpa using h
      rw [if_pos h, ih, trim_cons]
    · rw [Bool.not_eq_true] at h
      rw [if_neg (by rw [h]; simp), trim_else h]
      rfl
theorem parse_go (l m : List Bs) (h : l = m ∨ l = m ++ [[]]) (i : Nat) (out : List Rul) : parseGo l i out = rparseGo m i out := by
  induction m generalizing l i out with
  | nil =>
    rcases h with rfl | rfl
    · rfl
    · rfl
  | cons line r ih =>
    obtain ⟨l', rfl, hl'⟩ : ∃ l', l = line :: l' ∧ (l' = r ∨ l' = r ++ [[]]) := by
      rcases h with rfl | rfl
      · exact ⟨r, rfl, .inl rfl⟩
      · exact ⟨_, rfl, .inr rfl⟩
    have hp := parseLine line
    rw [parseGo, rparseGo, comm_eq, ih l' hl']
    simp only
    rw [hp.1]
    split
    · rfl
    · split
      · rfl
      · rename_i hx
        split
        · rfl
        · rw [ih l' hl', hp.2 (by rw [hp.1]; simpa using hx)]
theorem split_eq (s : Bs) : ∀ cur : Bs, splitGo cur s = rsplit cur s ∨ splitGo cur s = rsplit cur s ++ [[]] := by
  induction s with
  | nil =>
    intro cur
    rw [splitGo, rsplit]
    cases cur with
    | nil => right; rfl
    | cons a b => left; rfl
  | cons c r ih =>
    intro cur
    rw [splitGo, rsplit]
    split
    · rcases ih [] with h | h
      · left; rw [h]
      · right; rw [h]; rfl
    · exact ih _
theorem parse_eq (s : Bs) : parseS s = rparseS s := by
  unfold parseS rparseS splitS
  rw [parse_go _ (rsplit [] s) (split_eq s [])]
theorem parseAtom_eq (s : Bs) : parseAtomS s = rparseAtomS s := by
  unfold parseAtomS rparseAtomS
  have ht := rtokS_eq s
  have hr := atom_rel (p := ((tokensS s).1, false)) (q := ((rtokS s).1, false)) ⟨rfl, rfl, by rw [ht.1], ht.2⟩
  have h2 : (rtokS s).2 = (tokensS s).2 := by rw [ht.1]
  by_cases h4 : 4096 < s.length
  · simp [h4]
  · rw [if_neg h4]
    simp only
    rw [h2]
    cases hb : (tokensS s).2
    · simp
    · simp only [h4, decide_false, Bool.not_true, Bool.or_false, Bool.false_eq_true, if_false, Bool.false_or]
      rcases hr with ⟨h5, h6⟩ | ⟨h5, h6⟩
      · rw [h5, h6]; rfl
      · rw [h6.1, h6.2.1, h5, h6.2.2.1]
        cases (atomP ((tokensS s).1, false)).2.1 <;> simp
end Go.Proofs.YtjopmgoacncmgaaGreatDoor
