/- A part of the proofs of the laws of one package; see the law's own text, which comes last in 'order'. No conditions of its own. -/
import Derived.Test.YtpeamehplhpcjaaGreatDoorWC24
set_option linter.unusedVariables false
set_option linter.unusedSimpArgs false
namespace Go.Proofs.YtpeamehplhpcjaaGreatDoor
theorem dup_iff : ∀ (l b : List Bs), dupS b l = false ↔ l.Nodup ∧ ∀ x ∈ l, x ∉ b := by
  intro l
  induction l with
  | nil => intro b; simp [dupS]
  | cons p r ih =>
    intro b
    unfold dupS
    rw [Bool.or_eq_false_iff, ih, List.nodup_cons]
    constructor
    · rintro ⟨h1, h2, h3⟩
      have hp : p ∉ b := fun h => by rw [List.contains_iff_mem.2 h] at h1; cases h1
      refine ⟨⟨fun h => h3 p h (by simp), h2⟩, fun x hx => ?_⟩
      rcases List.mem_cons.1 hx with rfl | hx
      · exact hp
      · exact fun h => h3 x hx (by simp [h])
    · rintro ⟨⟨h1, h2⟩, h3⟩
      refine ⟨?_, h2, fun x hx h => ?_⟩
      · cases hc : b.contains p with
        | false => rfl
        | true => exact absurd (List.contains_iff_mem.1 hc) (h3 p (by simp))
      · rcases List.mem_append.1 h with h | h
        · exact h3 x (by simp [hx]) h
        · rw [List.mem_singleton.1 h] at hx; exact h1 hx
theorem start_rev (t : List Fil) (p : Bs) (fl : List Bs) : startS t p fl.reverse = startS t p fl := by
  have h1 : fl.reverse.any (fun f => !nameT f) = fl.any (fun f => !nameT f) := List.any_reverse
  have h2 : dupS [] fl.reverse = dupS [] fl := by
    have : ∀ l : List Bs, dupS [] l = true ↔ ¬ l.Nodup := by
      intro l
      have := dup_iff l []
      constructor
      · intro h hn
        rw [this.2 ⟨hn, fun _ _ h => by cases h⟩] at h
        cases h
      · intro h
        cases hd : dupS [] l with
        | true => rfl
        | false => exact absurd (this.1 hd).1 h
    have hr : fl.reverse.Nodup ↔ fl.Nodup := by
      unfold List.Nodup
      rw [List.pairwise_reverse]
      exact ⟨fun h => h.imp fun hab e => hab e.symm, fun h => h.imp fun hab e => hab e.symm⟩
    rw [Bool.eq_iff_iff, this, this, hr]
  unfold startS
  rw [h1, h2, List.length_reverse]
theorem rins_foldl (fl : List Bs) : ∀ l, Srt ltS l → Srt ltS (fl.foldl rins l) ∧ ∀ x, x ∈ fl.foldl rins l ↔ x ∈ fl ∨ x ∈ l := by
  induction fl with
  | nil => intro l h; exact ⟨h, fun x => by simp⟩
  | cons f r ih =>
    intro l h
    obtain ⟨h1, h2⟩ := rins_law f l h
    obtain ⟨h3, h4⟩ := ih _ h1
    refine ⟨h3, fun x => ?_⟩
    rw [List.foldl_cons, h4, h2, List.mem_cons]
    constructor
    · rintro (h | h | h)
      · exact .inl (.inr h)
      · exact .inl (.inl h)
      · exact .inr h
    · rintro ((h | h) | h)
      · exact .inr (.inl h)
      · exact .inl h
      · exact .inr (.inr h)
theorem scan_rev (t : List Fil) (p : Bs) (fl : List Bs) : scanS t p fl.reverse = scanS t p fl := by
  have h0 : rst0 fl.reverse = rst0 fl := by
    obtain ⟨h1, h2⟩ := rins_foldl fl.reverse [] List.Pairwise.nil
    obtain ⟨h3, h4⟩ := rins_foldl fl [] List.Pairwise.nil
    have : fl.reverse.foldl rins [] = fl.foldl rins [] := srt_unique strS h1 h3 (fun x => by rw [h2, h4]; simp)
    unfold rst0
    rw [this]
  rw [← scan_eq, ← scan_eq]
  unfold rscanS
  rw [start_rev, h0]
def addF (x : Bs) (s : Sst) : Sst := { s with flags := s.flags ++ [(x, true)] }
def NoX (x : Bs) (l : List Bs) : Prop := ∀ i, (parseH (l.getD i [])).1.name ≠ x
def GAdd (x : Bs) (g : Grp) : Prop := ∀ p l fr tu s, NoX x l → g p l fr tu (addF x s) = ((g p l fr tu s).1, addF x (g p l fr tu s).2)
def NAdd (x : Bs) (n : Option Grp) : Prop := ∀ g, n = some g → GAdd x g
section
variable {κ ν : Type} [DecidableEq κ]
theorem getM_app (m : List (κ × ν)) (x k : κ) (v : ν) (h : k ≠ x) : getM (m ++ [(x, v)]) k = getM m k := by
  unfold getM
  rw [List.find?_append]
  have hx : (x == k) = false := by simpa using fun e => h e.symm
  simp [List.find?, hx]
theorem delM_app (m : List (κ × ν)) (x k : κ) (v : ν) (h : k ≠ x) : delM (m ++ [(x, v)]) k = delM m k ++ [(x, v)] := by
  unfold delM
  rw [List.filter_append]
  have hx : (x != k) = true := by simpa using fun e => h e.symm
  simp [List.filter, hx]
end
theorem add_def (x : Bs) (s : Sst) (k : Bs) (h : k ≠ x) : definedS (addF x s) k = definedS s k := by
  unfold definedS addF
  simp only
  rw [getM_app _ _ _ _ h]
theorem add_file {x : Bs} {g : Grp} (hg : GAdd x g) (p : Bs) (l : List Bs) (s : Sst) (hl : NoX x l) : fileS g p l (addF x s) = ((fileS g p l s).1, addF x (fileS g p l s).2) := by
  have := hg p l 0 l.length { s with files := setM s.files p true, opn := s.opn ++ [p] } hl
  unfold fileS
  show ((g p l 0 l.length (addF x { s with files := setM s.files p true, opn := s.opn ++ [p] })).1, _) = _
  simp only
  have e : ({ addF x s with files := setM (addF x s).files p true, opn := (addF x s).opn ++ [p] } : Sst) = addF x { s with files := setM s.files p true, opn := s.opn ++ [p] } := rfl
  rw [e, this]
  rfl
def TNo (x : Bs) (t : List Fil) : Prop := ∀ q d, findT t q = some d → NoX x (linesS d).1
theorem add_incl {x : Bs} {t : List Fil} (ht : TNo x t) {nest : Option Grp} (hn : NAdd x nest) (p : Bs) (n : Int) (ref : Bs) (s : Sst) : inclS t nest p n ref (addF x s) = ((inclS t nest p n ref s).1, addF x (inclS t nest p n ref s).2) := by
  unfold inclS
  simp only
  have eo : (addF x s).opn = s.opn := rfl
  rw [eo]
  split
  · rfl
  · split
    · rfl
    · split
      · rfl
      · rename_i d hd
        split
        · rfl
        · split
          · rfl
          · rename_i g
            exact add_file (hn g rfl) _ _ _ (ht _ _ hd)
theorem add_item (x : Bs) (p : Bs) (n : Int) (y : Itm) (s : Sst) : itemS p n y (addF x s) = ((itemS p n y s).1, addF x (itemS p n y s).2) := by
  unfold itemS
  have e : (addF x s).items = s.items := rfl
  rw [e]
  split
  · rfl
  · split
    · rfl
    · rfl
theorem add_head {x : Bs} {t : List Fil} (ht : TNo x t) {nest : Option Grp} (hn : NAdd x nest) (p : Bs) {l : List Bs} (hl : NoX x l) (i : Nat) (h : Hd) (hh : h.name ≠ x) (s : Sst) : doHead t nest p l i h (addF x s) = ((doHead t nest p l i h s).1, addF x (doHead t nest p l i h s).2) := by
  unfold doHead
  simp only
  rw [add_def x s _ hh]
  have em : (addF x s).macros = s.macros := rfl
  rw [em]
  split
  · exact add_incl ht hn _ _ _ _
  · split
    · split
      · rfl
      · split
        · rfl
        · rfl
    · split
      · split
        · unfold addF
          simp only
          rw [delM_app _ _ _ _ hh]
        · rfl
      · split
        · split
          · rfl
          · split
            · rfl
            · rename_i g
              exact hn g rfl _ _ _ _ _ hl
        · split
          · exact add_item _ _ _ _ _
          · split
            · exact add_item _ _ _ _ _
            · split
              · exact add_item _ _ _ _ _
              · rfl
theorem add_loop {x : Bs} {t : List Fil} (ht : TNo x t) {nest : Option Grp} (hn : NAdd x nest) (p : Bs) {l : List Bs} (hl : NoX x l) (tu : Nat) : ∀ f i (s : Sst), loopS t nest p l tu f i (addF x s) = ((loopS t nest p l tu f i s).1, addF x (loopS t nest p l tu f i s).2) := by
  intro f
  induction f with
  | zero => intro i s; rfl
  | succ f ih =>
    intro i s
    unfold loopS
    have ec : (addF x s).count = s.count := rfl
    rw [ec]
    split
    · rfl
    · split
      · rfl
      · simp only
        split
        · rfl
        · split
          · rfl
          · have e : ({ addF x s with count := s.count + 1, heads := setM (addF x s).heads ⟨p, i⟩ true } : Sst) = addF x { s with count := s.count + 1, heads := setM s.heads ⟨p, i⟩ true } := rfl
            rw [e, add_head ht hn p hl i _ (hl i)]
            split
            · rfl
            · exact ih _ _
theorem add_group {x : Bs} {t : List Fil} (ht : TNo x t) : ∀ d, GAdd x (groupS t d) := by
  intro d
  induction d with
  | zero => intro p l fr tu s hl; exact add_loop ht (fun g hg => by cases hg) p hl tu _ _ s
  | succ d ih => intro p l fr tu s hl; exact add_loop ht (fun g hg => by injection hg with hg; subst hg; exact ih) p hl tu _ _ s
theorem split_infix (c : UInt8) : ∀ (s : Bs), ∀ y ∈ splitS c s, y <:+: s := by
  have key : ∀ (s : Bs), (∃ h r, splitS c s = h :: r ∧ h <+: s ∧ ∀ y ∈ r, y <:+: s) := by
    intro s
    induction s with
    | nil => exact ⟨[], [], rfl, List.prefix_refl _, fun y hy => by cases hy⟩
    | cons x r ih =>
      obtain ⟨h, q, e, h1, h2⟩ := ih
      unfold splitS
      split
      · refine ⟨[], splitS c r, rfl, List.nil_prefix, fun y hy => ?_⟩
        rw [e] at hy
        rcases List.mem_cons.1 hy with rfl | hy
        · exact (h1.isInfix).trans (List.suffix_cons x r).isInfix
        · exact (h2 y hy).trans (List.suffix_cons x r).isInfix
      · rw [e]
        exact ⟨x :: h, q, rfl, by simpa using h1, fun y hy => (h2 y hy).trans (List.suffix_cons x r).isInfix⟩
  intro s y hy
  obtain ⟨h, r, e, h1, h2⟩ := key s
  rw [e] at hy
  rcases List.mem_cons.1 hy with rfl | hy
  · exact h1.isInfix
  · exact h2 y hy
theorem mode_mem (w : List Bs) : ∀ y ∈ (modeS w).2, y ∈ w := by
  unfold modeS
  split
  · split
    · exact fun y hy => List.mem_cons_of_mem _ hy
    · exact fun y hy => hy
  · exact fun y hy => hy
theorem shape_name (w : List Bs) : (shapeS w).1.name = [] ∨ (shapeS w).1.name ∈ w := by
  have hm := mode_mem w
  unfold shapeS
  simp only
  split
  · rename_i a b r e
    have hb : b ∈ w := hm b (by rw [e]; simp)
    split
    · exact .inl rfl
    · split
      · exact .inr hb
      · split
        · exact .inl rfl
        · exact .inr hb
  · exact .inl rfl
theorem parse_name (s : Bs) : (parseH s).1.name = [] ∨ (parseH s).1.name <:+: s := by
  unfold parseH
  split
  · exact .inl rfl
  · simp only
    split
    · exact .inl rfl
    · split
      · exact .inl rfl
      · rcases shape_name (splitS 32 s) with h | h
        · exact .inl h
        · exact .inr (split_infix 32 s _ h)
theorem lines_infix (d : Bs) (i : Nat) : (linesS d).1.getD i [] <:+: d := by
  unfold linesS
  have h0 : ∀ l : List Bs, (∀ y ∈ l, y <:+: d) → l.getD i [] <:+: d := by
    intro l hl
    rw [List.getD_eq_getElem?_getD]
    cases h : l[i]? with
    | none => exact List.nil_infix
    | some y => exact hl y (List.mem_of_getElem? h)
  split
  · exact h0 _ (fun y hy => by cases hy)
  · split
    · exact h0 _ (fun y hy => by cases hy)
    · exact h0 _ (split_infix 10 d)
theorem tno {x : Bs} {t : List Fil} (hx : x ≠ []) (h : ∀ f ∈ t, ¬ x <:+: f.data) : TNo x t := by
  intro q d hd i e
  unfold findT at hd
  cases hf : t.find? (fun f => f.path == q) with
  | none => rw [hf] at hd; cases hd
  | some f =>
    rw [hf] at hd
    injection hd with hd
    have hm := List.mem_of_find?_eq_some hf
    rcases parse_name ((linesS d).1.getD i []) with h1 | h1
    · exact hx (e.symm.trans h1)
    · rw [e] at h1
      exact h f hm (by rw [show f.data = d from hd]; exact h1.trans (lines_infix d i))
theorem st0_add (fl : List Bs) (x : Bs) (h : x ∉ fl) : st0 (fl ++ [x]) = addF x (st0 fl) := by
  unfold st0 addF
  simp only [List.foldl_append, List.foldl_cons, List.foldl_nil]
  rw [setM_new]
  have : ∀ (fl : List Bs) (m : List (Bs × Bool)), x ∉ fl → x ∉ m.map (·.1) → x ∉ (fl.foldl (fun m f => setM m f true) m).map (·.1) := by
    intro fl
    induction fl with
    | nil => intro m _ h; exact h
    | cons f r ih =>
      intro m h1 h2
      refine ih _ (fun h => h1 (List.mem_cons_of_mem _ h)) fun h => ?_
      rcases (keys_setM _ _ _ _).1 h with h | h
      · exact h1 (by rw [h]; simp)
      · exact h2 h
  exact this fl [] h (fun h => by cases h)
theorem st0_keys (fl : List Bs) : ∀ q ∈ (st0 fl).flags, q.1 ∈ fl := by
  have : ∀ (fl : List Bs) (m : List (Bs × Bool)), ∀ q ∈ fl.foldl (fun m f => setM m f true) m, q.1 ∈ fl ∨ q ∈ m := by
    intro fl
    induction fl with
    | nil => intro m q h; exact .inr h
    | cons f r ih =>
      intro m q h
      rcases ih _ q h with h | h
      · exact .inl (List.mem_cons_of_mem _ h)
      · rcases mem_setM _ _ _ _ h with rfl | h
        · exact .inl (by simp)
        · exact .inr h
  intro q hq
  rcases this fl [] q hq with h | h
  · exact h
  · cases h
theorem flags_sub (t : List Fil) (fl : List Bs) (p : Bs) (l : List Bs) {ok : Bool} {s2 : Sst} (h : fileS (groupS t 24) p l (st0 fl) = (ok, s2)) : ∀ x ∈ s2.flags.map (·.1), x ∈ fl := by
  intro x hx
  obtain ⟨q, hq, rfl⟩ := List.mem_map.1 hx
  have := (keep_file (keep_group t 24) p l (s := st0 fl) ⟨Nat.zero_le _, Nat.zero_le _, Nat.zero_le _⟩).2.2
  rw [h] at this
  exact st0_keys fl q (this q hq)
theorem start_add (t : List Fil) (p : Bs) (fl : List Bs) (x : Bs) (h : x ∉ fl) (hl : fl.length ≤ 20) (h0 : (startS t p fl).2.2 = 0) : startS t p (fl ++ [x]) = if nameT x then startS t p fl else ([], ⟨[], -1⟩, 2) := by
  unfold startS at h0 ⊢
  split at h0
  · cases h0
  · rename_i n1
    rw [if_neg n1, if_neg n1]
    split at h0
    · cases h0
    · rename_i n2
      rw [if_neg n2]
      split at h0
      · cases h0
      · rename_i n3
        rw [if_neg n3]
        rw [List.any_append]
        simp only [Bool.or_eq_true, not_or, Bool.not_eq_true] at n2
        obtain ⟨⟨m1, m2⟩, m3⟩ := n2
        rw [m1, m2, m3]
        cases hx : nameT x with
        | false => simp [hx]
        | true =>
          have hd : dupS [] (fl ++ [x]) = false := by
            have := (dup_iff fl []).1 (by simpa using n3)
            rw [dup_iff]
            refine ⟨?_, fun _ _ h => by cases h⟩
            rw [List.nodup_append]
            refine ⟨this.1, by simp, fun a ha b hb e => h ?_⟩
            rw [List.mem_singleton] at hb
            rw [← hb, ← e]; exact ha
          simp only [List.any_cons, List.any_nil, hx, Bool.not_true, Bool.or_false, Bool.false_eq_true, if_false, if_true, hd, List.length_append, List.length_cons, List.length_nil]
          rw [if_neg (by omega), if_neg (by omega)]
theorem flag_law {t : List Fil} {p : Bs} {fl : List Bs} {x : Bs} {u : Unt} {f : Flt} (h : scanS t p fl = (u, f)) (hf0 : f.err = 0) (hx : x ∉ fl) (hx0 : x ≠ []) (hl : fl.length ≤ 20) (hd : ∀ f ∈ t, ¬ x <:+: f.data) :
    (scanS t p (fl.reverse ++ [x])).2.err = 2 ∨ ((scanS t p (fl.reverse ++ [x])).2.err = 0 ∧ { (scanS t p (fl.reverse ++ [x])).1 with flags := (scanS t p (fl.reverse ++ [x])).1.flags.filter (fun s => !decide (s = x)) } = u) := by
  rw [← scan_rev] at h
  have hx' : x ∉ fl.reverse := by simpa using hx
  have hl' : fl.reverse.length ≤ 20 := by simpa using hl
  generalize fl.reverse = fl at *
  clear hx hl
  unfold scanS at h
  simp only at h
  by_cases hb : (startS t p fl).2.2 ≠ 0
  · rw [if_pos hb] at h
    injection h with _ h
    rw [← h] at hf0
    exact absurd hf0 hb
  · rw [if_neg hb] at h
    have hb0 : (startS t p fl).2.2 = 0 := by omega
    have hs := start_add t p fl x hx' hl' hb0
    cases hn : nameT x with
    | false =>
      left
      rw [hn] at hs
      unfold scanS
      rw [hs]
      rfl
    | true =>
      right
      rw [hn, if_pos rfl] at hs
      have hst : ∃ d, findT t p = some d ∧ (startS t p fl).1 = (linesS d).1 := by
        unfold startS at hb0 ⊢
        split at hb0; cases hb0
        rename_i n1
        split at hb0; cases hb0
        rename_i n2
        split at hb0; cases hb0
        rename_i n3
        split at hb0; cases hb0
        rename_i n4
        rw [if_neg n1, if_neg n2, if_neg n3, if_neg n4]
        clear n1 n2 n3 n4
        cases hf : findT t p with
        | none => rw [hf] at hb0; cases hb0
        | some d => exact ⟨d, rfl, rfl⟩
      obtain ⟨d, d1, d2⟩ := hst
      have hno := tno hx0 hd
      have hrun := add_file (add_group hno 24) p (startS t p fl).1 (st0 fl) (by rw [d2]; exact hno p d d1)
      rw [← st0_add fl x hx'] at hrun
      have hadd : scanS t p (fl ++ [x]) = if !(fileS (groupS t 24) p (startS t p fl).1 (st0 fl)).1 then (unt0, (fileS (groupS t 24) p (startS t p fl).1 (st0 fl)).2.fault) else (untS p (addF x (fileS (groupS t 24) p (startS t p fl).1 (st0 fl)).2), flt0) := by
        unfold scanS
        simp only
        rw [hs, if_neg hb, hrun]
        rfl
      rw [hadd]
      cases hr : fileS (groupS t 24) p (startS t p fl).1 (st0 fl) with
      | mk ok s2 =>
        rw [hr] at h
        cases ok with
        | false =>
          simp only [Bool.not_false, if_true] at h
          injection h with _ h
          rw [← h] at hf0
          exact absurd hf0 (run_err t p _ fl hr)
        | true =>
          simp only [Bool.not_true, Bool.false_eq_true, if_false] at h ⊢
          refine ⟨rfl, ?_⟩
          rw [← (Prod.mk.inj h).1]
          unfold untS addF
          simp only [Unt.mk.injEq, and_true, true_and]
          -- the names of the flags
          have hnx : x ∉ s2.flags.map (·.1) := by
            have hk := flags_sub t fl p (startS t p fl).1 hr
            exact fun hm => hx' (hk x hm)
          obtain ⟨a1, a2⟩ := sortG_law strS ((s2.flags ++ [(x, true)]).map (·.1)) (fun a _ b _ => ltS_tot b a)
          obtain ⟨b1, b2⟩ := sortG_law strS (s2.flags.map (·.1)) (fun a _ b _ => ltS_tot b a)
          refine srt_unique strS (List.Pairwise.filter _ a1) b1 (fun y => ?_)
          rw [List.mem_filter, a2, b2, List.map_append, List.mem_append]
          simp only [List.map_cons, List.map_nil, List.mem_singleton, Bool.not_eq_true', decide_eq_false_iff_not]
          constructor
          · rintro ⟨h1 | h1, h2⟩
            · exact h1
            · exact absurd h1 h2
          · intro h1
            exact ⟨.inl h1, fun e => hnx (e ▸ h1)⟩
end Go.Proofs.YtpeamehplhpcjaaGreatDoor
