/- A part of the proofs of the laws of one package; see the law's own text, which comes last in 'order'. No conditions of its own. -/
import Derived.Test.YtpeamehplhpcjaaGreatDoorZ13
set_option linter.unusedVariables false
set_option linter.unusedSimpArgs false
namespace Go.Proofs.YtpeamehplhpcjaaGreatDoor
def Res (a : Bool × Sst) (b : Flt × Rst) : Prop := (a.1 = true ∧ b.1.err = 0 ∧ Agr a.2 b.2) ∨ (a.1 = false ∧ b.1.err ≠ 0 ∧ a.2.fault = b.1)
theorem res_ok {s : Sst} {r : Rst} {f : Flt} (h : f.err = 0) (ha : Agr s r) : Res (true, s) (f, r) := .inl ⟨rfl, h, ha⟩
theorem res_fail {s : Sst} {r : Rst} {p : Bs} {n e : Int} (h : e ≠ 0) : Res (failS s p n e) (rflt e p n, r) := .inr ⟨rfl, h, rfl⟩
theorem defined_agr {s : Sst} {r : Rst} (h : Agr s r) (x : Bs) : rdefined r x = definedS s x := by
  rw [Bool.eq_iff_iff]
  unfold rdefined definedS
  rw [Bool.or_eq_true, Bool.or_eq_true, hasM_iff, getM_true _ _ h.ft, List.any_eq_true, List.contains_iff_mem, h.fl.2]
  constructor
  · rintro (h1 | ⟨m, hm, he⟩)
    · exact .inr h1
    · obtain ⟨p, hp, rfl⟩ := List.mem_map.1 ((h.ma.2 m).1 hm)
      left
      rw [List.mem_map]
      exact ⟨p, hp, (h.mky p hp).trans (by simpa using he)⟩
  · rintro (h1 | h1)
    · obtain ⟨p, hp, rfl⟩ := List.mem_map.1 h1
      exact .inr ⟨p.2, (h.ma.2 _).2 (List.mem_map.2 ⟨p, hp, rfl⟩), by simp [h.mky p hp]⟩
    · exact .inl h1
theorem srt_nodup {α : Type} {lt : α → α → Bool} (hs : Strict lt) {l : List α} (h : Srt lt l) : l.Nodup := by
  unfold List.Nodup
  exact h.imp fun {a b} hab e => by subst e; rw [hs.irr] at hab; cases hab
theorem nodup_len {α : Type} [DecidableEq α] {l m : List α} (hl : l.Nodup) (hm : m.Nodup) (h : ∀ x, x ∈ l ↔ x ∈ m) : l.length = m.length := by
  have key : ∀ {l m : List α}, l.Nodup → (∀ x, x ∈ l → x ∈ m) → l.length ≤ m.length := by
    intro l
    induction l with
    | nil => intro m _ _; simp
    | cons a r ih =>
      intro m hn hs
      rw [List.nodup_cons] at hn
      have ha : a ∈ m := hs a (by simp)
      have := ih (m := m.erase a) hn.2 fun x hx => (List.mem_erase_of_ne (fun e => by subst e; exact hn.1 hx)).2 (hs x (List.mem_cons_of_mem _ hx))
      rw [List.length_erase_of_mem ha] at this
      have hp : 0 < m.length := List.length_pos_of_mem ha
      simp only [List.length_cons]
      omega
  exact Nat.le_antisymm (key hl fun x hx => (h x).1 hx) (key hm fun x hx => (h x).2 hx)
theorem vals_nodup {m : List (Bs × Mac)} (hk : ∀ p ∈ m, p.1 = p.2.name) (hn : (m.map (·.1)).Nodup) : (m.map (·.2)).Nodup := by
  have e : m.map (·.1) = (m.map (·.2)).map (·.name) := by
    rw [List.map_map]
    exact List.map_congr_left fun p hp => hk p hp
  rw [e] at hn
  unfold List.Nodup at hn ⊢
  rw [List.pairwise_map] at hn
  exact hn.imp fun h e => h (by rw [e])
theorem macros_len {s : Sst} {r : Rst} (h : Agr s r) : r.macros.length = s.macros.length := by
  have := nodup_len (srt_nodup strMac h.ma.1) (vals_nodup h.mky h.mn) h.ma.2
  rw [this, List.length_map]
theorem Agr.head {s : Sst} {r : Rst} (h : Agr s r) (p : Bs) (i : Int) (hc : s.count < 2048) :
    Agr { s with count := s.count + 1, heads := setM s.heads ⟨p, i⟩ true } { r with count := r.count + 1, heads := addR r.heads ⟨p, i, i + 1⟩ false } := by
  obtain ⟨h1, h2⟩ := addR_law r.heads ⟨p, i, i + 1⟩ h.he.1 (by show i < i + 1; omega)
  refine ⟨h.fl, h.ft, h.fn, h.ma, h.mky, h.mn, h.it, ⟨h1, fun x => ?_⟩, h.fi, h.op, by show r.count + 1 = s.count + 1; rw [h.co], h.ml, h.il, hc⟩
  show inL (addR r.heads ⟨p, i, i + 1⟩ false) x ↔ x ∈ (setM s.heads ⟨p, i⟩ true).map (·.1)
  rw [h2, keys_setM, h.he.2, inSp_line, or_comm]
theorem define_agr {s : Sst} {r : Rst} (h : Agr s r) (p : Bs) (i : Int) (m : Mac) :
    Res (if definedS s m.name then failS s p i 6 else if s.macros.length = 128 then failS s p i 10 else (true, { s with macros := setM s.macros m.name m }))
      (if (rdefine r m).2 ≠ 0 then (rflt (rdefine r m).2 p i, (rdefine r m).1) else (flt0, (rdefine r m).1)) := by
  have hml := h.ml
  unfold rdefine
  rw [defined_agr h]
  cases hd : definedS s m.name with
  | true => simp only [if_true]; exact res_fail (by decide)
  | false =>
    simp only [Bool.false_eq_true, if_false]
    rw [macros_len h]
    by_cases h1 : s.macros.length = 128
    · rw [if_pos h1, if_pos (show 128 ≤ s.macros.length by omega)]
      exact res_fail (e := 10) (by decide)
    · skip
      · skip
        rw [if_neg h1, if_neg (show ¬ 128 ≤ s.macros.length by omega)]
        simp only [ne_eq, not_true_eq_false, if_false]
        have hnew : m.name ∉ s.macros.map (·.1) := fun hm => by
          have := (hasM_iff s.macros m.name).2 hm
          unfold definedS at hd
          rw [this] at hd
          cases hd
        have hne : ∀ x ∈ r.macros, x.name ≠ m.name := fun x hx e => by
          obtain ⟨q, hq, rfl⟩ := List.mem_map.1 ((h.ma.2 x).1 hx)
          exact hnew (List.mem_map.2 ⟨q, hq, by rw [h.mky q hq]; exact e⟩)
        refine res_ok rfl ⟨h.fl, h.ft, h.fn, ⟨?_, fun x => ?_⟩, fun q hq => ?_, nodup_setM _ _ _ h.mn, h.it, h.he, h.fi, h.op, h.co, Nat.le_trans (len_setM _ _ _) (by have := h.ml; omega), h.il, h.cb⟩
        · show List.Pairwise _ (r.macros.filter _ ++ [m] ++ r.macros.filter _)
          rw [List.pairwise_append, List.pairwise_append]
          refine ⟨⟨h.ma.1.sublist List.filter_sublist, List.pairwise_singleton _ _, fun a ha b hb => ?_⟩, h.ma.1.sublist List.filter_sublist, fun a ha b hb => ?_⟩
          · rw [List.mem_singleton.1 hb]
            exact (List.mem_filter.1 ha).2
          · have hb' := (List.mem_filter.1 hb).2
            rcases List.mem_append.1 ha with ha | ha
            · exact ltS_trans _ _ _ (List.mem_filter.1 ha).2 hb'
            · rw [List.mem_singleton.1 ha]; exact hb'
        · show x ∈ r.macros.filter _ ++ [m] ++ r.macros.filter _ ↔ x ∈ (setM s.macros m.name m).map (·.2)
          rw [setM_new _ _ _ hnew, List.map_append, List.mem_append, List.mem_append, List.mem_append, List.mem_filter, List.mem_filter, ← h.ma.2]
          simp only [List.mem_singleton, List.map_cons, List.map_nil]
          constructor
          · rintro ((⟨h1, _⟩ | h1) | ⟨h1, _⟩)
            · exact .inl h1
            · exact .inr h1
            · exact .inl h1
          · rintro (h1 | h1)
            · rcases ltS_tot x.name m.name with h2 | h2 | h2
              · exact .inl (.inl ⟨h1, h2⟩)
              · exact absurd h2 (hne x h1)
              · exact .inr ⟨h1, h2⟩
            · exact .inl (.inr h1)
        · rcases mem_setM _ _ _ _ hq with e | e
          · rw [e]
          · exact h.mky q e
theorem undef_agr {s : Sst} {r : Rst} (h : Agr s r) (p : Bs) (i : Int) (x : Bs) :
    Res (if definedS s x then (true, { s with macros := delM s.macros x, flags := delM s.flags x }) else failS s p i 7)
      (if (rundef r x).2 ≠ 0 then (rflt (rundef r x).2 p i, (rundef r x).1) else (flt0, (rundef r x).1)) := by
  unfold rundef
  rw [defined_agr h]
  cases hd : definedS s x with
  | false => simp only [Bool.not_false, if_true, Bool.false_eq_true, if_false]; exact res_fail (by decide)
  | true =>
    simp only [Bool.not_true, Bool.false_eq_true, if_false, if_true, ne_eq, not_true_eq_false]
    refine res_ok rfl ⟨⟨h.fl.1.sublist List.filter_sublist, fun y => ?_⟩, fun q hq => h.ft q (List.mem_filter.1 hq).1, nodup_delM _ _ h.fn, ⟨h.ma.1.sublist List.filter_sublist, fun y => ?_⟩, fun q hq => h.mky q (List.mem_filter.1 hq).1, nodup_delM _ _ h.mn, h.it, h.he, h.fi, h.op, h.co, Nat.le_trans (List.length_filter_le _ _) h.ml, h.il, h.cb⟩
    · show y ∈ r.flags.filter _ ↔ y ∈ (delM s.flags x).map (·.1)
      rw [List.mem_filter, keys_delM, h.fl.2, bne_iff_ne]
    · show y ∈ r.macros.filter _ ↔ y ∈ (delM s.macros x).map (·.2)
      rw [List.mem_filter, h.ma.2, List.mem_map, List.mem_map]
      unfold delM
      constructor
      · rintro ⟨⟨q, hq, rfl⟩, hn⟩
        exact ⟨q, List.mem_filter.2 ⟨hq, by rw [h.mky q hq]; simpa using hn⟩, rfl⟩
      · rintro ⟨q, hq, rfl⟩
        obtain ⟨hq, hn⟩ := List.mem_filter.1 hq
        exact ⟨⟨q, hq, rfl⟩, by rw [h.mky q hq] at hn; simpa using hn⟩
theorem item_agr {s : Sst} {r : Rst} (h : Agr s r) (p : Bs) (i : Int) (x : Itm) :
    Res (itemS p i x s) (if (ritem r x).2 ≠ 0 then (rflt (ritem r x).2 p i, (ritem r x).1) else (flt0, (ritem r x).1)) := by
  have hil := h.il
  unfold itemS ritem
  rw [h.it]
  cases hd : s.items.any (fun y => y.name == x.name) with
  | true => simp only [if_true]; exact res_fail (by decide)
  | false =>
    simp only [Bool.false_eq_true, if_false]
    by_cases h1 : s.items.length = 128
    · rw [if_pos h1, if_pos (show 128 ≤ s.items.length by omega)]; exact res_fail (e := 10) (by decide)
    · skip
      · skip
        rw [if_neg h1, if_neg (show ¬ 128 ≤ s.items.length by omega)]
        simp only [ne_eq, not_true_eq_false, if_false]
        exact res_ok rfl ⟨h.fl, h.ft, h.fn, h.ma, h.mky, h.mn, rfl, h.he, h.fi, h.op, h.co, h.ml, by show (s.items ++ [x]).length ≤ 128; simp; have := h.il; omega, h.cb⟩
theorem parse_ok {l : Bs} (h : (parseH l).2 = 0) : 0 ≤ (parseH l).1.n ∧ ((parseH l).1.word = 7 ∨ (parseH l).1.word = 9 → (parseH l).1.params = []) := by
  have key : ∀ w : List Bs, (shapeS w).2 = true → 0 ≤ (shapeS w).1.n ∧ ((shapeS w).1.word = 7 ∨ (shapeS w).1.word = 9 → (shapeS w).1.params = []) := by
    intro w hw
    unfold shapeS at *
    simp only at *
    generalize modeS w = m at *
    obtain ⟨mo, w⟩ := m
    simp only at *
    match w, hw with
    | [], hw => cases hw
    | [_], hw => cases hw
    | a :: b :: r, hw =>
      simp only at *
      generalize wordS a = k at *
      by_cases h1 : k < 1
      · rw [if_pos h1] at hw; cases hw
      · rw [if_neg h1] at hw ⊢
        by_cases h2 : k = 1 ∨ k = 3 ∨ k = 7
        · rw [if_pos h2]; exact ⟨Int.le_refl _, fun _ => rfl⟩
        · rw [if_neg h2] at hw ⊢
          by_cases h3 : k = 6
          · rw [if_pos h3] at hw ⊢
            simp only [Bool.and_eq_true, decide_eq_true_eq] at hw
            exact ⟨hw.2, fun h => by simp only at h; omega⟩
          · rw [if_neg h3] at hw ⊢
            simp only [Bool.and_eq_true, Bool.or_eq_true, decide_eq_true_eq] at hw
            refine ⟨hw.1.2, fun h => ?_⟩
            simp only at h ⊢
            have : r.length = 1 := by
              rcases hw.2 with e | e
              · omega
              · exact e
            rw [this]
            rfl
  unfold parseH at *
  by_cases h1 : l.isEmpty
  · rw [if_pos h1]
    exact ⟨Int.le_refl _, fun _ => rfl⟩
  · rw [if_neg h1] at h ⊢
    simp only at h ⊢
    by_cases h2 : (!(shapeS (splitS 32 l)).2 || (splitS 32 l).contains []) = true
    · rw [if_pos h2] at h; cases h
    · rw [if_neg h2] at h ⊢
      by_cases h3 : headE (shapeS (splitS 32 l)).1 ≠ 0
      · rw [if_pos h3] at h; exact absurd h h3
      · rw [if_neg h3]
        have : (shapeS (splitS 32 l)).2 = true := by
          cases e : (shapeS (splitS 32 l)).2 with
          | true => rfl
          | false => rw [e] at h2; simp at h2
        exact key _ this
def GAgr (g : Grp) (rg : RGrp) : Prop := ∀ p lines fr tu s r, Agr s r → Res (g p lines fr tu s) (rg p lines fr tu r)
def NAgr : Option Grp → Option RGrp → Prop
  | none, none => True
  | some g, some rg => GAgr g rg
  | _, _ => False
theorem Agr.opened {s : Sst} {r : Rst} (h : Agr s r) (p : Bs) : Agr { s with files := setM s.files p true, opn := s.opn ++ [p] } { r with files := rins r.files p, opn := r.opn ++ [p] } := by
  obtain ⟨h1, h2⟩ := rins_law p r.files h.fi.1
  refine ⟨h.fl, h.ft, h.fn, h.ma, h.mky, h.mn, h.it, h.he, ⟨h1, fun x => ?_⟩, by show r.opn ++ [p] = s.opn ++ [p]; rw [h.op], h.co, h.ml, h.il, h.cb⟩
  show x ∈ rins r.files p ↔ x ∈ (setM s.files p true).map (·.1)
  rw [h2, keys_setM, h.fi.2]
theorem file_agr {g : Grp} {rg : RGrp} (hg : GAgr g rg) (p : Bs) (lines : List Bs) {s : Sst} {r : Rst} (h : Agr s r) : Res (fileS g p lines s) (rfile rg p lines r) := by
  unfold fileS rfile
  simp only
  rcases hg p lines 0 lines.length _ _ (h.opened p) with ⟨h1, h2, h3⟩ | ⟨h1, h2, h3⟩
  · refine .inl ⟨h1, h2, ⟨h3.fl, h3.ft, h3.fn, h3.ma, h3.mky, h3.mn, h3.it, h3.he, h3.fi, ?_, h3.co, h3.ml, h3.il, h3.cb⟩⟩
    show List.take _ _ = List.take _ _
    rw [h3.op]
  · exact .inr ⟨h1, h2, h3⟩
theorem incl_agr (t : List Fil) {nest : Option Grp} {rnest : Option RGrp} (hn : NAgr nest rnest) (p : Bs) (i : Int) (ref : Bs) {s : Sst} {r : Rst} (h : Agr s r) :
    Res (inclS t nest p i ref s) (if (rincl t rnest.isNone p ref r).2.2 ≠ 0 then (rflt (rincl t rnest.isNone p ref r).2.2 p i, r) else rgo rnest (rincl t rnest.isNone p ref r).1 (rincl t rnest.isNone p ref r).2.1 r) := by
  unfold inclS rincl
  simp only
  rw [h.op]
  by_cases h1 : (refS ((splitS 47 p).headD []) ref).2 ≠ 0
  · rw [if_pos h1, if_pos h1, if_pos h1]
    exact res_fail h1
  · rw [if_neg h1, if_neg h1]
    by_cases h2 : s.opn.contains (refS ((splitS 47 p).headD []) ref).1 = true
    · rw [if_pos h2, if_pos h2]
      exact res_fail (e := 12) (by decide)
    · rw [if_neg h2, if_neg h2]
      cases hf : findT t (refS ((splitS 47 p).headD []) ref).1 with
      | none => exact res_fail (e := 7) (by decide)
      | some d =>
        simp only
        by_cases h3 : (linesS d).2 ≠ 0
        · rw [if_pos h3, if_pos h3, if_pos h3]
          exact res_fail h3
        · rw [if_neg h3, if_neg h3]
          match nest, rnest, hn with
          | none, none, _ => exact res_fail (e := 11) (by decide)
          | some g, some rg, hg => exact file_agr hg _ _ h
theorem loop_agr (t : List Fil) {nest : Option Grp} {rnest : Option RGrp} (hn : NAgr nest rnest) (p : Bs) (lines : List Bs) (tu : Nat) : ∀ (f i : Nat) (s : Sst) (r : Rst), Agr s r → Res (loopS t nest p lines tu f i s) (rloop t rnest p lines tu f i r) := by
  intro f
  induction f with
  | zero => intro i s r h; exact res_ok rfl h
  | succ f ih =>
    intro i s r h
    unfold loopS rloop
    by_cases h0 : tu ≤ i
    · rw [if_pos h0, if_pos h0]; exact res_ok rfl h
    · rw [if_neg h0, if_neg h0, h.co]
      have hcb := h.cb
      by_cases hc : s.count = 2048
      · rw [if_pos hc, if_pos (show 2048 ≤ s.count by omega)]
        exact res_fail (e := 10) (by decide)
      · rw [if_neg hc, if_neg (show ¬ 2048 ≤ s.count by omega)]
        simp only
        have hh := h.head p i (by omega)
        rw [h.co] at hh
        by_cases he : (parseH (lines.getD i [])).2 = 0
        · obtain ⟨hn0, hpar⟩ := parse_ok he
          rw [he]
          simp only [ne_eq, not_true_eq_false, if_false, true_and]
          generalize (parseH (lines.getD i [])).1 = hd at *
          by_cases hs : (tu : Int) - i - 1 < hd.n
          · rw [if_pos hs, if_pos (show (tu : Int) < i + 1 + hd.n by omega)]
            exact res_fail (e := 13) (by decide)
          · rw [if_neg hs, if_neg (show ¬ (tu : Int) < i + 1 + hd.n by omega)]
            simp only [not_true_eq_false, if_false]
            have hstep : Res (doHead t nest p lines i hd { s with count := s.count + 1, heads := setM s.heads ⟨p, i⟩ true }) (rhead t rnest p lines i hd { r with count := s.count + 1, heads := addR r.heads ⟨p, i, (i : Int) + 1⟩ false }) := by
              generalize ({ s with count := s.count + 1, heads := setM s.heads ⟨p, i⟩ true } : Sst) = s1 at *
              generalize ({ r with count := s.count + 1, heads := addR r.heads ⟨p, i, (i : Int) + 1⟩ false } : Rst) = r1 at *
              unfold doHead rhead
              simp only
              by_cases h1 : hd.word = 1
              · rw [if_pos h1, if_pos h1]; exact incl_agr t hn p i hd.name hh
              · rw [if_neg h1, if_neg h1]
                by_cases h2 : hd.word = 2
                · rw [if_pos h2, if_pos h2]; exact define_agr hh p i ⟨hd.name, hd.params, _⟩
                · rw [if_neg h2, if_neg h2]
                  by_cases h3 : hd.word = 3
                  · rw [if_pos h3, if_pos h3]; exact undef_agr hh p i hd.name
                  · rw [if_neg h3, if_neg h3]
                    by_cases h4 : hd.word = 4 ∨ hd.word = 5
                    · rw [if_pos h4, if_pos h4, defined_agr hh]
                      cases hq : (definedS s1 hd.name == decide (hd.word = 4)) with
                      | false =>
                        have : (definedS s1 hd.name != decide (hd.word = 4)) = true := by unfold bne; rw [hq]; rfl
                        rw [this]
                        simp only [if_true, Bool.false_eq_true, if_false]
                        exact res_ok rfl hh
                      | true =>
                        have : (definedS s1 hd.name != decide (hd.word = 4)) = false := by unfold bne; rw [hq]; rfl
                        rw [this]
                        simp only [if_true, Bool.false_eq_true, if_false]
                        match nest, rnest, hn with
                        | none, none, _ => exact res_fail (e := 11) (by decide)
                        | some g, some rg, hg => exact hg _ _ _ _ _ _ hh
                    · rw [if_neg h4, if_neg h4]
                      by_cases h7 : hd.word = 7
                      · rw [if_pos h7, if_pos h7, hpar (.inl h7)]; exact item_agr hh p i _
                      · rw [if_neg h7, if_neg h7]
                        by_cases h8 : hd.word = 8
                        · rw [if_pos h8, if_pos h8]; exact item_agr hh p i _
                        · rw [if_neg h8, if_neg h8]
                          by_cases h9 : hd.word = 9
                          · rw [if_pos h9, if_pos h9, hpar (.inr h9)]; exact item_agr hh p i _
                          · rw [if_neg h9, if_neg h9]; exact res_ok rfl hh
            rcases hstep with ⟨a1, a2, a3⟩ | ⟨a1, a2, a3⟩
            · rw [a1, a2]
              simp only [Bool.not_true, Bool.false_eq_true, if_false, not_true_eq_false]
              exact ih _ _ _ a3
            · rw [a1, if_pos a2]
              simp only [Bool.not_false, if_true]
              exact .inr ⟨rfl, a2, a3⟩
        · have hee : (if (parseH (lines.getD i [])).2 = 0 ∧ (tu : Int) < (i : Int) + 1 + (parseH (lines.getD i [])).1.n then (13 : Int) else (parseH (lines.getD i [])).2) = (parseH (lines.getD i [])).2 := if_neg (fun h => he h.1)
          rw [hee, if_pos he, if_pos he]
          exact res_fail he
theorem group_agr (t : List Fil) : ∀ d, GAgr (groupS t d) (rgroup t d) := by
  intro d
  induction d with
  | zero => intro p lines fr tu s r h; exact loop_agr t (nest := none) (rnest := none) trivial p lines tu _ _ s r h
  | succ d ih => intro p lines fr tu s r h; exact loop_agr t (nest := some (groupS t d)) (rnest := some (rgroup t d)) ih p lines tu _ _ s r h
theorem st0_agr (flags : List Bs) : Agr (st0 flags) (rst0 flags) := by
  have key : ∀ (fl : List Bs) (m : List (Bs × Bool)) (r : List Bs), (Srt ltS r ∧ ∀ x, x ∈ r ↔ x ∈ m.map (·.1)) → (∀ p ∈ m, p.2 = true) → (m.map (·.1)).Nodup →
      (Srt ltS (fl.foldl rins r) ∧ ∀ x, x ∈ fl.foldl rins r ↔ x ∈ (fl.foldl (fun m f => setM m f true) m).map (·.1)) ∧ (∀ p ∈ fl.foldl (fun m f => setM m f true) m, p.2 = true) ∧ ((fl.foldl (fun m f => setM m f true) m).map (·.1)).Nodup := by
    intro fl
    induction fl with
    | nil => intro m r h1 h2 h3; exact ⟨h1, h2, h3⟩
    | cons f fl ih =>
      intro m r h1 h2 h3
      obtain ⟨a, b⟩ := rins_law f r h1.1
      exact ih (setM m f true) (rins r f) ⟨a, fun x => by rw [b, keys_setM, h1.2]⟩ (fun p hp => (mem_setM _ _ _ _ hp).elim (fun e => by rw [e]) (h2 p)) (nodup_setM _ _ _ h3)
  obtain ⟨h1, h2, h3⟩ := key flags [] [] ⟨List.Pairwise.nil, fun x => by simp⟩ (fun p hp => by cases hp) (by simp)
  exact ⟨h1, h2, h3, ⟨List.Pairwise.nil, fun x => by simp [st0, rst0]⟩, (fun p hp => by cases hp), by simp [st0], rfl, ⟨⟨List.Pairwise.nil, (fun s hs => by cases hs)⟩, fun x => ⟨(fun ⟨s, hs, _⟩ => by cases hs), (fun h => by cases h)⟩⟩, ⟨List.Pairwise.nil, fun x => by simp [st0, rst0]⟩, rfl, rfl, by simp [st0], by simp [st0], by simp [st0]⟩
theorem key_inj {κ ν : Type} {m : List (κ × ν)} (hn : (m.map (·.1)).Nodup) {a b : κ × ν} (ha : a ∈ m) (hb : b ∈ m) (hk : a.1 = b.1) : a = b := by
  induction m with
  | nil => cases ha
  | cons q m ih =>
    simp only [List.map_cons, List.nodup_cons] at hn
    rcases List.mem_cons.1 ha with e1 | h1 <;> rcases List.mem_cons.1 hb with e2 | h2
    · rw [e1, e2]
    · exact absurd (List.mem_map.2 ⟨b, h2, by rw [← hk, e1]⟩) hn.1
    · exact absurd (List.mem_map.2 ⟨a, h1, by rw [hk, e2]⟩) hn.1
    · exact ih hn.2 h1 h2
theorem unt_agr {s : Sst} {r : Rst} (h : Agr s r) (p : Bs) : runt p r = untS p s := by
  unfold runt untS
  have e1 := sortG_law strS (s.flags.map (·.1)) fun x _ y _ => ltS_tot y x
  have e4 := sortG_law strS (s.files.map (·.1)) fun x _ y _ => ltS_tot y x
  have e2 := sortG_law strMac (s.macros.map (·.2)) fun x hx y hy => by
    rcases ltS_tot y.name x.name with h1 | h1 | h1
    · exact .inl h1
    · right; left
      obtain ⟨a, ha, rfl⟩ := List.mem_map.1 hx
      obtain ⟨b, hb, rfl⟩ := List.mem_map.1 hy
      have hk : a.1 = b.1 := (h.mky a ha).trans (h1.symm.trans (h.mky b hb).symm)
      have hab : a = b := key_inj h.mn ha hb hk
      rw [hab]
    · exact .inr (.inr h1)
  have e3 := spans_law (s.heads.map (·.1))
  rw [srt_unique strS h.fl.1 e1.1 fun x => by rw [h.fl.2, e1.2], srt_unique strS h.fi.1 e4.1 fun x => by rw [h.fi.2, e4.2], srt_unique strMac h.ma.1 e2.1 fun x => by rw [h.ma.2, e2.2], nf_unique h.he.1 e3.1 fun x => by rw [h.he.2, e3.2], h.it]
theorem scan_eq (t : List Fil) (p : Bs) (flags : List Bs) : rscanS t p flags = scanS t p flags := by
  unfold rscanS scanS
  simp only
  split
  · rfl
  · rcases file_agr (group_agr t 24) p (startS t p flags).1 (st0_agr flags) with ⟨h1, h2, h3⟩ | ⟨h1, h2, h3⟩
    · rw [h1, h2]
      simp only [ne_eq, not_true_eq_false, if_false, Bool.not_true, Bool.false_eq_true]
      rw [unt_agr h3]
    · rw [h1, if_pos h2, h3]
      rfl
end Go.Proofs.YtpeamehplhpcjaaGreatDoor
namespace Go.Proofs.YtpeamehplhpcjaaGreatDoor
structure StI (s : Sst) : Prop where
  it : s.items.length ≤ 128
  ma : s.macros.length ≤ 128
  co : s.count ≤ 2048
def KeepR (s : Sst) (r : Bool × Sst) : Prop := StI r.2 ∧ r.2.opn = s.opn ∧ ∀ q ∈ r.2.flags, q ∈ s.flags
def KeepG (g : Grp) : Prop := ∀ p l fr tu s, StI s → KeepR s (g p l fr tu s)
theorem keep_fail {s : Sst} (h : StI s) (p : Bs) (n e : Int) : KeepR s (failS s p n e) := ⟨⟨h.it, h.ma, h.co⟩, rfl, fun _ h => h⟩
theorem keep_file {g : Grp} (hg : KeepG g) (p : Bs) (l : List Bs) {s : Sst} (h : StI s) : KeepR s (fileS g p l s) := by
  obtain ⟨h1, h2, h3⟩ := hg p l 0 l.length { s with files := setM s.files p true, opn := s.opn ++ [p] } ⟨h.it, h.ma, h.co⟩
  unfold fileS KeepR
  refine ⟨⟨h1.it, h1.ma, h1.co⟩, ?_, h3⟩
  simp only [h2]
  simp
def KeepN (n : Option Grp) : Prop := ∀ g, n = some g → KeepG g
theorem keep_incl (t : List Fil) {nest : Option Grp} (hn : KeepN nest) (p : Bs) (n : Int) (ref : Bs) {s : Sst} (h : StI s) : KeepR s (inclS t nest p n ref s) := by
  unfold inclS
  simp only
  split
  · exact keep_fail h _ _ _
  · split
    · exact keep_fail h _ _ _
    · split
      · exact keep_fail h _ _ _
      · split
        · exact keep_fail h _ _ _
        · split
          · exact keep_fail h _ _ _
          · rename_i g
            exact keep_file (hn g rfl) _ _ h
theorem keep_item (p : Bs) (n : Int) (x : Itm) {s : Sst} (h : StI s) : KeepR s (itemS p n x s) := by
  unfold itemS
  split
  · exact keep_fail h _ _ _
  · split
    · exact keep_fail h _ _ _
    · have := h.it
      exact ⟨⟨by simp; omega, h.ma, h.co⟩, rfl, fun _ h => h⟩
theorem len_delM {κ ν : Type} [DecidableEq κ] (m : List (κ × ν)) (k : κ) : (delM m k).length ≤ m.length := by
  unfold delM; exact List.length_filter_le _ _
theorem keep_head (t : List Fil) {nest : Option Grp} (hn : KeepN nest) (p : Bs) (l : List Bs) (i : Nat) (x : Hd) {s : Sst} (h : StI s) : KeepR s (doHead t nest p l i x s) := by
  have hm := h.ma
  unfold doHead
  simp only
  split
  · exact keep_incl t hn _ _ _ h
  · split
    · split
      · exact keep_fail h _ _ _
      · split
        · exact keep_fail h _ _ _
        · have := len_setM s.macros x.name ⟨x.name, x.params, ⟨p, (i : Int) + 1, (i : Int) + 1 + x.n⟩⟩
          exact ⟨⟨h.it, by show (setM s.macros x.name _).length ≤ 128; omega, h.co⟩, rfl, fun _ h => h⟩
    · split
      · split
        · have := len_delM s.macros x.name
          exact ⟨⟨h.it, by show (delM s.macros x.name).length ≤ 128; omega, h.co⟩, rfl, fun _ h => (List.mem_filter.1 h).1⟩
        · exact keep_fail h _ _ _
      · split
        · split
          · exact ⟨h, rfl, fun _ h => h⟩
          · split
            · exact keep_fail h _ _ _
            · rename_i g
              exact hn g rfl _ _ _ _ _ h
        · split
          · exact keep_item _ _ _ h
          · split
            · exact keep_item _ _ _ h
            · split
              · exact keep_item _ _ _ h
              · exact ⟨h, rfl, fun _ h => h⟩
theorem keep_loop (t : List Fil) {nest : Option Grp} (hn : KeepN nest) (p : Bs) (l : List Bs) (tu : Nat) : ∀ f i (s : Sst), StI s → KeepR s (loopS t nest p l tu f i s) := by
  intro f
  induction f with
  | zero => intro i s h; exact ⟨h, rfl, fun _ h => h⟩
  | succ f ih =>
    intro i s h
    unfold loopS
    split
    · exact ⟨h, rfl, fun _ h => h⟩
    · split
      · exact keep_fail h _ _ _
      · have hc := h.co
        have h2 : StI { s with count := s.count + 1, heads := setM s.heads ⟨p, i⟩ true } := ⟨h.it, h.ma, by show s.count + 1 ≤ 2048; omega⟩
        simp only
        split
        · exact keep_fail h2 _ _ _
        · split
          · exact keep_fail h2 _ _ _
          · obtain ⟨h3, h4, h7⟩ := keep_head t hn p l i (parseH (l.getD i [])).1 h2
            split
            · exact ⟨h3, h4, h7⟩
            · obtain ⟨h5, h6, h8⟩ := ih (i + 1 + (parseH (l.getD i [])).1.n.toNat) _ h3
              exact ⟨h5, h6.trans h4, fun q hq => h7 q (h8 q hq)⟩
theorem keep_group (t : List Fil) : ∀ d, KeepG (groupS t d) := by
  intro d
  induction d with
  | zero => intro p l fr tu s h; exact keep_loop t (fun g hg => by cases hg) p l tu _ _ s h
  | succ d ih => intro p l fr tu s h; exact keep_loop t (fun g hg => by injection hg with hg; subst hg; exact ih) p l tu _ _ s h
theorem parse_n {l : Bs} (h : (parseH l).2 = 0) : 0 ≤ (parseH l).1.n ∧ (parseH l).1.n ≤ 1024 := by
  refine ⟨(parse_ok h).1, ?_⟩
  unfold parseH at h ⊢
  split
  · decide
  · rename_i he
    rw [if_neg he] at h
    simp only at h ⊢
    split
    · decide
    · rename_i h2
      rw [if_neg h2] at h
      split
      · show (0 : Int) ≤ 1024
        decide
      · rename_i h3
        have h4 : headE (shapeS (splitS 32 l)).1 = 0 := by omega
        show (shapeS (splitS 32 l)).1.n ≤ 1024
        unfold headE at h4
        repeat (split at h4; cases h4)
        omega
end Go.Proofs.YtpeamehplhpcjaaGreatDoor
