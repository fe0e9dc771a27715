/- Expressions: parsing what Print makes of a valid formula gives the formula, or it is too deep; plain: the operations, all of it. -/
import Derived.Test.YtchdpjgncojhaaaRet1
set_option linter.unusedVariables false
set_option linter.unusedSimpArgs false
namespace Go.Proofs.Ytchdpjgncojhaaa

theorem flat1 (s : List Opn) : [s].flatten = s := by simp
theorem name_kw {s : Bs} (h : nameT s = true) : s ≠ [108, 111, 97, 100] ∧ s ≠ [105, 110] := by
  unfold nameT at h
  rw [Bool.and_eq_true] at h
  constructor
  · rintro rfl; exact absurd h.1 (by decide)
  · rintro rfl; exact absurd h.1 (by decide)
theorem name_valid {s : Bs} (h : nameT s = true) : validT ⟨1, s⟩ = true := by
  unfold nameT at h
  rw [Bool.and_eq_true] at h
  exact h.2

theorem call_valid {name : Bs} (hv : validT ⟨1, name⟩ = true) {args : List Txt} {segs : List (List Opn)} (h : RS args segs) : ∀ k ∈ callS name args, validT k = true := by
  intro k hk
  simp only [callS, List.mem_append, List.mem_cons, List.not_mem_nil, or_false] at hk
  rcases hk with ((rfl | rfl) | hk) | rfl
  · exact hv
  · exact valid_open
  · exact args_valid h true k hk
  · exact valid_close

theorem reads_num (n : Int) (h0 : 0 ≤ n) (h : n ≤ 4294967295) : Reads ⟨[numTok n], 11⟩ [⟨1, [], n⟩] := by
  refine Reads.atom ?_ ⟨numTok n, [], rfl, by simp [numTok]⟩ ?_
  · intro k hk
    rw [List.mem_singleton] at hk
    subst hk
    exact valid_num _ (by omega)
  · intro st r he hr _
    refine .inr ⟨0, 1, ?_⟩
    have hr' : st.rest = ⟨2, decF 10 n.toNat⟩ :: r := hr
    rw [pr, hr']
    simp only [if_true, decF_number n.toNat (by omega), pput, ext]
    rw [Int.toNat_of_nonneg h0]
theorem reads_name (s : Bs) (h : nameT s = true) : Reads ⟨[⟨1, s⟩], 11⟩ [⟨2, s, 0⟩] := by
  obtain ⟨h1, h2⟩ := name_kw h
  refine Reads.atom ?_ ⟨⟨1, s⟩, [], rfl, by simp⟩ ?_
  · intro k hk
    rw [List.mem_singleton] at hk
    subst hk
    exact name_valid h
  · intro st r he hr hs
    refine .inr ⟨0, 1, ?_⟩
    have hr' : st.rest = ⟨1, s⟩ :: r := hr
    have hn : pnext { st with rest := r } [40] = false := by
      unfold pnext
      cases r with
      | nil => rfl
      | cons t r => simpa using (hs t r rfl).1
    rw [pr, hr']
    simp only [show ¬ ((1 : Int) = 2) by decide, show ¬ ((1 : Int) = 3) by decide, if_false, h1, h2, h, if_true, hn, Bool.false_eq_true, pput, ext]
theorem reads_call (s : Bs) (h : nameT s = true) {args : List Txt} {segs : List (List Opn)} (ha : RS args segs) (hl : args.length ≤ 8) (n : Int) (hn : n = args.length) : Reads ⟨callS s args, 11⟩ (segs.flatten ++ [⟨3, s, n⟩]) := by
  obtain ⟨h1, h2⟩ := name_kw h
  refine Reads.atom (call_valid (name_valid h) ha) ⟨⟨1, s⟩, _, rfl, by simp⟩ ?_
  intro st r he hr hs
  have hr' : st.rest = ⟨1, s⟩ :: ⟨3, [40]⟩ :: (argsGo args true ++ ⟨3, [41]⟩ :: r) := by rw [hr]; simp [callS, symK]
  obtain ⟨f, hf⟩ := parens_of (tg := .args 0) (ops := segs.flatten) (N := fun m => m = (args.length : Int)) (st := { st with rest := ⟨3, [40]⟩ :: (argsGo args true ++ ⟨3, [41]⟩ :: r) }) he rfl (fun st' he' hr'' => by
    rcases args_run ha hl st' r he' hr'' with h | h
    · exact .inl h
    · exact .inr ⟨_, rfl, h⟩)
  have hp : pr (f + 1) .single st = pthen (pparens (pr f (.args 0)) { st with rest := ⟨3, [40]⟩ :: (argsGo args true ++ ⟨3, [41]⟩ :: r) }) 3 s := by
    rw [pr, hr']
    simp only [show ¬ ((1 : Int) = 2) by decide, show ¬ ((1 : Int) = 3) by decide, if_false, h1, h2, h, if_true]
    rw [if_pos (by simp [pnext])]
  rcases hf with ⟨s', m, k1, k2⟩ | ⟨m, hm, k1⟩
  · exact .inl ⟨s', 0, ⟨f + 1, by rw [hp, k1]; rfl⟩, k2⟩
  · refine .inr ⟨0, f + 1, ?_⟩
    rw [hp, k1]
    simp [pthen, pput, ext, hm, hn]
theorem reads_load {a : Txt} {s : List Opn} (h : Reads a s) : Reads ⟨callS [108, 111, 97, 100] [a], 11⟩ (s ++ [⟨4, [], 0⟩]) := by
  refine Reads.atom (call_valid (by decide) (.cons h .nil)) ⟨⟨1, _⟩, _, rfl, by simp⟩ ?_
  intro st r he hr hs
  have hr' : st.rest = ⟨1, [108, 111, 97, 100]⟩ :: ⟨3, [40]⟩ :: (a.toks ++ ⟨3, [41]⟩ :: r) := by rw [hr]; simp [callS, symK, argsGo]
  obtain ⟨f, hf⟩ := parens_of (tg := .bin 1) (ops := s) (N := fun _ => True) (st := { st with rest := ⟨3, [40]⟩ :: (a.toks ++ ⟨3, [41]⟩ :: r) }) he rfl (fun st' he' hr'' => by
    rcases h.bin (l := 1) (by omega) h.lo he' hr'' (stops_close r) with h | ⟨n, h⟩
    · exact .inl h
    · exact .inr ⟨n, trivial, h⟩)
  have hp : pr (f + 1) .single st = pthen (pzero (pparens (pr f (.bin 1)) { st with rest := ⟨3, [40]⟩ :: (a.toks ++ ⟨3, [41]⟩ :: r) })) 4 [] := by
    rw [pr, hr']
    simp only [show ¬ ((1 : Int) = 2) by decide, show ¬ ((1 : Int) = 3) by decide, if_false, if_true]
  rcases hf with ⟨s', m, k1, k2⟩ | ⟨m, hm, k1⟩
  · exact .inl ⟨s', 0, ⟨f + 1, by rw [hp, k1]; rfl⟩, k2⟩
  · refine .inr ⟨0, f + 1, ?_⟩
    rw [hp, k1]
    simp [pthen, pzero, pput, ext]
theorem reads_in : Reads ⟨callS [105, 110] [], 11⟩ [⟨5, [], 0⟩] := by
  refine Reads.atom (call_valid (by decide) .nil) ⟨⟨1, _⟩, _, rfl, by simp⟩ ?_
  intro st r he hr hs
  have hr' : st.rest = ⟨1, [105, 110]⟩ :: ⟨3, [40]⟩ :: ([] ++ ⟨3, [41]⟩ :: r) := by rw [hr]; simp [callS, symK, argsGo]
  obtain ⟨f, hf⟩ := parens_of (tg := .nothing) (ops := []) (N := fun _ => True) (st := { st with rest := ⟨3, [40]⟩ :: ([] ++ ⟨3, [41]⟩ :: r) }) he rfl (fun st' he' hr'' =>
    .inr ⟨0, trivial, 1, by rw [pr]; simp at hr''; simp [ext, ← hr'']⟩)
  have hp : pr (f + 1) .single st = pthen (pzero (pparens (pr f .nothing) { st with rest := ⟨3, [40]⟩ :: ([] ++ ⟨3, [41]⟩ :: r) })) 5 [] := by
    rw [pr, hr']
    simp only [show ¬ ((1 : Int) = 2) by decide, show ¬ ((1 : Int) = 3) by decide, if_false, if_true]
    rw [if_neg (by decide)]
  rcases hf with ⟨s', m, k1, k2⟩ | ⟨m, hm, k1⟩
  · exact .inl ⟨s', 0, ⟨f + 1, by rw [hp, k1]; rfl⟩, k2⟩
  · refine .inr ⟨0, f + 1, ?_⟩
    rw [hp, k1]
    simp [pthen, pzero, pput, ext]
theorem reads_un {op : Bs} (ho : isUn op = true) {a : Txt} {s : List Opn} (h : Reads a s) : Reads ⟨[symK op] ++ atS a 11, 11⟩ (s ++ [⟨6, op, 0⟩]) := by
  have hA := h.at_ 11
  have h11 : (if (11 : Int) ≤ a.lev then a.lev else 11) = 11 := by have := h.hi; split <;> omega
  rw [h11] at hA
  refine Reads.atom ?_ ⟨symK op, _, rfl, ?_⟩ ?_
  · intro k hk
    simp only [List.mem_append, List.mem_singleton] at hk
    rcases hk with rfl | hk
    · exact valid_un ho
    · exact hA.valid k hk
  · intro e
    injection e with _ e
    rw [e] at ho
    exact absurd ho (by decide)
  · intro st r he hr hs
    have hr' : st.rest = ⟨3, op⟩ :: (atS a 11 ++ r) := by rw [hr]; simp [symK]
    obtain ⟨f, hf⟩ := deeper_of (tg := .bin 11) (r := r) (ops := s) (N := fun _ => True) he hr' (fun st' he' hr'' => by
      rcases hA.run 11 (by omega) (by simp) st' r he' hr'' hs with h | ⟨_, n, h⟩ | ⟨h, _⟩
      · exact .inl h
      · exact .inr ⟨n, trivial, h⟩
      · omega)
    have hp : pr (f + 1) .single st = pthen (pzero (pwithin (pr f (.bin 11)) st)) 6 op := by
      rw [pr, hr']
      simp only [show ¬ ((3 : Int) = 2) by decide, if_false, if_true, ho]
    rcases hf with ⟨s', m, k1, k2⟩ | ⟨m, hm, k1⟩
    · exact .inl ⟨s', 0, ⟨f + 1, by rw [hp, k1]; rfl⟩, k2⟩
    · refine .inr ⟨0, f + 1, ?_⟩
      rw [hp, k1]
      simp [pthen, pzero, pput, ext]
theorem reads_bin {op : Bs} (ho : 0 < level op) {a b : Txt} {s u : List Opn} (h : Reads a s) (k : Reads b u) :
    Reads ⟨atS a (level op) ++ [symK op] ++ atS b ((level op : Int) + 1), level op⟩ (s ++ u ++ [⟨7, op, 0⟩]) := by
  have hle := level_le op
  have hA := h.at_ (level op)
  have hB := k.at_ ((level op : Int) + 1)
  have hop : op ≠ [40] := by rintro rfl; exact absurd ho (by decide)
  obtain ⟨k0, r0, e0, n0⟩ := hA.head
  simp only at e0
  refine Reads.top (level op) rfl ho (by omega) ?_ ⟨k0, r0 ++ [symK op] ++ atS b ((level op : Int) + 1), by simp [e0], n0⟩ ?_
  · intro t ht
    simp only [List.mem_append, List.mem_singleton] at ht
    rcases ht with (ht | rfl) | ht
    · exact hA.valid t ht
    · exact valid_bin _ (level_mem ho)
    · exact hB.valid t ht
  · intro st r he hr hs
    have hr' : st.rest = atS a (level op) ++ (⟨3, op⟩ :: (atS b ((level op : Int) + 1) ++ r)) := by rw [hr]; simp [symK]
    have hs1 : stops (level op + 1) (⟨3, op⟩ :: (atS b ((level op : Int) + 1) ++ r)) := by
      intro t r' e
      injection e with e1 e2
      subst e1
      exact ⟨fun e => hop (by injection e), fun _ => Nat.lt_succ_self _⟩
    have hlA : ((level op : Nat) : Int) ≤ (if (level op : Int) ≤ a.lev then a.lev else 11) := by split <;> omega
    have hlB : ((level op + 1 : Nat) : Int) ≤ (if (level op : Int) + 1 ≤ b.lev then b.lev else 11) := by split <;> omega
    rcases hA.run (level op) ho hlA st _ he hr' hs1 with h | ⟨h, _⟩ | ⟨_, h⟩
    · exact .inl h
    · omega
    · have he2 : (ext st (atS b ((level op : Int) + 1) ++ r) s).err = 0 := he
      have hb : Deep (.bin (level op + 1)) (ext st (atS b ((level op : Int) + 1) ++ r) s) ∨ ∃ n, Run (.bin (level op + 1)) (ext st (atS b ((level op : Int) + 1) ++ r) s) (true, ext st r (s ++ u), n) := by
        have := hB.bin (l := level op + 1) (by omega) hlB (st := ext st (atS b ((level op : Int) + 1) ++ r) s) (r := r) he2 rfl hs
        rw [ext_ext] at this
        exact this
      rcases hb with hd | ⟨n, hn⟩
      · left
        obtain ⟨s', m, k1, k2⟩ := deep_loop (st := ext st (⟨3, op⟩ :: (atS b ((level op : Int) + 1) ++ r)) s) (t := ⟨3, op⟩) (r := atS b ((level op : Int) + 1) ++ r) rfl rfl rfl hd
        exact ⟨s', m, h _ k1, k2⟩
      · refine .inr (.inr ⟨hle, fun x hx => h x ?_⟩)
        refine run_loop (st := ext st (⟨3, op⟩ :: (atS b ((level op : Int) + 1) ++ r)) s) (t := ⟨3, op⟩) (r := atS b ((level op : Int) + 1) ++ r) rfl rfl rfl hn ?_
        have : (pput (ext st r (s ++ u)) 7 op 0).2 = ext st r (s ++ u ++ [⟨7, op, 0⟩]) := by simp [pput, ext]
        rw [this]
        exact hx

theorem RS.one {a : List Txt} {s : List (List Opn)} (h : RS a s) (hl : a.length = 1) : ∃ t o, a = [t] ∧ s = [o] ∧ Reads t o := by
  cases h with
  | nil => simp at hl
  | cons h h' =>
    cases h' with
    | nil => exact ⟨_, _, rfl, rfl, h⟩
    | cons _ _ => simp at hl
theorem RS.two {a : List Txt} {s : List (List Opn)} (h : RS a s) (hl : a.length = 2) : ∃ t o t' o', a = [t, t'] ∧ s = [o, o'] ∧ Reads t o ∧ Reads t' o' := by
  cases h with
  | nil => simp at hl
  | cons h h' =>
    cases h' with
    | nil => simp at hl
    | cons k h'' =>
      cases h'' with
      | nil => exact ⟨_, _, _, _, rfl, rfl, h, k⟩
      | cons _ _ => simp at hl
theorem text_reads (o : Opn) {args : List Txt} {segs : List (List Opn)} (h : RS args segs) (h0 : 0 ≤ needsS o) (hl : args.length = nd o) (hn : 0 ≤ o.n ∧ o.n ≤ 4294967295) : Reads (textS o args) (segs.flatten ++ [o]) := by
  obtain ⟨k, t, n⟩ := o
  simp only at hn
  unfold nd at hl
  unfold needsS at hl h0
  unfold textS
  simp only at hl h0 ⊢
  by_cases k1 : k = 1
  · subst k1
    simp only [if_true] at hl h0 ⊢
    split at h0
    · rename_i ht
      rw [if_pos ht] at hl
      have : args = [] := List.eq_nil_of_length_eq_zero (by simpa using hl)
      subst this
      cases h
      have ht' : t = [] := by simpa using ht
      subst ht'
      exact reads_num n hn.1 hn.2
    · omega
  rw [if_neg k1] at hl h0 ⊢
  by_cases k2 : k = 2
  · subst k2
    simp only [if_true] at hl h0 ⊢
    split at h0
    · rename_i ht
      rw [if_pos ht] at hl
      have : args = [] := List.eq_nil_of_length_eq_zero (by simpa using hl)
      subst this
      cases h
      simp only [Bool.and_eq_true, beq_iff_eq] at ht
      obtain ⟨ht, rfl⟩ := ht
      exact reads_name t ht
    · omega
  rw [if_neg k2] at hl h0 ⊢
  by_cases k3 : k = 3
  · subst k3
    simp only [if_true] at hl h0 ⊢
    split at h0
    · rename_i ht
      rw [if_pos ht] at hl
      simp only [Bool.and_eq_true, decide_eq_true_eq] at ht
      exact reads_call t ht.1 h (by omega) n (by omega)
    · omega
  rw [if_neg k3] at hl h0 ⊢
  by_cases k4 : k = 4
  · subst k4
    simp only [if_true] at hl h0 ⊢
    split at h0
    · rename_i ht
      rw [if_pos ht] at hl
      simp only [Bool.and_eq_true, beq_iff_eq] at ht
      obtain ⟨ht, rfl⟩ := ht
      have ht' : t = [] := by simpa using ht
      subst ht'
      obtain ⟨a, s, rfl, rfl, ha⟩ := h.one (by simpa using hl)
      rw [flat1]
      exact reads_load ha
    · omega
  rw [if_neg k4] at hl h0 ⊢
  by_cases k5 : k = 5
  · subst k5
    simp only [if_true] at hl h0 ⊢
    split at h0
    · rename_i ht
      rw [if_pos ht] at hl
      simp only [Bool.and_eq_true, beq_iff_eq] at ht
      obtain ⟨ht, rfl⟩ := ht
      have ht' : t = [] := by simpa using ht
      subst ht'
      have : args = [] := List.eq_nil_of_length_eq_zero (by simpa using hl)
      subst this
      cases h
      exact reads_in
    · omega
  rw [if_neg k5] at hl h0 ⊢
  by_cases k6 : k = 6
  · subst k6
    simp only [if_true] at hl h0 ⊢
    split at h0
    · rename_i ht
      rw [if_pos ht] at hl
      simp only [Bool.and_eq_true, beq_iff_eq] at ht
      obtain ⟨ht, rfl⟩ := ht
      obtain ⟨a, s, rfl, rfl, ha⟩ := h.one (by simpa using hl)
      rw [flat1]
      exact reads_un ht ha
    · omega
  rw [if_neg k6] at hl h0 ⊢
  by_cases k7 : k = 7
  · subst k7
    simp only [if_true] at hl h0 ⊢
    split at h0
    · rename_i ht
      rw [if_pos ht] at hl
      simp only [Bool.and_eq_true, beq_iff_eq, decide_eq_true_eq] at ht
      obtain ⟨ht, rfl⟩ := ht
      obtain ⟨a, s, b, u, rfl, rfl, ha, hb⟩ := h.two (by simpa using hl)
      have := reads_bin ht ha hb
      simpa using this
    · omega
  · rw [if_neg k7] at h0
    omega

theorem print_reads : ∀ (f : List Opn) (st : List Txt) (segs : List (List Opn)) (m : Int), (∀ o ∈ f, 0 ≤ o.n ∧ o.n ≤ 4294967295) → RS st segs → m = st.length → checkGo f m = 0 → ∃ t, printGo f st = [t] ∧ Reads t (segs.flatten ++ f) := by
  intro f
  induction f with
  | nil =>
    intro st segs m _ h hm hc
    have := checkGo_nil hc
    obtain ⟨t, o, rfl, rfl, k⟩ := h.one (by omega)
    exact ⟨t, rfl, by simpa using k⟩
  | cons o r ih =>
    intro st segs m hn h hm hc
    obtain ⟨h0, h1, h2⟩ := checkGo_cons hc
    have hnd : (nd o : Int) = needsS o := by unfold nd; omega
    have hT := text_reads o (h.drop (st.length - nd o)) h0 (by rw [List.length_drop]; omega) (hn o (by simp))
    obtain ⟨t, e, k⟩ := ih _ _ (m + (1 - needsS o)) (fun o ho => hn o (by simp [ho])) ((h.take (st.length - nd o)).append (.cons hT .nil)) (by simp only [List.length_append, List.length_take, List.length_cons, List.length_nil]; omega) h2
    refine ⟨t, e, ?_⟩
    have : segs.flatten = (segs.take (st.length - nd o)).flatten ++ (segs.drop (st.length - nd o)).flatten := by rw [← List.flatten_append, List.take_append_drop]
    rw [this]
    simpa using k

theorem printE_valid {l : List Tok} (h : ∀ t ∈ l, validT t = true) : printE l = 0 := by
  induction l with
  | nil => rfl
  | cons t r ih => rw [printE, if_pos (h t (by simp))]; exact ih fun t ht => h t (by simp [ht])

/-- Parsing the tokens of a valid formula gives the formula, unless it is too deep. -/
theorem parse_print (f : List Opn) (hf : ∀ o ∈ f, 0 ≤ o.n ∧ o.n ≤ 4294967295) (h : (exprPrintS f).2 = 0) : parseE (exprPrintS f).1 = (f, 0) ∨ parseE (exprPrintS f).1 = ([], 11) := by
  unfold exprPrintS at h ⊢
  by_cases hc : checkS f = 0
  · rw [if_neg (fun k => k hc)] at h ⊢
    have hc' : checkGo f 0 = 0 := by
      unfold checkS at hc
      split at hc
      · cases hc
      · exact hc
    obtain ⟨t, e, k⟩ := print_reads f [] [] 0 hf .nil rfl hc'
    rw [e] at h ⊢
    simp only [List.getD_cons_zero] at h ⊢
    split at h
    · cases h
    · rename_i hl
      rw [if_neg hl]
      simp only [List.flatten_nil, List.nil_append] at k ⊢
      have hp : printT t.toks = 0 := by unfold printT; rw [if_neg hl]; exact printE_valid k.valid
      unfold parseE
      rw [if_neg (fun h => h hp)]
      obtain ⟨x, hx⟩ := pr_some (16 * t.toks.length + 20) (.bin 1) ⟨t.toks, 0, [], 0⟩ (by simp [okTag]) (by simp only [rank]; omega)
      rw [hx]
      have hrun : Run (.bin 1) ⟨t.toks, 0, [], 0⟩ x := ⟨_, hx⟩
      rcases k.bin (l := 1) (by omega) k.lo (st := ⟨t.toks, 0, [], 0⟩) (r := []) rfl (by simp) (stops.nil _) with ⟨s, m, h1, h2⟩ | ⟨n, h1⟩
      · right
        rw [hrun.one h1]
        simp [h2]
      · left
        rw [hrun.one h1]
        simp [ext]
  · rw [if_pos hc] at h
    exact absurd h hc
theorem print_valid (f : List Opn) (hf : ∀ o ∈ f, 0 ≤ o.n ∧ o.n ≤ 4294967295) (h : (exprPrintS f).2 = 0) : ∀ t ∈ (exprPrintS f).1, validT t = true := by
  unfold exprPrintS at h ⊢
  by_cases hc : checkS f = 0
  · rw [if_neg (fun k => k hc)] at h ⊢
    have hc' : checkGo f 0 = 0 := by
      unfold checkS at hc
      split at hc
      · cases hc
      · exact hc
    obtain ⟨t, e, k⟩ := print_reads f [] [] 0 hf .nil rfl hc'
    rw [e] at h ⊢
    simp only [List.getD_cons_zero] at h ⊢
    split at h
    · cases h
    · rename_i hl
      rw [if_neg hl]
      exact k.valid
  · rw [if_pos hc] at h
    exact absurd h hc
theorem print_err (f : List Opn) (h : (exprPrintS f).2 ≠ 0) : (exprPrintS f).1 = [] := by
  unfold exprPrintS at h ⊢
  split
  · rfl
  · split
    · rfl
    · rename_i h1 h2
      rw [if_neg h1, if_neg h2] at h
      exact absurd rfl h
end Go.Proofs.Ytchdpjgncojhaaa
