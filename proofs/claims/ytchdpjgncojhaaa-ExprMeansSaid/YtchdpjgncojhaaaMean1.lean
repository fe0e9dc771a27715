/- ExprMeans: the value of a formula as a plain function; folding keeps it. Plain lemmas. -/
import Derived.Test.YtchdpjgncojhaaaF3b
import Derived.Test.YtchdpjgncojhaaaRet1
set_option linter.unusedVariables false
set_option linter.unusedSimpArgs false
namespace Go.Proofs.Ytchdpjgncojhaaa

abbrev VSt := List Int × List Opn
def needV (o : Opn) : Nat := if o.kind = 3 then o.n.toNat else if o.kind = 4 then 1 else if o.kind = 6 then 1 else if o.kind = 7 then 2 else 0
def evV (o : Opn) : Bool := o.kind == 3 || o.kind == 4 || o.kind == 5
def mixV (v a : Int) : Int := (v * 31 + a) % 4294967296
def resV (o : Opn) (args : List Int) (ne : Nat) : Int × Bool :=
  if o.kind = 2 then ((o.text.length : Int) * 2654435761 % 4294967296, true)
  else if evV o then (args.foldl mixV ((ne : Int) * 40503 % 4294967296), true)
  else if o.kind = 6 then unS o.text (args.getD 0 0)
  else if o.kind = 7 then binS o.text (args.getD 0 0) (args.getD 1 0)
  else (o.n, true)
def resA (o : Opn) (s : VSt) : Int × Bool := resV o (s.1.drop (s.1.length - needV o)) s.2.length
def nextV (o : Opn) (s : VSt) : VSt := (s.1.take (s.1.length - needV o) ++ [(resA o s).1], if evV o then s.2 ++ [⟨o.kind, o.text, (resA o s).1⟩] else s.2)
def stepV (s : VSt) (o : Opn) : Option VSt :=
  if s.1.length < needV o then none else if (resA o s).2 then some (nextV o s) else none
def runV (f : List Opn) (s : VSt) : Option VSt := f.foldlM stepV s
def stepC (v : Int) (o : Opn) : Option Int := if needsS o < 0 ∨ v < needsS o then none else some (v + (1 - needsS o))
def runC (f : List Opn) (v : Int) : Option Int := f.foldlM stepC v

theorem checkGo_run (f : List Opn) : ∀ v, checkGo f v = 0 ↔ runC f v = some 1 := by
  induction f with
  | nil => intro v; unfold checkGo runC; by_cases h : v = 1 <;> simp [h]
  | cons o r ih =>
    intro v
    rw [checkGo, runC, List.foldlM_cons]
    unfold stepC
    by_cases h : needsS o < 0 ∨ v < needsS o
    · rw [if_pos h, if_pos h]; simp
    · rw [if_neg h, if_neg h]; exact ih _
theorem runC_snoc {f : List Opn} {o : Opn} {v v' : Int} (h : runC (f ++ [o]) v = some v') : ∃ u, runC f v = some u ∧ stepC u o = some v' := by
  unfold runC at h ⊢
  rw [List.foldlM_append] at h
  cases hu : f.foldlM stepC v with
  | none => rw [hu] at h; cases h
  | some u => rw [hu] at h; simp at h; exact ⟨u, rfl, h⟩
theorem runC_add {f : List Opn} {o : Opn} {v v' u : Int} (h : runC f v = some u) (k : stepC u o = some v') : runC (f ++ [o]) v = some v' := by
  unfold runC at h ⊢
  rw [List.foldlM_append, h]
  simp [k]
theorem runV_snoc {f : List Opn} {o : Opn} {v v' : VSt} (h : runV (f ++ [o]) v = some v') : ∃ u, runV f v = some u ∧ stepV u o = some v' := by
  unfold runV at h ⊢
  rw [List.foldlM_append] at h
  cases hu : f.foldlM stepV v with
  | none => rw [hu] at h; cases h
  | some u => rw [hu] at h; simp at h; exact ⟨u, rfl, h⟩
theorem runV_add {f : List Opn} {o : Opn} {v v' u : VSt} (h : runV f v = some u) (k : stepV u o = some v') : runV (f ++ [o]) v = some v' := by
  unfold runV at h ⊢
  rw [List.foldlM_append, h]
  simp [k]
theorem runC_cons {f : List Opn} {o : Opn} {v v' : Int} (h : runC (o :: f) v = some v') : ∃ u, stepC v o = some u ∧ runC f u = some v' := by
  unfold runC at h ⊢
  rw [List.foldlM_cons] at h
  cases hu : stepC v o with
  | none => rw [hu] at h; cases h
  | some u => rw [hu] at h; exact ⟨u, rfl, h⟩
theorem runV_cons {f : List Opn} {o : Opn} {v v' : VSt} (h : runV (o :: f) v = some v') : ∃ u, stepV v o = some u ∧ runV f u = some v' := by
  unfold runV at h ⊢
  rw [List.foldlM_cons] at h
  cases hu : stepV v o with
  | none => rw [hu] at h; cases h
  | some u => rw [hu] at h; exact ⟨u, rfl, h⟩

theorem binS_ok {op : Bs} (h : 0 < level op) (x y : Int) : (binS op x y).2 = true := by
  have hm := level_mem h
  simp only [binOps, List.mem_cons, List.not_mem_nil, or_false] at hm
  rcases hm with h | h | h | h | h | h | h | h | h | h | h | h | h | h | h | h | h | h <;> subst h <;> simp [binS]
theorem stepC_ok {v v' : Int} {o : Opn} (h : stepC v o = some v') : 0 ≤ needsS o ∧ needsS o ≤ v ∧ v' = v + (1 - needsS o) := by
  unfold stepC at h
  split at h
  · cases h
  · injection h with h; rename_i hb; exact ⟨by omega, by omega, h.symm⟩
theorem needs_val {o : Opn} (h : 0 ≤ needsS o) : (needV o : Int) = needsS o ∧ ∀ s, (resA o s).2 = true := by
  unfold needsS at h
  split at h
  · rename_i k; constructor
    · simp [needV, needsS, k]; split at h <;> simp_all
    · intro s; simp [resA, resV, k, evV]
  split at h
  · rename_i k; constructor
    · simp [needV, needsS, k]; split at h <;> simp_all
    · intro s; simp [resA, resV, k, evV]
  split at h
  · rename_i k; constructor
    · split at h
      · rename_i hb; simp only [needV, needsS, k, hb, if_true]; simp; omega
      · cases h
    · intro s; simp [resA, resV, k, evV]
  split at h
  · rename_i k; constructor
    · split at h
      · rename_i hb; simp only [needV, needsS, k, hb, if_true]; simp
      · cases h
    · intro s; simp [resA, resV, k, evV]
  split at h
  · rename_i k; constructor
    · split at h
      · rename_i hb; simp only [needV, needsS, k, hb, if_true]; simp
      · cases h
    · intro s; simp [resA, resV, k, evV]
  split at h
  · rename_i k
    split at h
    · rename_i hb
      constructor
      · simp only [needV, needsS, k, hb, if_true]; simp
      · intro s
        simp only [Bool.and_eq_true] at hb
        simp [resA, resV, k, evV, unS_is, hb.1]
    · cases h
  split at h
  · rename_i k
    split at h
    · rename_i hb
      constructor
      · simp only [needV, needsS, k, hb, if_true]; simp
      · intro s
        simp only [Bool.and_eq_true, decide_eq_true_eq] at hb
        simp [resA, resV, k, evV, binS_ok hb.1]
    · cases h
  · cases h
theorem stepV_ok {s : VSt} {o : Opn} {v' : Int} (h : stepC s.1.length o = some v') : stepV s o = some (nextV o s) ∧ v' = ((nextV o s).1.length : Int) ∧ needV o ≤ s.1.length := by
  obtain ⟨h0, h1, rfl⟩ := stepC_ok h
  obtain ⟨hn, hr⟩ := needs_val h0
  refine ⟨?_, ?_, by omega⟩
  · unfold stepV
    rw [if_neg (by omega), if_pos (hr s)]
  · simp [nextV]
    omega

def foldStep (out : List Opn) (o : Opn) : List Opn :=
  if o.kind = 6 ∧ 1 ≤ out.length ∧ (out.getD (out.length - 1) default).kind = 1 then
    out.set (out.length - 1) { out.getD (out.length - 1) default with n := (unS o.text (out.getD (out.length - 1) default).n).1 }
  else if o.kind = 7 ∧ 2 ≤ out.length ∧ (out.getD (out.length - 1) default).kind = 1 ∧ (out.getD (out.length - 2) default).kind = 1 then
    (out.set (out.length - 2) { out.getD (out.length - 2) default with n := (binS o.text (out.getD (out.length - 2) default).n (out.getD (out.length - 1) default).n).1 }).take (out.length - 1)
  else out ++ [o]
theorem foldGo_foldl (f : List Opn) : ∀ out, foldGo f out = f.foldl foldStep out := by
  induction f with
  | nil => intro out; rfl
  | cons o r ih =>
    intro out
    rw [foldGo, List.foldl_cons]
    unfold foldStep
    split
    · rw [ih]; rfl
    · split
      · rw [ih]; rfl
      · rw [ih]; rfl

/-- What a folded beginning is like. -/
structure Folded (out : List Opn) (s : VSt) : Prop where
  c : runC out 0 = some (s.1.length : Int)
  v : runV out ([], []) = some s
  f : out.foldl foldStep [] = out
  ok : OkF out
theorem snoc_of {α : Type} {l : List α} (h : 1 ≤ l.length) : ∃ l' x, l = l' ++ [x] := by
  rcases List.eq_nil_or_concat l with rfl | ⟨l', x, rfl⟩
  · simp at h
  · exact ⟨l', x, by simp⟩
theorem fold_num {out : List Opn} {x : Opn} (hk : x.kind = 1) : foldStep out x = out ++ [x] := by
  unfold foldStep
  rw [if_neg (by omega), if_neg (by omega)]
/-- A number at the end. -/
theorem Folded.last {out : List Opn} {x : Opn} {s : VSt} (h : Folded (out ++ [x]) s) (hk : x.kind = 1) : ∃ s0, Folded out s0 ∧ s = (s0.1 ++ [x.n], s0.2) ∧ needsS x = 0 := by
  obtain ⟨u, h1, h2⟩ := runC_snoc h.c
  obtain ⟨t, h3, h4⟩ := runV_snoc h.v
  obtain ⟨q0, q1, q2⟩ := stepC_ok h2
  have hn : needsS x = 0 := by
    unfold needsS at q0 ⊢
    rw [if_pos hk] at q0 ⊢
    split
    · rfl
    · rename_i hb; rw [if_neg hb] at q0; cases q0
  have hv : needV x = 0 := by simp [needV, hk]
  have hs : s = (t.1 ++ [x.n], t.2) := by
    unfold stepV at h4
    rw [hv, if_neg (by omega)] at h4
    simp only [resA, resV, hk, evV, hv, nextV] at h4
    simp at h4
    exact h4.symm
  refine ⟨t, ⟨?_, h3, ?_, fun o ho => h.ok o (by simp [ho])⟩, hs, hn⟩
  · rw [h1]
    rw [hs, hn] at q2
    simp at q2
    rw [show u = (t.1.length : Int) by omega]
  · have := h.f
    rw [List.foldl_append] at this
    simp only [List.foldl_cons, List.foldl_nil] at this
    rw [fold_num hk] at this
    exact (List.append_inj' this rfl).1
theorem Folded.num {out : List Opn} {x : Opn} {s0 : VSt} (h : Folded out s0) (hk : x.kind = 1) (hn : needsS x = 0) (hx : x.text.length ≤ 9223372036854775807 ∧ 0 ≤ x.n ∧ x.n ≤ 4294967295) : Folded (out ++ [x]) (s0.1 ++ [x.n], s0.2) := by
  have hc : stepC (s0.1.length : Int) x = some ((s0.1.length : Int) + 1) := by
    unfold stepC; rw [hn, if_neg (by omega)]; simp
  have hv : needV x = 0 := by simp [needV, hk]
  refine ⟨by simpa using runC_add h.c hc, runV_add h.v ?_, ?_, ?_⟩
  · rw [(stepV_ok hc).1]
    simp [nextV, hv, resA, resV, hk, evV]
  · rw [List.foldl_append, h.f]
    simp only [List.foldl_cons, List.foldl_nil]
    exact fold_num hk
  · intro o ho
    simp only [List.mem_append, List.mem_singleton] at ho
    rcases ho with ho | rfl
    · exact h.ok o ho
    · exact hx

theorem Folded.step {out : List Opn} {s : VSt} {o : Opn} {v' : Int} (h : Folded out s) (hc : stepC (s.1.length : Int) o = some v') (ho : o.text.length ≤ 9223372036854775807 ∧ 0 ≤ o.n ∧ o.n ≤ 4294967295) :
    Folded (foldStep out o) (nextV o s) ∧ v' = ((nextV o s).1.length : Int) ∧ (foldStep out o).length ≤ out.length + 1 := by
  have hst := stepV_ok hc
  refine ⟨?_, hst.2.1, ?_⟩
  · by_cases h6 : o.kind = 6 ∧ 1 ≤ out.length ∧ (out.getD (out.length - 1) default).kind = 1
    · unfold foldStep
      rw [if_pos h6]
      obtain ⟨k6, hl, kn⟩ := h6
      obtain ⟨out', x, rfl⟩ := snoc_of hl
      simp at kn ⊢
      obtain ⟨s0, hf0, rfl, hn0⟩ := h.last kn
      have hnv : needV o = 1 := by simp [needV, k6]
      have hnx : nextV o (s0.1 ++ [x.n], s0.2) = (s0.1 ++ [(unS o.text x.n).1], s0.2) := by
        simp [nextV, hnv, resA, resV, k6, evV]
      rw [hnx]
      have hxo := h.ok x (by simp)
      have hr := unS_rng o.text x.n
      have := hf0.num (x := { x with n := (unS o.text x.n).1 }) kn (by unfold needsS at hn0 ⊢; exact (by simpa [kn] using hn0)) ⟨hxo.1, hr.1, hr.2⟩
      simpa using this
    · by_cases h7 : o.kind = 7 ∧ 2 ≤ out.length ∧ (out.getD (out.length - 1) default).kind = 1 ∧ (out.getD (out.length - 2) default).kind = 1
      · unfold foldStep
        rw [if_neg h6, if_pos h7]
        obtain ⟨k7, hl, kn, km⟩ := h7
        obtain ⟨out1, y, rfl⟩ := snoc_of (l := out) (by omega)
        obtain ⟨out', x, rfl⟩ := snoc_of (l := out1) (by simp at hl; omega)
        have e2 : (out' ++ [x] ++ [y]).length - 2 = out'.length := by simp
        have e1 : (out' ++ [x] ++ [y]).length - 1 = out'.length + 1 := by simp
        rw [e1] at kn ⊢
        rw [e2] at km ⊢
        have g1 : (out' ++ [x] ++ [y]).getD (out'.length + 1) default = y := by simp
        have g2 : (out' ++ [x] ++ [y]).getD out'.length default = x := by simp
        rw [g1] at kn ⊢
        rw [g2] at km ⊢
        obtain ⟨s1, hf1, rfl, hn1⟩ := h.last kn
        obtain ⟨s0, hf0, rfl, hn0⟩ := hf1.last km
        have hnv : needV o = 2 := by simp [needV, k7]
        have hnx : nextV o ((s0.1 ++ [x.n]) ++ [y.n], s0.2) = (s0.1 ++ [(binS o.text x.n y.n).1], s0.2) := by
          have d : ((s0.1 ++ [x.n]) ++ [y.n]).length - 2 = s0.1.length := by simp
          simp only [nextV, hnv, resA, resV, k7, evV, d]
          simp
        rw [hnx]
        have hxo := h.ok x (by simp)
        have hr := binS_rng o.text x.n y.n hxo.2.1 hxo.2.2
        have := hf0.num (x := { x with n := (binS o.text x.n y.n).1 }) km (by unfold needsS at hn0 ⊢; exact (by simpa [km] using hn0)) ⟨hxo.1, hr.1, hr.2⟩
        have hset : ((out' ++ [x] ++ [y]).set out'.length { x with n := (binS o.text x.n y.n).1 }).take (out'.length + 1) = out' ++ [{ x with n := (binS o.text x.n y.n).1 }] := by
          simp [List.set_append, List.take_append]
          exact List.take_of_length_le (by omega)
        rw [hset]
        exact this
      · have hfs : foldStep out o = out ++ [o] := by unfold foldStep; rw [if_neg h6, if_neg h7]
        rw [hfs]
        refine ⟨?_, runV_add h.v hst.1, ?_, ?_⟩
        · rw [← hst.2.1]; exact runC_add h.c hc
        · rw [List.foldl_append, h.f]
          simpa using hfs
        · intro p hp
          simp only [List.mem_append, List.mem_singleton] at hp
          rcases hp with hp | rfl
          · exact h.ok p hp
          · exact ho
  · unfold foldStep
    split
    · simp
    · split
      · simp; omega
      · simp
theorem Folded.run (f : List Opn) : ∀ {out : List Opn} {s : VSt} {v' : Int}, Folded out s → runC f (s.1.length : Int) = some v' → OkF f →
    ∃ t, runV f s = some t ∧ Folded (f.foldl foldStep out) t ∧ v' = (t.1.length : Int) ∧ (f.foldl foldStep out).length ≤ out.length + f.length := by
  induction f with
  | nil => intro out s v' h hc _; injection hc with hc; exact ⟨s, rfl, h, hc.symm, by simp⟩
  | cons o r ih =>
    intro out s v' h hc hok
    obtain ⟨u, h1, h2⟩ := runC_cons hc
    obtain ⟨k1, k2, k3⟩ := h.step h1 (hok o (by simp))
    subst k2
    obtain ⟨t, t1, t2, t3, t4⟩ := ih k1 h2 (fun p hp => hok p (by simp [hp]))
    refine ⟨t, ?_, t2, t3, ?_⟩
    · unfold runV at t1 ⊢
      rw [List.foldlM_cons, (stepV_ok h1).1]
      exact t1
    · simp only [List.foldl_cons, List.length_cons]; omega

/-- The value of a valid formula, and of the folded one, and what they did. -/
theorem means (f : List Opn) (hf : OkF f) (h : (foldS f).2 = 0) :
    checkS (foldS f).1 = 0 ∧ foldS (foldS f).1 = ((foldS f).1, 0) ∧ OkF (foldS f).1 ∧ (foldS f).1.length ≤ f.length ∧ checkS f = 0 ∧
    ∃ x ev, runV f ([], []) = some ([x], ev) ∧ runV (foldS f).1 ([], []) = some ([x], ev) := by
  unfold foldS at h ⊢
  by_cases hc : checkS f = 0
  · rw [if_neg (fun q => q hc)] at h ⊢
    simp only
    have hlen : ¬ 256 < f.length := by intro q; unfold checkS at hc; rw [if_pos q] at hc; cases hc
    have hrun : runC f 0 = some 1 := by unfold checkS at hc; rw [if_neg hlen] at hc; exact (checkGo_run f 0).1 hc
    obtain ⟨t, t1, t2, t3, t4⟩ := Folded.run f (out := []) (s := ([], [])) (v' := 1) ⟨rfl, rfl, rfl, fun o ho => by cases ho⟩ hrun hf
    rw [← foldGo_foldl] at t2 t4
    have hl : (foldGo f []).length ≤ f.length := by simpa using t4
    have hck : checkS (foldGo f []) = 0 := by
      unfold checkS
      rw [if_neg (by omega)]
      exact (checkGo_run _ 0).2 (by rw [t2.c, ← t3])
    refine ⟨hck, ?_, t2.ok, hl, hc, ?_⟩
    · rw [if_neg (fun q => q hck), foldGo_foldl, t2.f]
    · obtain ⟨s, ev⟩ := t
      simp only at t3
      have hs : s.length = 1 := by omega
      obtain ⟨x, rfl⟩ := List.length_eq_one_iff.1 hs
      exact ⟨x, ev, t1, t2.v⟩
  · rw [if_pos hc] at h; exact absurd h hc
theorem fold_err (f : List Opn) (h : (foldS f).2 ≠ 0) : (foldS f).1 = [] := by
  unfold foldS at h ⊢
  by_cases hc : checkS f = 0
  · rw [if_neg (fun q => q hc)] at h; exact absurd rfl h
  · rw [if_pos hc]
end Go.Proofs.Ytchdpjgncojhaaa
