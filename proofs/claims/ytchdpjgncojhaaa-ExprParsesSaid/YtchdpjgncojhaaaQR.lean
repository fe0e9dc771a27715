/- licitref08: the parser: what the reference's state is beside the plain parser's result; plain lemmas. -/
import Derived.Test.YtchdpjgncojhaaaP3
set_option linter.unusedVariables false
set_option linter.unusedSimpArgs false
namespace Go.Proofs.Ytchdpjgncojhaaa

/-- The reference's state beside a result of the plain parser: the same, or one behind an error. -/
def QR (L : List Tok) (d : Int) (M : Nat) (b : Bool) (s : PSt) (q : Q8) : Prop :=
  (b = true ∧ s.rest = L.drop q.pos ∧ q.pos ≤ L.length ∧ q.depth = s.depth ∧ q.out = s.out ∧ q.err = 0 ∧ s.err = 0 ∧ s.depth = d ∧ s.m ≤ M) ∨
  (b = false ∧ q.err = s.err ∧ s.err ≠ 0 ∧ d - 1 ≤ q.depth ∧ q.depth ≤ d ∧ q.out.length + (L.length - q.pos) ≤ M)
theorem PR8.qr {w : World} {n0 g : Nat} {L : List Tok} {st : PSt} {b : Bool} {s : PSt} (h : PR8 w n0 g L st b s) (hd : s.depth = st.depth) (hm : s.m ≤ st.m) : ∃ q, PW8 w n0 g L q ∧ QR L st.depth (st.m + 1) b s q := by
  cases b
  · obtain ⟨h1, q, h2, h3, h4, h5, h6⟩ := h.2 rfl
    exact ⟨q, h2, .inr ⟨rfl, h3, h1, h4, h5, h6⟩⟩
  · obtain ⟨⟨k, h1, h2⟩, h3⟩ := h.1 rfl
    exact ⟨_, h2, .inl ⟨rfl, h1, h2.2.2.1, rfl, rfl, h3, h3, hd, by omega⟩⟩
theorem QR.pr8 {w : World} {n0 g : Nat} {L : List Tok} {st : PSt} {b : Bool} {s : PSt} {q : Q8} (h : QR L st.depth (st.m + 1) b s q) (hw : PW8 w n0 g L q) : PR8 w n0 g L st b s := by
  rcases h with ⟨rfl, h1, -, h3, h4, h5, h6, -, -⟩ | ⟨rfl, h1, h2, h3, h4, h5⟩
  · refine ⟨fun _ => ⟨⟨q.pos, h1, ?_⟩, h6⟩, fun h => by cases h⟩
    rw [← h3, ← h4, h6, ← h5]
    exact hw
  · exact ⟨fun h => (by cases h), fun _ => ⟨h2, q, hw, h1, h3, h4, h5⟩⟩
theorem QR.more {L : List Tok} {d : Int} {M M' : Nat} {b : Bool} {s : PSt} {q : Q8} (h : QR L d M b s q) (hM : M ≤ M') : QR L d M' b s q := by
  rcases h with ⟨h0, h1, h2, h3, h4, h5, h6, h7, h8⟩ | ⟨h0, h1, h2, h3, h4, h5⟩
  · exact .inl ⟨h0, h1, h2, h3, h4, h5, h6, h7, by omega⟩
  · exact .inr ⟨h0, h1, h2, h3, h4, by omega⟩
theorem QR.err_ {L : List Tok} {d : Int} {M : Nat} {s s' : PSt} {q : Q8} (h : QR L d M false s q) (hs : s'.err = s.err) : QR L d M false s' q := by
  rcases h with ⟨h0, _⟩ | ⟨h0, h1, h2, h3, h4, h5⟩
  · cases h0
  · exact .inr ⟨h0, h1.trans hs.symm, by rw [hs]; exact h2, h3, h4, h5⟩
theorem QR.len {L : List Tok} {d : Int} {M : Nat} {b : Bool} {s : PSt} {q : Q8} (h : QR L d M b s q) : q.out.length ≤ M ∧ d - 1 ≤ q.depth ∧ q.depth ≤ d := by
  rcases h with ⟨h0, h1, h2, h3, h4, h5, h6, h7, h8⟩ | ⟨h0, h1, h2, h3, h4, h5⟩
  · simp only [PSt.m] at h8
    rw [h4]
    exact ⟨by omega, by omega, by omega⟩
  · exact ⟨by omega, h3, h4⟩
def pcl (x : Bool × PSt) : Bool × PSt := if x.1 then ptake x.2 [41] else x
theorem qsym_pnext {L : List Tok} {s : PSt} {q : Q8} (h : s.rest = L.drop q.pos) (t : Bs) : qsym L q t = pnext s t := by
  unfold qsym pnext
  rw [h]
  rfl
theorem QR.close {L : List Tok} {d : Int} {M : Nat} {b : Bool} {s : PSt} {q : Q8} (h : QR L d M b s q) : QR L d M (pcl (b, s)).1 (pcl (b, s)).2 (qexpect L q [41]) := by
  rcases h with ⟨rfl, h1, h2, h3, h4, h5, h6, h7, h8⟩ | ⟨rfl, h1, h2, h3, h4, h5⟩
  · have hq := qsym_pnext h1 [41]
    cases hn : pnext s [41]
    · rw [hn] at hq
      have e1 : qexpect L q [41] = { q with err := 4 } := by simp [qexpect, h5, hq]
      have e2 : pcl (true, s) = (false, { s with err := 4 }) := by simp [pcl, ptake, hn, pfail, h6]
      rw [e1, e2]
      simp only [PSt.m, h1, List.length_drop] at h8
      exact .inr ⟨rfl, rfl, by simp, by simp; omega, by simp; omega, by simp [h4]; omega⟩
    · rw [hn] at hq
      have hlt := qsym_lt hq
      have e1 : qexpect L q [41] = { q with pos := q.pos + 1 } := by simp [qexpect, h5, hq]
      have e2 : pcl (true, s) = (true, { s with rest := s.rest.tail }) := by simp [pcl, ptake, hn]
      rw [e1, e2]
      refine .inl ⟨rfl, ?_, ?_, h3, h4, h5, h6, h7, ?_⟩
      · simp [h1, List.tail_drop]
      · simp; omega
      · simp only [PSt.m, h1, List.length_drop] at h8
        simp only [PSt.m, h1, List.length_tail, List.length_drop]
        omega
  · unfold pcl qexpect
    rw [if_neg (by simp), if_pos (by rw [h1]; exact h2)]
    exact .inr ⟨rfl, h1, h2, h3, h4, h5⟩
theorem QR.down {L : List Tok} {d : Int} {M : Nat} {b : Bool} {s : PSt} {q : Q8} (h : QR L (d + 1) M b s q) : QR L d M b { s with depth := s.depth - 1 } { q with depth := q.depth - 1 } := by
  rcases h with ⟨rfl, h1, h2, h3, h4, h5, h6, h7, h8⟩ | ⟨rfl, h1, h2, h3, h4, h5⟩
  · exact .inl ⟨rfl, h1, h2, by simp [h3], h4, h5, h6, by simp; omega, h8⟩
  · exact .inr ⟨rfl, h1, h2, by simp; omega, by simp; omega, h5⟩
def ppt (x : Bool × PSt) (o : Opn) : PSt := if x.1 then (pput x.2 o.kind o.text o.n).2 else x.2
theorem QR.put {L : List Tok} {d : Int} {M : Nat} {b : Bool} {s : PSt} {q : Q8} (h : QR L d M b s q) (o : Opn) : QR L d (M + 1) b (ppt (b, s) o) { q with out := q.out ++ [o] } := by
  rcases h with ⟨rfl, h1, h2, h3, h4, h5, h6, h7, h8⟩ | ⟨rfl, h1, h2, h3, h4, h5⟩
  · exact .inl ⟨rfl, h1, h2, h3, by simp [ppt, pput, h4], h5, h6, h7, by simp only [PSt.m] at h8; simp [ppt, pput, PSt.m]; omega⟩
  · exact .inr ⟨rfl, h1, h2, h3, h4, by simp; omega⟩
/-- Too deep: enter's error. -/
theorem QR.deep {L : List Tok} {st : PSt} {pos : Nat} (hr : st.rest = L.drop pos) (he : st.err = 0) (s : PSt) (hs : s.err = 11) : QR L (st.depth + 1) st.m false s ⟨pos, st.depth, st.out, 11⟩ :=
  .inr ⟨rfl, hs.symm, by rw [hs]; decide, by show st.depth + 1 - 1 ≤ st.depth; omega, by show st.depth ≤ st.depth + 1; omega, by simp [PSt.m, hr]⟩
theorem qenter_deep {pos : Nat} {d : Int} {o : List Opn} {e : Int} (he : e = 0) (hd : 24 < d) : qenter ⟨pos, d, o, e⟩ = ⟨pos, d, o, 11⟩ := by
  unfold qenter
  rw [if_neg (by simp [he]), if_pos hd]
theorem qenter_ok {pos : Nat} {d : Int} {o : List Opn} {e : Int} (he : e = 0) (hd : ¬ 24 < d) : qenter ⟨pos, d, o, e⟩ = ⟨pos + 1, d + 1, o, e⟩ := by
  unfold qenter
  rw [if_neg (by simp [he]), if_neg hd]

/-- Parentheses: what the plain parser has of what stands in them. -/
theorem pparens_yes {p : PSt → PRes} {st : PSt} {x : Bool × PSt × Int} (h : pparens p st = some x) (hn : pnext st [40] = true) (hd : ¬ 24 < st.depth) :
    ∃ y, p { st with depth := st.depth + 1, rest := st.rest.tail } = some y ∧ x.1 = (pcl (y.1, y.2.1)).1 ∧ x.2.1 = { (pcl (y.1, y.2.1)).2 with depth := (pcl (y.1, y.2.1)).2.depth - 1 } ∧ x.2.2 = y.2.2 := by
  unfold pparens pwithin at h
  rw [if_pos hn, if_neg hd] at h
  simp only at h
  cases hq : p { st with depth := st.depth + 1, rest := st.rest.tail } with
  | none => rw [hq] at h; cases h
  | some y =>
    rw [hq] at h
    refine ⟨y, rfl, ?_⟩
    obtain ⟨b, s, n⟩ := y
    simp only [pclose, pdown, Option.map_some, Option.some.injEq] at h
    subst h
    cases b
    · exact ⟨rfl, rfl, rfl⟩
    · exact ⟨rfl, rfl, rfl⟩
theorem pparens_deep {p : PSt → PRes} {st : PSt} {x : Bool × PSt × Int} (h : pparens p st = some x) (hn : pnext st [40] = true) (hd : 24 < st.depth) : x.1 = false ∧ x.2.1 = (pfail st 11).2 := by
  unfold pparens pwithin at h
  rw [if_pos hn, if_pos hd] at h
  injection h with h
  subst h
  exact ⟨rfl, rfl⟩
theorem pparens_no {p : PSt → PRes} {st : PSt} {x : Bool × PSt × Int} (h : pparens p st = some x) (hn : pnext st [40] = false) : x.1 = false ∧ x.2.1 = (pfail st 4).2 := by
  unfold pparens at h
  rw [if_neg (by rw [hn]; decide)] at h
  injection h with h
  subst h
  exact ⟨rfl, rfl⟩
theorem qexpect_depth (L : List Tok) (q : Q8) (s : Bs) : (qexpect L q s).depth = q.depth := by
  unfold qexpect
  split
  · rfl
  · split <;> rfl
theorem qexpect_out (L : List Tok) (q : Q8) (s : Bs) : (qexpect L q s).out = q.out := by
  unfold qexpect
  split
  · rfl
  · split <;> rfl
/-- The operation may be put ahead of the parenthesis. -/
theorem QR.ahead {L : List Tok} {d : Int} {M : Nat} {b : Bool} {s : PSt} {q : Q8} {o : Opn}
    (h : QR L d M (pcl (b, ppt (b, s) o)).1 { (pcl (b, ppt (b, s) o)).2 with depth := (pcl (b, ppt (b, s) o)).2.depth - 1 } q) :
    QR L d M (pcl (b, s)).1 (ppt ((pcl (b, s)).1, { (pcl (b, s)).2 with depth := (pcl (b, s)).2.depth - 1 }) o) q := by
  cases b
  · exact h
  · cases hn : pnext s [41]
    · have e1 : pcl (true, s) = (false, (pfail s 4).2) := by simp [pcl, ptake, hn, pfail]
      have hn2 : pnext (ppt (true, s) o) [41] = false := hn
      have e2 : pcl (true, ppt (true, s) o) = (false, (pfail (ppt (true, s) o) 4).2) := by simp [pcl, ptake, hn2, pfail]
      rw [e1]
      rw [e2] at h
      refine h.err_ ?_
      simp only [ppt, pput, pfail, Bool.false_eq_true, if_false, if_true]
      split <;> simp
    · have e1 : pcl (true, s) = (true, { s with rest := s.rest.tail }) := by simp [pcl, ptake, hn]
      have hn2 : pnext (ppt (true, s) o) [41] = true := hn
      have e2 : pcl (true, ppt (true, s) o) = (true, { (ppt (true, s) o) with rest := (ppt (true, s) o).rest.tail }) := by simp [pcl, ptake, hn2]
      rw [e1]
      rw [e2] at h
      exact h
theorem pthen_eq {r : PRes} {k : Int} {t : Bs} {x : Bool × PSt × Int} (h : pthen r k t = some x) : ∃ y, r = some y ∧ x.1 = y.1 ∧ x.2.1 = ppt (y.1, y.2.1) ⟨k, t, y.2.2⟩ := by
  unfold pthen at h
  cases hq : r with
  | none => rw [hq] at h; cases h
  | some y =>
    rw [hq] at h
    obtain ⟨b, s, n⟩ := y
    simp only [Option.map_some, Option.some.injEq] at h
    subst h
    cases b <;> exact ⟨_, rfl, rfl, rfl⟩
theorem pzero_eq {r : PRes} {x : Bool × PSt × Int} (h : pzero r = some x) : ∃ y, r = some y ∧ x.1 = y.1 ∧ x.2.1 = y.2.1 ∧ x.2.2 = 0 := by
  unfold pzero at h
  cases hq : r with
  | none => rw [hq] at h; cases h
  | some y =>
    rw [hq] at h
    simp only [Option.map_some, Option.some.injEq] at h
    subst h
    exact ⟨_, rfl, rfl, rfl, rfl⟩
theorem pwithin_deep {p : PSt → PRes} {st : PSt} {x : Bool × PSt × Int} (h : pwithin p st = some x) (hd : 24 < st.depth) : x.1 = false ∧ x.2.1 = (pfail st 11).2 ∧ x.2.2 = 0 := by
  unfold pwithin at h
  rw [if_pos hd] at h
  injection h with h
  subst h
  exact ⟨rfl, rfl, rfl⟩
theorem pwithin_ok {p : PSt → PRes} {st : PSt} {x : Bool × PSt × Int} (h : pwithin p st = some x) (hd : ¬ 24 < st.depth) :
    ∃ y, p { st with depth := st.depth + 1, rest := st.rest.tail } = some y ∧ x.1 = y.1 ∧ x.2.1 = { y.2.1 with depth := y.2.1.depth - 1 } ∧ x.2.2 = y.2.2 := by
  unfold pwithin at h
  rw [if_neg hd] at h
  cases hq : p { st with depth := st.depth + 1, rest := st.rest.tail } with
  | none => rw [hq] at h; cases h
  | some y =>
    rw [hq] at h
    simp only [pdown, Option.map_some, Option.some.injEq] at h
    subst h
    exact ⟨y, rfl, rfl, rfl, rfl⟩
theorem pfail_err {st : PSt} (h : st.err = 0) (e : Int) : (pfail st e).2.err = e := by simp [pfail, h]
end Go.Proofs.Ytchdpjgncojhaaa
