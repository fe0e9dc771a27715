/- Expressions: within and parentheses where they fail. -/
import Derived.Test.YtchdpjgncojhaaaE3
set_option linter.unusedVariables false
set_option linter.unusedSimpArgs false
namespace Go.Proofs.Ytchdpjgncojhaaa
open Go.RowKit

set_option maxRecDepth 100000 in
theorem within_deep (n0 g : Nat) (st : PSt) (F : Nat) (first caps : Array Value) (w : World) (h : PW w n0 g st) (hd : 24 < st.depth) :
    Calls Try.prog 97 #[.pointer (some ⟨g, 0, none⟩), .func (.func F) first caps] w (PPost n0 g w (pfail st 11)) := by
  have H := Lib.hid h
  obtain ⟨hn0, hol, htl, A, n, c, Ao, co, hb, hsl, hown⟩ := h
  have c1 := cell_blk hb 1
  simp only [List.getElem?_toArray, List.getElem?_cons_succ, List.getElem?_cons_zero] at c1
  clear hb hsl hown htl hol
  go_enter Try.func97, Try.ntmps97
  go_wp2_with fail
  refine (fail_any n0 g st 11 _ H.out).mono ?_
  rintro e w' ⟨rfl, hw, hf⟩
  go_wp2
  go_ret
  exact ⟨rfl, hw, hf⟩

set_option maxRecDepth 100000 in
theorem parens_no (n0 g : Nat) (st : PSt) (F : Nat) (first caps : Array Value) (w : World) (h : PW w n0 g st) (hnx : pnext st [40] = false) :
    Calls Try.prog 99 #[.pointer (some ⟨g, 0, none⟩), .func (.func F) first caps] w (PPost n0 g w (pfail st 4)) := by
  have H := Lib.hid h; clear h
  have HN := Lib.hid hnx; clear hnx
  go_enter Try.func99, Try.ntmps99
  go_wp2_with fail
  have hpw2 : PW ((w.alloc (.cells #[.pointer (some ⟨g, 0, none⟩)] 57)).alloc (.cells #[.func (.func F) first caps] 23)) n0 g st := H.out.below ((boxed).alloc (by simp) _)
  refine (next_is n0 g st [40] _ hpw2).mono ?_
  rw [HN.out]
  rintro e w' ⟨rfl, rfl⟩
  go_wp2_with fail
  refine (fail_any n0 g st 4 _ hpw2).mono ?_
  rintro e w' ⟨rfl, hw, hf⟩
  go_wp2
  go_ret
  exact ⟨rfl, hw, PM.trans (Frm.any (boxed.alloc (by simp) _)) hf⟩

set_option maxRecDepth 100000 in
theorem parens_deep (n0 g : Nat) (st : PSt) (F : Nat) (first caps : Array Value) (w : World) (h : PW w n0 g st) (hnx : pnext st [40] = true) (hd : 24 < st.depth) :
    Calls Try.prog 99 #[.pointer (some ⟨g, 0, none⟩), .func (.func F) first caps] w (PPost n0 g w (pfail st 11)) := by
  have H := Lib.hid h; clear h
  have HN := Lib.hid hnx; clear hnx
  go_enter Try.func99, Try.ntmps99
  go_wp2_with fail
  have hpw2 : PW ((w.alloc (.cells #[.pointer (some ⟨g, 0, none⟩)] 57)).alloc (.cells #[.func (.func F) first caps] 23)) n0 g st := H.out.below ((boxed).alloc (by simp) _)
  refine (next_is n0 g st [40] _ hpw2).mono ?_
  rw [HN.out]
  rintro e w' ⟨rfl, rfl⟩
  go_wp2_with fail
  refine (within_deep n0 g st _ _ _ _ hpw2 hd).mono ?_
  rintro e w' ⟨rfl, hw, hf⟩
  go_wp2
  go_ret
  exact ⟨rfl, hw, PM.trans (Frm.any (boxed.alloc (by simp) _)) hf⟩

/-- parentheses(part) as the plain parser has it. -/
theorem parens_all (X : Nat → Prop) (R : World → Prop) (n0 g : Nat) (st : PSt) (F : Nat) (first caps : Array Value) (hF : ∀ (args : Array Value) (w : World), (callFunc F args).run Try.prog w = .ok (.enter F args) w)
    (hR : Lasts R n0 g) (part : PSt → PRes) (hgood : ∀ st x, part st = some x → x.2.1.depth = st.depth) (r : Bool × PSt × Int) (hr : pparens part st = some r) (w : World) (h : PW w n0 g st) (hd0 : 0 ≤ st.depth) (hX : ∀ k, X k → k < w.heap.size)
    (R0 : World → Prop) (hR0 : R0 w) (hlast0 : Lasts R0 n0 g)
    (hpart : ∀ x, part { st with depth := st.depth + 1, rest := st.rest.tail } = some x → ∀ w1, PW w1 n0 g { st with depth := st.depth + 1, rest := st.rest.tail } → R0 w1 → Frm (PM n0 g w) w w1 → Calls Try.prog F (first ++ caps) w1 (PPostX X R n0 g w1 x.1 x.2.1)) :
    Calls Try.prog 99 #[.pointer (some ⟨g, 0, none⟩), .func (.func F) first caps] w (fun e w' => e = .returned (.bool r.1) ∧ PW w' n0 g r.2.1 ∧ Frm (PMX X n0 g w) w w' ∧ ((∃ x, part { st with depth := st.depth + 1, rest := st.rest.tail } = some x ∧ pnext st [40] = true ∧ st.depth ≤ 24 ∧ R w') ∨ r.1 = false)) := by
  cases hnx : pnext st [40]
  · have hr2 : r = ((pfail st 4).1, (pfail st 4).2, 0) := by
      unfold pparens at hr
      rw [hnx] at hr
      injection hr with hr
      exact hr.symm
    subst hr2
    refine (parens_no n0 g st F first caps w h hnx).mono ?_
    rintro e w' ⟨he, hw, hf⟩
    exact ⟨he, hw, PMX.of hf, .inr rfl⟩
  · by_cases hdp : 24 < st.depth
    · have hr2 : r = ((pfail st 11).1, (pfail st 11).2, 0) := by
        unfold pparens pwithin at hr
        rw [hnx, if_pos rfl, if_pos hdp] at hr
        injection hr with hr
        exact hr.symm
      subst hr2
      refine (parens_deep n0 g st F first caps w h hnx hdp).mono ?_
      rintro e w' ⟨he, hw, hf⟩
      exact ⟨he, hw, PMX.of hf, .inr rfl⟩
    · unfold pparens pwithin at hr
      rw [hnx, if_pos rfl, if_neg hdp] at hr
      unfold pdown pclose at hr
      cases hq : part { st with depth := st.depth + 1, rest := st.rest.tail } with
      | none => simp only [hq] at hr; cases hr
      | some x =>
        simp only [hq, Option.map_some, Option.some.injEq] at hr
        have hdx := hgood _ _ hq
        have := parens_any X R n0 g st F first caps hF hR x.1 x.2.1 w h hnx (by omega) hd0 hdx hX (fun w1 hw1 hf1 => hpart x hq w1 hw1 (hlast0 _ _ hR0 hf1) hf1)
        refine this.mono ?_
        rintro e w' ⟨he, hw, hf, hR'⟩
        obtain ⟨b, s, n⟩ := x
        subst hr
        cases b
        · exact ⟨he, hw, hf, .inl ⟨_, rfl, rfl, by omega, hR'⟩⟩
        · exact ⟨he, hw, hf, .inl ⟨_, rfl, rfl, by omega, hR'⟩⟩

/-- Where a slice of tokens begins behind its first one. -/
def tailA (A : Option Addr) (c : Nat) : Option Addr := if c = 1 then A else A.map fun x => { block := x.block, off := x.off + 2 }
theorem Sl.tail_ {w : World} {S : Nat → Prop} {A : Option Addr} {n c : Nat} {xs : List Tok} (h : Sl w S A n c xs) (hn : 1 ≤ n) : Sl w S (tailA A c) (n - 1) (c - 1) xs.tail := by
  unfold tailA
  by_cases hc : c = 1
  · rw [if_pos hc]; subst hc; exact h.tail1 hn rfl
  · rw [if_neg hc]; exact h.tail2 hn hc
theorem run_tail (w : World) (A : Option Addr) (n c : Nat) (h1 : 1 ≤ n) (h2 : n ≤ c) (h3 : c ≤ 9223372036854775807) :
    (Instr.slice 22 (.slice A n c) (some (.int .i64 1)) none none).run Try.prog w = .ok (.slice (tailA A c) (n - 1) (c - 1)) w := by
  have h4 : 1 ≤ c := by omega
  unfold tailA
  by_cases hc : c = 1
  · subst hc
    simp [go_sem, Try.underlying22]
    intro h; omega
  · simp [go_sem, hc, Try.underlying22]
    intro h; omega
end Go.Proofs.Ytchdpjgncojhaaa
