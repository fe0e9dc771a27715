/- Tokens: the walks of token.valid, Name. -/
import Derived.Test.YtchdpjgncojhaaaTokP4
import Derived.Test.YtchdpjgncojhaaaTokSpec2
set_option linter.unusedVariables false
set_option linter.unusedSimpArgs false
namespace Go.Proofs.Ytchdpjgncojhaaa
open Go.RowKit

set_option maxHeartbeats 1000000 in
theorem valid_any (t : Tok) (w : World) (hl : t.text.length ≤ 9223372036854775807) :
    Calls Try.prog 62 #[.agg #[.int .i64 t.kind, .string ⟨t.text.toArray⟩]] w fun e w' => e = .returned (.bool (validT t)) ∧ Below w.heap.size w w' := by
  obtain ⟨k, tx⟩ := t
  obtain ⟨v, hv⟩ : ∃ v, v = validT ⟨k, tx⟩ := ⟨_, rfl⟩
  rw [← hv]
  unfold validT at hv
  simp only at hv hl ⊢
  cases he : tx.isEmpty
  · have h0 : 0 < tx.length := by cases tx with | nil => simp at he | cons a r => simp
    rw [he] at hv
    have hnx := fun w => next_any tx w h0 hl
    generalize nextOf symT tx = q at *
    obtain ⟨⟨qk, qt⟩, qe⟩ := q
    unfold TokRes at hnx
    simp only at hnx hv
    have Hnx := Lib.hid hnx; clear hnx
    have Hv := Lib.hid hv; clear hv
    by_cases hq : qe = 0
    · subst hq
      go_enter Try.func62, Try.ntmps62
      go_wp2_with (go_at_call 72; refine (Hnx.out _).mono ?_; rintro e w1 ⟨rfl, hb1⟩; have hc0 := keptCell hb1 (heap_alloc_new w _) 0; have hc1 := keptCell hb1 (heap_alloc_new w _) 1; simp only [List.getElem?_toArray, List.getElem?_cons_succ, List.getElem?_cons_zero] at hc0 hc1; have hsz1 : w.heap.size < w1.heap.size := by (have := hb1.size; simp at this; omega))
      go_ret
      refine ⟨ret_bool ?_, ((next boxed hb1 (Nat.le_refl _)).alloc (by have := hb1.size; simp at this; omega) _)⟩
      rw [Hv.out]
      rw [show ((⟨qk, qt⟩ : Tok) == ⟨k, tx⟩) = decide ((⟨qk, qt⟩ : Tok) = ⟨k, tx⟩) from rfl]
      simp
    · have hq' : (qe == 0) = false := by simpa using hq
      go_enter Try.func62, Try.ntmps62
      go_wp2_with (go_at_call 72; refine (Hnx.out _).mono ?_; rintro e w1 ⟨rfl, hb1⟩; have hc0 := keptCell hb1 (heap_alloc_new w _) 0; have hc1 := keptCell hb1 (heap_alloc_new w _) 1; simp only [List.getElem?_toArray, List.getElem?_cons_succ, List.getElem?_cons_zero] at hc0 hc1; have hsz1 : w.heap.size < w1.heap.size := by (have := hb1.size; simp at this; omega))
      go_ret
      refine ⟨ret_bool ?_, ((next boxed hb1 (Nat.le_refl _)).alloc (by have := hb1.size; simp at this; omega) _)⟩
      rw [Hv.out, hq']; rfl
  · rw [he] at hv
    have Hv := Lib.hid hv; clear hv
    go_enter Try.func62, Try.ntmps62
    go_wp2
    go_ret
    exact ⟨ret_bool (by rw [Hv.out]; rfl), boxed⟩

set_option maxHeartbeats 1000000 in
theorem name_any (s : Bs) (w : World) (hl : s.length ≤ 9223372036854775807) :
    Calls Try.prog 67 #[.string ⟨s.toArray⟩] w fun e w' => e = .returned (.bool (nameT s)) ∧ Below w.heap.size w w' := by
  obtain ⟨v, hv⟩ : ∃ v, v = nameT s := ⟨_, rfl⟩
  rw [← hv]
  unfold nameT at hv
  by_cases hk : kws.contains s = true
  · rw [hk] at hv
    have Hv := Lib.hid hv; clear hv
    have h3 : s ∈ kws := by simpa using hk
    clear hk
    simp only [kws, List.mem_cons, List.not_mem_nil, or_false] at h3
    rcases h3 with h3 | h3 | h3 | h3 | h3 | h3 | h3 | h3 | h3 | h3 | h3 | h3 | h3 | h3 | h3 | h3 | h3 | h3 | h3 | h3 | h3 | h3
    all_goals
      subst h3
      go_enter Try.func67, Try.ntmps67
      go_wp2
      go_ret
      exact ⟨ret_bool (by rw [Hv.out]; rfl), Below.refl _ _⟩
  · have h3 : ∀ x ∈ kws, (s == x) = false := by
      intro x hx
      rw [beq_eq_false_iff_ne]
      rintro rfl
      exact hk (by simpa using hx)
    rw [Bool.not_eq_true] at hk
    rw [hk] at hv
    have Hv := Lib.hid hv; clear hv hk
    simp only [kws, List.mem_cons, List.not_mem_nil, or_false, forall_eq_or_imp, forall_eq] at h3
    obtain ⟨q1, q2, q3, q4, q5, q6, q7, q8, q9, q10, q11, q12, q13, q14, q15, q16, q17, q18, q19, q20, q21, q22⟩ := h3
    go_enter Try.func67, Try.ntmps67
    go_wp2_with (go_at_call 62; refine (valid_any ⟨1, s⟩ _ hl).mono ?_; rintro e w1 ⟨rfl, hb1⟩)
    go_ret
    exact ⟨ret_bool (by rw [Hv.out]; rfl), hb1⟩

theorem join_any {w : World} {S : Nat → Prop} {A : Option Addr} {n c : Nat} {out : List Bs} (h : Sl w S A n c out) (h0 : 0 < out.length) (h1 : out.length ≤ 256) (h2 : Lib.lens out ≤ 10000000) :
    Calls Try.prog 63 #[.slice A out.length c, .string ⟨#[32]⟩] w fun e w' => (∃ x : ByteArray, e = .returned (.string x)) ∧ Below w.heap.size w w' := by
  obtain ⟨b, o, rfl, -, hb, -⟩ := h.str h0
  have hcell : ∀ (j : Nat) (x : ByteArray), (out.map (fun y => ByteArray.mk y.toArray))[j]? = some x → w.cell? ⟨b, o + j, none⟩ = some (.string x) := by
    intro j x hx
    rw [List.getElem?_map] at hx
    cases hj : out[j]? with
    | none => rw [hj] at hx; simp at hx
    | some y =>
      rw [hj] at hx
      simp only [Option.map_some, Option.some.injEq] at hx
      subst hx
      obtain ⟨hlt, rfl⟩ := List.getElem?_eq_some_iff.1 hj
      obtain ⟨b', o', he, -, -, hc⟩ := h.str hlt
      injection he with he
      injection he with e1 e2
      subst e1 e2
      exact hc
  have hmm : (out.map (fun y => ByteArray.mk y.toArray)).map (fun x => x.data.toList) = out := by
    rw [List.map_map]
    conv => rhs; rw [← List.map_id out]
    rfl
  have hj := Try.strings_Join b o c (out.map (fun y => ByteArray.mk y.toArray)) ⟨#[32]⟩ w hcell hb (by rw [List.length_map]; omega) (by rw [List.length_map, ← h.len]; exact h.2.1) (by
    rw [hmm]
    cases out with
    | nil => simp at h0
    | cons y r => rw [Lib.join_length]; simp only [List.length_cons] at h1; simp; omega)
  rw [List.length_map] at hj
  refine hj.mono ?_
  rintro e w' ⟨rfl, hb⟩
  exact ⟨⟨_, rfl⟩, hb⟩

set_option maxRecDepth 100000 in
set_option maxHeartbeats 2000000 in
theorem print_any (A : Option Addr) (n c : Nat) (w : World) (S : Nat → Prop) (l : List Tok) (hl : Sl w S A n c l) (hs : ∀ t ∈ l, t.text.length ≤ 9223372036854775807) :
    Calls Try.prog 35 #[.slice A n c] w fun e w' => ∃ x : ByteArray, e = .returned (.tuple #[.string x, .int .i64 (printT l)]) ∧ Below w.heap.size w w' := by
  have hn := hl.le
  have hlen := hl.len
  subst hlen
  have HL := Lib.hid hl; clear hl
  have HS := Lib.hid hs; clear hs
  obtain ⟨v, hv⟩ : ∃ v, v = printT l := ⟨_, rfl⟩
  rw [← hv]
  unfold printT at hv
  by_cases hbig : 256 < l.length
  · rw [if_pos hbig] at hv
    have Hv := Lib.hid hv; clear hv
    go_enter Try.func35, Try.ntmps35
    go_wp2
    go_ret2
    exact ⟨⟨#[]⟩, by rw [Hv.out]; rfl, Below.refl _ _⟩
  · rw [if_neg hbig] at hv
    have Hv : Hid (v = printE (l.drop 0)) := hv
    clear hv
    go_enter Try.func35, Try.ntmps35
    go_wp2
    go_loopw [4, 12] (fun o i wr => ∃ (k c : Nat) (A : Option Addr) (out : List Bs), k ≤ l.length ∧ i = .int .i64 k ∧ o = .slice A out.length c ∧ out.length = k ∧ Below w.heap.size w wr ∧ Own wr (fun b => w.heap.size ≤ b) w.heap.size 9 A c out ∧ Hid (v = printE (l.drop k)) ∧ Hid (Lib.lens out ≤ 32 * out.length)) (fun _ i _ => l.length - (intOf i).toNat)
    case atStart => exact ⟨0, 0, none, [], by omega, rfl, rfl, rfl, Below.refl _ _, Own.nil _ _ _ _, Hv, by show _ ≤ _; simp [Lib.lens]⟩
    case round =>
      obtain ⟨k, c2, A2, out, hk, rfl, rfl, hol, hb, hown, hf, hlen⟩ := hrel
      have Hol := Lib.hid hol; clear hol
      have hol2 : out.length ≤ k := by have := Hol.out; omega
      have Hown := Lib.hid hown; clear hown
      by_cases hlt : k < l.length
      · obtain ⟨b, o, rfl, -, hbs, h1, h2⟩ := (HL.out.below hb).tok hlt
        have hd := hf.out
        rw [drop_get hlt, printE] at hd
        have Hd := Lib.hid hd; clear hd hf
        generalize hT : l[k] = t at *
        have hts : t.text.length ≤ 9223372036854775807 := by rw [← hT]; exact HS.out _ (List.getElem_mem _)
        clear hT
        cases hvt : validT t
        · have hd : v = 1 := by rw [Hd.out, hvt]; rfl
          have Hd2 := Lib.hid hd; clear hd
          have Hvt := Lib.hid hvt; clear hvt
          go_wp2_with fail
          refine (valid_any t _ hts).mono ?_
          rw [Hvt.out]
          rintro e w1 ⟨rfl, hb1⟩
          go_wp2
          go_ret2
          exact ⟨⟨#[]⟩, by rw [Hd2.out]; rfl, next (hb.alloc hb.size _) hb1 (Nat.le_refl _)⟩
        · have hd : v = printE (l.drop (k + 1)) := by rw [Hd.out, hvt]; rfl
          have Hd2 := Lib.hid hd; clear hd
          have htl := validT_len hvt
          have Hvt := Lib.hid hvt; clear hvt
          go_wp2_with fail
          refine (valid_any t _ hts).mono ?_
          rw [Hvt.out]
          rintro e w1 ⟨rfl, hb1⟩
          have hc1 := keptCell hb1 (heap_alloc_new wr _) 1
          simp only [List.getElem?_toArray, List.getElem?_cons_succ, List.getElem?_cons_zero] at hc1
          have hsz1 : wr.heap.size < w1.heap.size := by have := hb1.size; simp at this; omega
          have hown1 : Own w1 (fun b => w.heap.size ≤ b) w.heap.size 9 A2 c2 out := (Hown.out.alloc _).below hb1
          have Hown1 := Lib.hid hown1; clear hown1
          have hbw1 : Below w.heap.size w w1 := next (hb.alloc hb.size _) hb1 (Nat.le_refl _)
          go_wp2_with (at_builtin; refine wpList_app1 rfl (.tmp 19) (.tmp 22) eltStr rfl (by decide) rfl rfl rfl (Hown1.out.alloc _) rfl [.string ⟨t.text.toArray⟩] t.text (blkAt _ _ rfl) rfl rfl (by omega) (by omega) (by have := hbw1.size; simp; omega) ?_; intro A' c' w2 hown' hg hat)
          have hbb : Below w.heap.size w w2 := Own.gr (hbw1.alloc hbw1.size _) (Hown1.out.alloc _) hg (Nat.le_refl _) (by have := hbw1.size; simp; omega)
          go_roundw
          case rel => exact ⟨k + 1, c', A', out ++ [t.text], by omega, by go_num, by simp, by simp; exact Hol.out, hbb, hown', Hd2, by show _ ≤ _; have := hlen.out; simp [Lib.lens] at this ⊢; omega⟩
          case measure => simp [intOf]; omega
      · have hd : v = 0 := by rw [hf.out, drop_end hlt]; rfl
        have Hd := Lib.hid hd; clear hd hf
        have hsl := Hown.out.res
        cases out with
        | nil =>
          go_wp2_with fail
          refine (Try.strings_Join_none A2 c2 ⟨#[32]⟩ wr).mono ?_
          rintro e w1 ⟨rfl, rfl⟩
          go_wp2
          go_ret2
          exact ⟨⟨#[]⟩, by rw [Hd.out]; rfl, hb⟩
        | cons y r =>
          have hj := join_any hsl (by simp) (by simp only [List.length_cons] at hol2 ⊢; omega) (by have := hlen.out; simp only [List.length_cons] at hol2 this ⊢; omega)
          have Hj := Lib.hid hj; clear hj hsl
          go_wp2_with fail
          refine Hj.out.mono ?_
          rintro e w1 ⟨⟨x, rfl⟩, hb1⟩
          go_wp2
          go_ret2
          exact ⟨x, by rw [Hd.out]; rfl, next hb hb1 (Nat.le_refl _)⟩
end Go.Proofs.Ytchdpjgncojhaaa
