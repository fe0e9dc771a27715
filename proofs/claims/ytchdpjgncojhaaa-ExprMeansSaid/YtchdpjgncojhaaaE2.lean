/- Expressions: the parser's state in memory; the walks of its small methods. -/
import Derived.Test.YtchdpjgncojhaaaE1
set_option linter.unusedVariables false
set_option linter.unusedSimpArgs false
namespace Go.Proofs.Ytchdpjgncojhaaa
open Go.RowKit

/-- Block g is a parser in state st; its tokens lie below block n0, its formula is its own. -/
def PW (w : World) (n0 g : Nat) (st : PSt) : Prop :=
  n0 ≤ g ∧ st.out.length ≤ 100000 ∧ (∀ t ∈ st.rest, t.text.length ≤ 9223372036854775807) ∧ ∃ A n c Ao co, w.heap[g]? = some (.cells #[.slice A n c, .int .i64 st.depth, .slice Ao st.out.length co, .int .i64 st.err] 59 (0, 0)) ∧
    Sl w (fun b => b < n0) A n c st.rest ∧ Own w (fun _ => False) (g + 1) 50 Ao co st.out
/-- The blocks that a parser's methods may turn: its own, and rows of operations. -/
def PM (n0 g : Nat) (w : World) (b : Nat) : Prop := n0 ≤ b ∧ (b = g ∨ ∃ cs fz, w.heap[b]? = some (.cells cs 50 fz))
def PPost (n0 g : Nat) (w : World) (r : Bool × PSt) (e : Ending) (w' : World) : Prop := e = .returned (.bool r.1) ∧ PW w' n0 g r.2 ∧ Frm (PM n0 g w) w w'

theorem PM.trans {n0 g : Nat} {a b c : World} (h : Frm (PM n0 g a) a b) (k : Frm (PM n0 g b) b c) : Frm (PM n0 g a) a c :=
  h.transM k fun i hi hm => by
    refine Classical.byContradiction fun hn => ?_
    obtain ⟨h0, hm⟩ := hm
    rcases hm with rfl | ⟨cs, fz, hm⟩
    · exact hn ⟨h0, .inl rfl⟩
    · exact hn ⟨h0, .inr ⟨cs, fz, by rw [← h.block i hi hn, hm]⟩⟩
theorem Frm.blk {n0 g : Nat} {w w' : World} (h : Frm (PM n0 g w) w w') {b : Nat} {cs : Array Value} {t : TypeId} {fz : Nat × Nat} (hb : w.heap[b]? = some (.cells cs t fz)) (ht : t ≠ 50) (hg : b ≠ g) : w'.heap[b]? = some (.cells cs t fz) := by
  rw [h.block b (Array.getElem?_eq_some_iff.1 hb).1, hb]
  rintro ⟨_, rfl | ⟨cs', fz', h'⟩⟩
  · exact hg rfl
  · rw [hb] at h'
    injection h' with h'
    injection h' with _ e
    exact ht e
theorem Own.typed {α : Type} [GoT α] {w : World} {T : Nat → Prop} {base e : Nat} {A : Option Addr} {c : Nat} {xs : List α} (h : Own w T base e A c xs) {k : Nat} (hk : A.map Addr.block = some k) : ∃ cs fz, w.heap[k]? = some (.cells cs e fz) := by
  obtain ⟨cs, ⟨_, h⟩, _⟩ := h
  rcases h with ⟨hv, _⟩ | ⟨g, cap, cur, hv, _, hg, _⟩
  · injection hv with e1; subst e1; cases hk
  · injection hv with e1; subst e1
    injection hk with hk
    subst hk
    exact ⟨_, _, hg⟩

/-- A store into the parser's block. -/
theorem PW.lt {w : World} {n0 g : Nat} {st : PSt} (h : PW w n0 g st) : g < w.heap.size := by
  obtain ⟨_, _, _, A, n, c, Ao, co, hb, _⟩ := h
  exact (Array.getElem?_eq_some_iff.1 hb).1
theorem Blk.set (w : World) {g : Nat} {cs : Array Value} {t : TypeId} (h : w.heap[g]? = some (.cells cs t (0, 0))) (i : Nat) (u : Value) : (w.setCell ⟨g, i, none⟩ u).heap[g]? = some (.cells (cs.setIfInBounds i u) t (0, 0)) := by
  simp [World.setCell, Array.getElem?_modify, h]
theorem set_other (w : World) (g i : Nat) (u : Value) (k : Nat) (h : k ≠ g) : (w.setCell ⟨g, i, none⟩ u).heap[k]? = w.heap[k]? := Below.heap_setCell w ⟨g, i, none⟩ u k h
/-- The parser's block has been written; all else that was there is as it was. -/
theorem PW.mk_ {w w' : World} {n0 g : Nat} {st : PSt} (hn0 : n0 ≤ g) (hol : st.out.length ≤ 100000) (htl : ∀ t ∈ st.rest, t.text.length ≤ 9223372036854775807) {A Ao : Option Addr} {n c co : Nat}
    (hb : w'.heap[g]? = some (.cells #[.slice A n c, .int .i64 st.depth, .slice Ao st.out.length co, .int .i64 st.err] 59 (0, 0)))
    (hs : Sl w (fun b => b < n0) A n c st.rest) (ho : Own w (fun _ => False) (g + 1) 50 Ao co st.out) (hk : ∀ k, k < w.heap.size → k ≠ g → w'.heap[k]? = w.heap[k]?) : PW w' n0 g st :=
  ⟨hn0, hol, htl, A, n, c, Ao, co, hb, hs.keep fun k h1 h2 => hk k h1 (by omega), ho.keep fun k h1 h2 => hk k h1 (by rcases h2 with h2 | h2; exact h2.elim; have := (ho.lt k h2).1; omega)⟩
theorem PW.below {w w' : World} {n0 g : Nat} {st : PSt} (h : PW w n0 g st) (hb : Below w.heap.size w w') : PW w' n0 g st := by
  obtain ⟨hn0, hol, htl, A, n, c, Ao, co, hg, hs, ho⟩ := h
  exact ⟨hn0, hol, htl, A, n, c, Ao, co, keptBlk hb hg, hs.below hb, ho.below hb⟩

theorem Sl.tail1 {w : World} {S : Nat → Prop} {A : Option Addr} {n c : Nat} {xs : List Tok} (h : Sl w S A n c xs) (hn : 1 ≤ n) (hc : c = 1) : Sl w S A (n - 1) 0 xs.tail := by
  have := h.cut hn
  rw [if_pos hc, List.drop_one] at this
  subst hc
  exact this
theorem Sl.tail2 {w : World} {S : Nat → Prop} {A : Option Addr} {n c : Nat} {xs : List Tok} (h : Sl w S A n c xs) (hn : 1 ≤ n) (hc : ¬ c = 1) : Sl w S (A.map fun x => { block := x.block, off := x.off + 2 }) (n - 1) (c - 1) xs.tail := by
  have := h.cut hn
  rw [if_neg hc, List.drop_one] at this
  exact this

theorem fail_any (n0 g : Nat) (st : PSt) (e : Int) (w : World) (h : PW w n0 g st) :
    Calls Try.prog 37 #[.pointer (some ⟨g, 0, none⟩), .int .i64 e] w (PPost n0 g w (pfail st e)) := by
  obtain ⟨hn0, hol, htl, A, n, c, Ao, co, hb, hsl, hown⟩ := h
  have c3 := cell_blk hb 3
  have z3 : w.frozen? ⟨g, 3, none⟩ = false := by simp [World.frozen?, hb]
  simp only [List.getElem?_toArray, List.getElem?_cons_succ, List.getElem?_cons_zero] at c3
  have HB := Lib.hid hb; clear hb
  have HS := Lib.hid hsl; clear hsl
  have HO := Lib.hid hown; clear hown
  by_cases he : st.err = 0
  · have hp : pfail st e = (false, { st with err := e }) := by simp [pfail, he]
    rw [hp]
    have he' : (st.err == 0) = true := by simpa using he
    clear he hp
    go_enter Try.func37, Try.ntmps37
    go_wp2
    go_ret
    exact ⟨rfl, PW.mk_ hn0 hol htl (by rw [Blk.set w HB.out 3]; rfl) HS.out HO.out (fun k _ hk => set_other _ _ _ _ _ hk), (Frm.refl _ _).setCell (fun _ => ⟨hn0, .inl rfl⟩) _⟩
  · have hp : pfail st e = (false, st) := by simp [pfail, he]
    rw [hp]
    have he' : (st.err == 0) = false := by simpa using he
    clear he hp
    go_enter Try.func37, Try.ntmps37
    go_wp2
    go_ret
    exact ⟨rfl, ⟨hn0, hol, htl, A, n, c, Ao, co, HB.out, HS.out, HO.out⟩, Frm.refl _ _⟩

set_option maxHeartbeats 1000000 in
theorem put_any (n0 g : Nat) (st : PSt) (k : Int) (t : Bs) (m : Int) (w : World) (h : PW w n0 g st) (hlen : st.out.length < 100000) :
    Calls Try.prog 77 #[.pointer (some ⟨g, 0, none⟩), .int .i64 k, .string ⟨t.toArray⟩, .int .u32 m] w (PPost n0 g w (pput st k t m)) := by
  have hlt := h.lt
  obtain ⟨hn0, hol, htl, A, n, c, Ao, co, hb, hsl, hown⟩ := h
  have c2 := cell_blk hb 2
  simp only [List.getElem?_toArray, List.getElem?_cons_succ, List.getElem?_cons_zero] at c2
  have HB := Lib.hid hb; clear hb
  have HS := Lib.hid hsl; clear hsl
  have HO := Lib.hid hown; clear hown
  unfold pput
  go_enter Try.func77, Try.ntmps77
  go_wp2_with (at_builtin; refine wpList_app1 rfl (.tmp 13) (.tmp 18) eltOpn rfl (by decide) rfl rfl rfl (HO.out.alloc _) rfl [.int .i64 k, .string ⟨t.toArray⟩, .int .u32 m] ⟨k, t, m⟩ (blkAt _ _ rfl) rfl ⟨rfl, rfl, rfl⟩ (by omega) (by omega) (by simp; omega) ?_; intro A' c' w2 hown' hg hat; have hb2 := grownBlk hg (blkOld HB.out _) (HO.out.ne_lt (Nat.lt_succ_self g)); have hc2 := cell_blk hb2 2; have hz2 := frz_blk hb2 2; simp only [List.getElem?_toArray, List.getElem?_cons_succ, List.getElem?_cons_zero] at hc2)
  go_ret
  refine ⟨rfl, PW.mk_ hn0 (by simp; omega) htl (A := A) (n := n) (c := c) (Ao := A') (co := c') (by rw [Blk.set w2 hb2 2]; simp) ((HS.out.alloc _).keep (fun k h1 h2 => hg.block k h1 (fun e => (HO.out.ne_lt (by omega)) e.symm))) hown' (fun k _ hk => set_other _ _ _ _ _ hk), ?_⟩
  exact (((Frm.refl _ _).alloc _).grown hg (fun k hk _ => ⟨by have := (HO.out.lt k hk).1; omega, .inr (HO.out.typed hk)⟩)).setCell (fun _ => ⟨hn0, .inl rfl⟩) _

set_option maxHeartbeats 1000000 in
theorem next_is (n0 g : Nat) (st : PSt) (s : Bs) (w : World) (h : PW w n0 g st) :
    Calls Try.prog 101 #[.pointer (some ⟨g, 0, none⟩), .string ⟨s.toArray⟩] w fun e w' => e = .returned (.bool (pnext st s)) ∧ w = w' := by
  obtain ⟨hn0, hol, htl, A, n, c, Ao, co, hb, hsl, hown⟩ := h
  have c0 := cell_blk hb 0
  simp only [List.getElem?_toArray, List.getElem?_cons_zero] at c0
  have hn := hsl.len
  subst hn
  have hle := hsl.le
  unfold pnext
  generalize st.rest = rest at *
  cases rest with
  | nil =>
    clear hb hsl hown htl
    simp only [List.length_nil] at c0
    go_enter Try.func101, Try.ntmps101
    go_wp2
    go_ret
    exact ⟨rfl, rfl⟩
  | cons t r =>
    obtain ⟨b, o, rfl, -, -, h1, h2⟩ := hsl.tok (k := 0) (by simp)
    simp only [List.getElem_cons_zero, Nat.zero_mul, Nat.add_zero] at h1 h2
    simp only [List.length_cons] at c0 hle
    clear hb hsl hown htl
    obtain ⟨v, hv⟩ : ∃ v, v = decide (t = ⟨3, s⟩) := ⟨_, rfl⟩
    simp only
    rw [← hv]
    have Hv := Lib.hid hv; clear hv
    go_enter Try.func101, Try.ntmps101
    go_wp2
    go_ret
    refine ⟨ret_bool ?_, rfl⟩
    rw [Hv.out]
    obtain ⟨tk, tt⟩ := t
    simp

set_option maxHeartbeats 1000000 in
theorem take_any (n0 g : Nat) (st : PSt) (s : Bs) (w : World) (h : PW w n0 g st) :
    Calls Try.prog 110 #[.pointer (some ⟨g, 0, none⟩), .string ⟨s.toArray⟩] w (PPost n0 g w (ptake st s)) := by
  have h0 := h
  have H0 := Lib.hid h0; clear h0
  cases hnx : pnext st s
  · have hp : ptake st s = pfail st 4 := by unfold ptake; rw [hnx]; rfl
    rw [hp]
    clear hp h
    go_enter Try.func110, Try.ntmps110
    go_wp2_with fail
    refine (next_is n0 g st s _ H0.out).mono ?_
    rw [hnx]
    rintro e w' ⟨rfl, rfl⟩
    go_wp2_with fail
    refine (fail_any n0 g st 4 _ H0.out).mono ?_
    rintro e w1 ⟨rfl, hw1, hf1⟩
    go_wp2
    go_ret
    exact ⟨rfl, hw1, hf1⟩
  · have hp : ptake st s = (true, { st with rest := st.rest.tail }) := by unfold ptake; rw [hnx]; rfl
    rw [hp]
    clear hp
    obtain ⟨hn0, hol, htl, A, n, c, Ao, co, hb, hsl, hown⟩ := h
    have c0 := cell_blk hb 0
    have z0 := frz_blk hb 0
    simp only [List.getElem?_toArray, List.getElem?_cons_zero] at c0
    have hn := hsl.len
    subst hn
    have hle := hsl.le
    have hcap := hsl.2.1
    have hrl : 1 ≤ st.rest.length := by
      unfold pnext at hnx
      cases hr : st.rest with
      | nil => rw [hr] at hnx; simp at hnx
      | cons t r => simp
    have HB := Lib.hid hb; clear hb
    have HS := Lib.hid hsl; clear hsl
    have HO := Lib.hid hown; clear hown
    have HN := Lib.hid hnx; clear hnx
    go_enter Try.func110, Try.ntmps110
    go_wp2_with fail
    refine (next_is n0 g st s _ H0.out).mono ?_
    rw [HN.out]
    rintro e w' ⟨rfl, rfl⟩
    go_wp2
    all_goals go_ret
    · have hc : c = 1 := by assumption
      exact ⟨rfl, PW.mk_ hn0 hol (fun t ht => htl t (List.mem_of_mem_tail ht)) (by rw [Blk.set w HB.out 0]; rfl) (HS.out.tail1 hrl hc) HO.out (fun k _ hk => set_other _ _ _ _ _ hk), (Frm.refl _ _).setCell (fun _ => ⟨hn0, .inl rfl⟩) _⟩
    · have hc : ¬ c = 1 := by assumption
      exact ⟨rfl, PW.mk_ hn0 hol (fun t ht => htl t (List.mem_of_mem_tail ht)) (by rw [Blk.set w HB.out 0]; rfl) (HS.out.tail2 hrl hc) HO.out (fun k _ hk => set_other _ _ _ _ _ hk), (Frm.refl _ _).setCell (fun _ => ⟨hn0, .inl rfl⟩) _⟩

end Go.Proofs.Ytchdpjgncojhaaa
