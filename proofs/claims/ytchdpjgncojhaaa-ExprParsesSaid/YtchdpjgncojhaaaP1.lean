/- licitref08: the parser's state in memory; the walks of its small methods. -/
import Derived.Test.YtchdpjgncojhaaaE3
import Derived.Test.YtchdpjgncojhaaaR2
set_option linter.unusedVariables false
set_option linter.unusedSimpArgs false
namespace Go.Proofs.Ytchdpjgncojhaaa
open Go.RowKit

structure Q8 where
  pos : Nat
  depth : Int
  out : List Opn
  err : Int
/-- Block g is a parser in state q; its tokens lie below block n0, its formula is its own. -/
def PW8 (w : World) (n0 g : Nat) (L : List Tok) (q : Q8) : Prop :=
  n0 ≤ g ∧ q.out.length ≤ 100000 ∧ q.pos ≤ L.length ∧ (∀ t ∈ L, t.text.length ≤ 9223372036854775807) ∧ L.length ≤ 256 ∧ ∃ A c Ao co, w.heap[g]? = some (.cells #[.slice A L.length c, .int .i64 (q.pos : Int), .slice Ao q.out.length co, .int .i64 q.depth, .int .i64 q.err] 62 (0, 0)) ∧
    Sl w (fun b => b < n0) A L.length c L ∧ Own w (fun _ => False) (g + 1) 50 Ao co q.out
theorem PW8.lt {w : World} {n0 g : Nat} {L : List Tok} {q : Q8} (h : PW8 w n0 g L q) : g < w.heap.size := by
  obtain ⟨_, _, _, _, _, A, c, Ao, co, hb, _⟩ := h
  exact (Array.getElem?_eq_some_iff.1 hb).1
theorem PW8.mk_ {w w' : World} {n0 g : Nat} {L : List Tok} {q : Q8} (hn0 : n0 ≤ g) (hol : q.out.length ≤ 100000) (hp : q.pos ≤ L.length) (htl : ∀ t ∈ L, t.text.length ≤ 9223372036854775807) (hL : L.length ≤ 256) {A Ao : Option Addr} {c co : Nat}
    (hb : w'.heap[g]? = some (.cells #[.slice A L.length c, .int .i64 (q.pos : Int), .slice Ao q.out.length co, .int .i64 q.depth, .int .i64 q.err] 62 (0, 0)))
    (hs : Sl w (fun b => b < n0) A L.length c L) (ho : Own w (fun _ => False) (g + 1) 50 Ao co q.out) (hk : ∀ k, k < w.heap.size → k ≠ g → w'.heap[k]? = w.heap[k]?) : PW8 w' n0 g L q :=
  ⟨hn0, hol, hp, htl, hL, A, c, Ao, co, hb, hs.keep fun k h1 h2 => hk k h1 (by omega), ho.keep fun k h1 h2 => hk k h1 (by rcases h2 with h2 | h2; exact h2.elim; have := (ho.lt k h2).1; omega)⟩
theorem PW8.below {w w' : World} {n0 g : Nat} {L : List Tok} {q : Q8} (h : PW8 w n0 g L q) (hb : Below w.heap.size w w') : PW8 w' n0 g L q := by
  obtain ⟨hn0, hol, hp, htl, hL, A, c, Ao, co, hg, hs, ho⟩ := h
  exact ⟨hn0, hol, hp, htl, hL, A, c, Ao, co, keptBlk hb hg, hs.below hb, ho.below hb⟩

def qfail (q : Q8) (e : Int) : Q8 := if q.err = 0 then { q with err := e } else q
def qsym (L : List Tok) (q : Q8) (s : Bs) : Bool := match L.drop q.pos with | [] => false | t :: _ => decide (t = ⟨3, s⟩)
def qexpect (L : List Tok) (q : Q8) (s : Bs) : Q8 := if q.err ≠ 0 then q else if qsym L q s then { q with pos := q.pos + 1 } else { q with err := 4 }
def qenter (q : Q8) : Q8 := if q.err ≠ 0 then q else if 24 < q.depth then { q with err := 11 } else { q with depth := q.depth + 1, pos := q.pos + 1 }
theorem qsym_lt {L : List Tok} {q : Q8} {s : Bs} (h : qsym L q s = true) : q.pos < L.length := by
  unfold qsym at h
  refine Classical.byContradiction fun hn => ?_
  rw [List.drop_eq_nil_of_le (by omega)] at h
  cases h
def Post8 (n0 g : Nat) (L : List Tok) (w : World) (q : Q8) (e : Ending) (w' : World) : Prop := e = .returned (.tuple #[]) ∧ PW8 w' n0 g L q ∧ Frm (PM n0 g w) w w'

theorem fail8_any (n0 g : Nat) (L : List Tok) (q : Q8) (e : Int) (w : World) (h : PW8 w n0 g L q) :
    Calls Try.prog 40 #[.pointer (some ⟨g, 0, none⟩), .int .i64 e] w (Post8 n0 g L w (qfail q e)) := by
  have H := Lib.hid h
  obtain ⟨hn0, hol, hp, htl, hL, A, c, Ao, co, hb, hsl, hown⟩ := h
  have c4 := cell_blk hb 4
  have z4 := frz_blk hb 4
  simp only [List.getElem?_toArray, List.getElem?_cons_succ, List.getElem?_cons_zero] at c4
  have HB := Lib.hid hb; clear hb
  have HS := Lib.hid hsl; clear hsl
  have HO := Lib.hid hown; clear hown
  by_cases he : q.err = 0
  · have hq : qfail q e = { q with err := e } := by simp [qfail, he]
    rw [hq]
    have he' : (q.err == 0) = true := by simpa using he
    clear he hq
    go_enter Try.func40, Try.ntmps40
    go_wp2
    ((try simp only [Exit.inBlock, Exit.then]); first | refine bodyPost_ret (results_none rfl _ _ _) rfl ?_ | refine bodyPost_end (results_none rfl _ _ _) rfl ?_)
    exact ⟨rfl, PW8.mk_ hn0 hol hp htl hL (by rw [Blk.set w HB.out 4]; rfl) HS.out HO.out (fun k _ hk => set_other _ _ _ _ _ hk), (Frm.refl _ _).setCell (fun _ => ⟨hn0, .inl rfl⟩) _⟩
  · have hq : qfail q e = q := by simp [qfail, he]
    rw [hq]
    have he' : (q.err == 0) = false := by simpa using he
    clear he hq
    go_enter Try.func40, Try.ntmps40
    go_wp2
    ((try simp only [Exit.inBlock, Exit.then]); first | refine bodyPost_ret (results_none rfl _ _ _) rfl ?_ | refine bodyPost_end (results_none rfl _ _ _) rfl ?_)
    exact ⟨rfl, H.out, Frm.refl _ _⟩

set_option maxHeartbeats 1000000 in
theorem symbol8_any (n0 g : Nat) (L : List Tok) (q : Q8) (s : Bs) (w : World) (h : PW8 w n0 g L q) :
    Calls Try.prog 83 #[.pointer (some ⟨g, 0, none⟩), .string ⟨s.toArray⟩] w fun e w' => e = .returned (.bool (qsym L q s)) ∧ ∃ m, w' = w.drewN m := by
  obtain ⟨hn0, hol, hp, htl, hL, A, c, Ao, co, hb, hsl, hown⟩ := h
  have c0 := cell_blk hb 0
  have c1 := cell_blk hb 1
  simp only [List.getElem?_toArray, List.getElem?_cons_succ, List.getElem?_cons_zero] at c0 c1
  have hle := hsl.le
  by_cases hlt : q.pos < L.length
  · obtain ⟨b, o, rfl, -, -, h1, h2⟩ := hsl.tok (k := q.pos) hlt
    have hq : qsym L q s = decide (L[q.pos] = ⟨3, s⟩) := by unfold qsym; rw [drop_get hlt]
    rw [hq]
    have hlt' : (q.pos : Int) < (L.length : Int) := by omega
    have hge' : (0 : Int) ≤ (q.pos : Int) := by omega
    generalize L[q.pos] = t at *
    clear hb hsl hown htl hq hp
    obtain ⟨tk, tt⟩ := t
    simp only at h1 h2
    by_cases hk : tk = 3
    · subst hk
      obtain ⟨v, hv⟩ : ∃ v, v = decide ((⟨3, tt⟩ : Tok) = ⟨3, s⟩) := ⟨_, rfl⟩
      rw [← hv]
      have Hv := Lib.hid hv; clear hv
      go_enter Try.func83, Try.ntmps83
      go_wp2
      go_quiet (fail)
      go_wp2
      go_ret
      exact ⟨ret_bool (by rw [Hv.out]; by_cases hts : tt = s <;> simp [hts]), _, rfl⟩
    · have hk' : (tk == 3) = false := by simpa using hk
      have hv : decide ((⟨tk, tt⟩ : Tok) = ⟨3, s⟩) = false := by simp [hk]
      rw [hv]
      clear hv hk
      go_enter Try.func83, Try.ntmps83
      go_wp2
      go_quiet (fail)
      go_wp2
      go_ret
      exact ⟨rfl, _, rfl⟩
  · have hq : qsym L q s = false := by
      unfold qsym
      rw [List.drop_eq_nil_of_le (by omega)]
    rw [hq]
    have hlt' : ¬ ((q.pos : Int) < (L.length : Int)) := by omega
    clear hb hsl hown htl hq hp
    go_enter Try.func83, Try.ntmps83
    go_wp2
    go_quiet (fail)
    go_wp2
    go_ret
    exact ⟨rfl, _, rfl⟩

theorem PW8.drewN {w : World} {n0 g : Nat} {L : List Tok} {q : Q8} (h : PW8 w n0 g L q) (m : Nat) : PW8 (w.drewN m) n0 g L q := h.below (below_drewN (Below.refl _ _) m)
theorem Frm.drewN {M : Nat → Prop} {w w' : World} (h : Frm M w w') (m : Nat) : Frm M w (w'.drewN m) := h.trans (Frm.any (below_drewN (Below.refl _ _) m))
theorem PW8.set1 {w : World} {n0 g : Nat} {L : List Tok} {q : Q8} (h : PW8 w n0 g L q) (p : Nat) (hp : p ≤ L.length) : PW8 (w.setCell ⟨g, 1, none⟩ (.int .i64 (p : Int))) n0 g L { q with pos := p } := by
  obtain ⟨hn0, hol, _, htl, hL, A, c, Ao, co, hb, hsl, hown⟩ := h
  exact PW8.mk_ (q := { q with pos := p }) hn0 hol hp htl hL (by rw [Blk.set w hb 1]; rfl) hsl hown (fun k _ hk => set_other _ _ _ _ _ hk)
theorem PW8.set3 {w : World} {n0 g : Nat} {L : List Tok} {q : Q8} (h : PW8 w n0 g L q) (d : Int) : PW8 (w.setCell ⟨g, 3, none⟩ (.int .i64 d)) n0 g L { q with depth := d } := by
  obtain ⟨hn0, hol, hp, htl, hL, A, c, Ao, co, hb, hsl, hown⟩ := h
  exact PW8.mk_ (q := { q with depth := d }) hn0 hol hp htl hL (by rw [Blk.set w hb 3]; rfl) hsl hown (fun k _ hk => set_other _ _ _ _ _ hk)
theorem PW8.frm {w w' : World} {n0 g : Nat} {L : List Tok} {q : Q8} (h : PW8 w n0 g L q) {w0 : World} (hf : Frm (PM n0 g w0) w0 w') (i : Nat) (v : Value) : Frm (PM n0 g w0) w0 (w'.setCell ⟨g, i, none⟩ v) := hf.setCell (fun _ => ⟨h.1, .inl rfl⟩) _

set_option maxHeartbeats 1000000 in
theorem expect8_any (n0 g : Nat) (L : List Tok) (q : Q8) (s : Bs) (w : World) (h : PW8 w n0 g L q) :
    Calls Try.prog 84 #[.pointer (some ⟨g, 0, none⟩), .string ⟨s.toArray⟩] w (Post8 n0 g L w (qexpect L q s)) := by
  have H := Lib.hid h
  obtain ⟨hn0, hol, hp, htl, hL, A, c, Ao, co, hb, hsl, hown⟩ := h
  have c4 := cell_blk hb 4
  have c1 := cell_blk hb 1
  have z1 := frz_blk hb 1
  simp only [List.getElem?_toArray, List.getElem?_cons_succ, List.getElem?_cons_zero] at c1 c4
  have HB := Lib.hid hb; clear hb
  have HS := Lib.hid hsl; clear hsl
  have HO := Lib.hid hown; clear hown
  by_cases he : q.err = 0
  · have he' : (q.err != 0) = false := by rw [he]; rfl
    cases hs : qsym L q s
    · have hq : qexpect L q s = qfail q 4 := by simp [qexpect, qfail, he, hs]
      rw [hq]
      clear he hq
      have HSY := Lib.hid hs; clear hs
      go_enter Try.func84, Try.ntmps84
      go_wp2_with fail
      refine (symbol8_any n0 g L q s _ H.out).mono ?_
      rw [HSY.out]
      rintro e w1 ⟨rfl, m, rfl⟩
      go_wp2_with fail
      refine (fail8_any n0 g L q 4 _ (H.out.drewN m)).mono ?_
      rintro e w2 ⟨rfl, hw2, hf2⟩
      go_wp2
      ((try simp only [Exit.inBlock, Exit.then]); first | refine bodyPost_ret (results_none rfl _ _ _) rfl ?_ | refine bodyPost_end (results_none rfl _ _ _) rfl ?_)
      exact ⟨rfl, hw2, PM.trans ((Frm.refl _ _).drewN m) hf2⟩
    · have hq : qexpect L q s = { q with pos := q.pos + 1 } := by simp [qexpect, he, hs]
      rw [hq]
      have hlt := qsym_lt hs
      have hw2 : IntKind.i64.wrap ((q.pos : Int) + 1) = (q.pos : Int) + 1 := by simp [IntKind.wrap, IntKind.signed, IntKind.bits]; omega
      clear he hq
      have HSY := Lib.hid hs; clear hs
      go_enter Try.func84, Try.ntmps84
      go_wp2_with fail
      refine (symbol8_any n0 g L q s _ H.out).mono ?_
      rw [HSY.out]
      rintro e w1 ⟨rfl, m, rfl⟩
      go_wp2
      ((try simp only [Exit.inBlock, Exit.then]); first | refine bodyPost_ret (results_none rfl _ _ _) rfl ?_ | refine bodyPost_end (results_none rfl _ _ _) rfl ?_)
      exact ⟨rfl, (H.out.drewN m).set1 (q.pos + 1) (by omega), H.out.frm ((Frm.refl _ _).drewN m) _ _⟩
  · have he' : (q.err != 0) = true := by rw [bne_iff_ne]; exact he
    have hq : qexpect L q s = q := by simp [qexpect, he]
    rw [hq]
    clear he hq
    go_enter Try.func84, Try.ntmps84
    go_wp2
    ((try simp only [Exit.inBlock, Exit.then]); first | refine bodyPost_ret (results_none rfl _ _ _) rfl ?_ | refine bodyPost_end (results_none rfl _ _ _) rfl ?_)
    exact ⟨rfl, H.out, Frm.refl _ _⟩

set_option maxHeartbeats 1000000 in
theorem enter8_any (n0 g : Nat) (L : List Tok) (q : Q8) (w : World) (h : PW8 w n0 g L q) (hlt : q.err = 0 → q.pos < L.length) (hd : 0 ≤ q.depth) :
    Calls Try.prog 82 #[.pointer (some ⟨g, 0, none⟩)] w (Post8 n0 g L w (qenter q)) := by
  have H := Lib.hid h
  obtain ⟨hn0, hol, hp, htl, hL, A, c, Ao, co, hb, hsl, hown⟩ := h
  have c4 := cell_blk hb 4
  have c1 := cell_blk hb 1
  have z1 := frz_blk hb 1
  have c3 := cell_blk hb 3
  have z3 := frz_blk hb 3
  simp only [List.getElem?_toArray, List.getElem?_cons_succ, List.getElem?_cons_zero] at c1 c3 c4
  have HB := Lib.hid hb; clear hb
  have HS := Lib.hid hsl; clear hsl
  have HO := Lib.hid hown; clear hown
  by_cases he : q.err = 0
  · have he' : (q.err != 0) = false := by rw [he]; rfl
    have hlt := hlt he
    by_cases hdp : 24 < q.depth
    · have hq : qenter q = qfail q 11 := by simp [qenter, qfail, he, hdp]
      rw [hq]
      have hdp' : (25 : Int) ≤ q.depth := by omega
      clear he hq hdp
      go_enter Try.func82, Try.ntmps82
      go_wp2_with fail
      refine (fail8_any n0 g L q 11 _ H.out).mono ?_
      rintro e w2 ⟨rfl, hw2, hf2⟩
      go_wp2
      ((try simp only [Exit.inBlock, Exit.then]); first | refine bodyPost_ret (results_none rfl _ _ _) rfl ?_ | refine bodyPost_end (results_none rfl _ _ _) rfl ?_)
      exact ⟨rfl, hw2, hf2⟩
    · have hq : qenter q = { q with depth := q.depth + 1, pos := q.pos + 1 } := by simp [qenter, he, hdp]
      rw [hq]
      have hdp' : ¬ ((25 : Int) ≤ q.depth) := by omega
      have hw1 : IntKind.i64.wrap (q.depth + 1) = q.depth + 1 := by simp [IntKind.wrap, IntKind.signed, IntKind.bits]; omega
      have hw2 : IntKind.i64.wrap ((q.pos : Int) + 1) = (q.pos : Int) + 1 := by simp [IntKind.wrap, IntKind.signed, IntKind.bits]; omega
      clear he hq
      go_enter Try.func82, Try.ntmps82
      go_wp2
      ((try simp only [Exit.inBlock, Exit.then]); first | refine bodyPost_ret (results_none rfl _ _ _) rfl ?_ | refine bodyPost_end (results_none rfl _ _ _) rfl ?_)
      exact ⟨rfl, (H.out.set3 _).set1 (q.pos + 1) (by omega), H.out.frm (H.out.frm (Frm.refl _ _) _ _) _ _⟩
  · have he' : (q.err != 0) = true := by rw [bne_iff_ne]; exact he
    have hq : qenter q = q := by simp [qenter, he]
    rw [hq]
    clear he hq
    go_enter Try.func82, Try.ntmps82
    go_wp2
    ((try simp only [Exit.inBlock, Exit.then]); first | refine bodyPost_ret (results_none rfl _ _ _) rfl ?_ | refine bodyPost_end (results_none rfl _ _ _) rfl ?_)
    exact ⟨rfl, H.out, Frm.refl _ _⟩

/-- An operation has been appended. -/
theorem put8 {w w2 : World} {n0 g : Nat} {L : List Tok} {q : Q8} (hn0 : n0 ≤ g) (hol : q.out.length + 1 ≤ 100000) (hp : q.pos ≤ L.length) (htl : ∀ t ∈ L, t.text.length ≤ 9223372036854775807) (hL : L.length ≤ 256) {A Ao A' : Option Addr} {c co c' : Nat}
    (hb : w.heap[g]? = some (.cells #[.slice A L.length c, .int .i64 (q.pos : Int), .slice Ao q.out.length co, .int .i64 q.depth, .int .i64 q.err] 62 (0, 0)))
    (hs : Sl w (fun b => b < n0) A L.length c L) (ho : Own w (fun _ => False) (g + 1) 50 Ao co q.out) {o : Opn} {ob : Obj}
    (hown' : Own w2 (fun _ => False) (g + 1) 50 A' c' (q.out ++ [o])) (hg : (w.alloc ob).grownBy w2 (Ao.map Addr.block)) :
    PW8 (w2.setCell ⟨g, 2, none⟩ (.slice A' (q.out.length + 1) c')) n0 g L { q with out := q.out ++ [o] } ∧ Frm (PM n0 g w) w (w2.setCell ⟨g, 2, none⟩ (.slice A' (q.out.length + 1) c')) := by
  have hb2 := grownBlk hg (blkOld hb _) (ho.ne_lt (Nat.lt_succ_self g))
  refine ⟨PW8.mk_ (q := { q with out := q.out ++ [o] }) hn0 (by simp; omega) hp htl hL (A := A) (c := c) (Ao := A') (co := c') (by rw [Blk.set w2 hb2 2]; simp) ((hs.alloc _).keep (fun k h1 h2 => hg.block k h1 (fun e => (ho.ne_lt (by omega)) e.symm))) hown' (fun k _ hk => set_other _ _ _ _ _ hk), ?_⟩
  exact (((Frm.refl _ _).alloc _).grown hg (fun k hk _ => ⟨by have := (ho.lt k hk).1; omega, .inr (ho.typed hk)⟩)).setCell (fun _ => ⟨hn0, .inl rfl⟩) _
end Go.Proofs.Ytchdpjgncojhaaa
