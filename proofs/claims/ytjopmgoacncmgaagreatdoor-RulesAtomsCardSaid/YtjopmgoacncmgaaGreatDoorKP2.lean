/- Rules: strconv.Atoi, Itoa as the parser uses them; the parser's arg. -/
import Derived.Test.YtjopmgoacncmgaaGreatDoorK6
import Derived.Test.YtjopmgoacncmgaaGreatDoorRfSpl
import Derived.Lib.AtoiErrMem
import Derived.Lib.AtoiAllCases
import Derived.Lib.AppendIntMem
set_option linter.unusedVariables false
set_option linter.unusedSimpArgs false
namespace Go.Proofs.YtjopmgoacncmgaaGreatDoor
open Go.RowKit

/-- The blocks of the library's variables lie below g. -/
def LG (g : Nat) : Prop := 7 < g ∧ 0 < g ∧ 5 < g ∧ 6 < g ∧ 1 < g
theorem var_lt {P : Program} {w : World} {n : String} {cs : Array Value} {g : Nat} (hg : P.globalNamed n = some g) (h : w.var? P n = some cs) : g < w.heap.size := by
  unfold World.var? at h
  rw [hg] at h
  simp only [Option.bind_some] at h
  rcases Nat.lt_or_ge g w.heap.size with h' | h'
  · exact h'
  · rw [Array.getElem?_eq_none h'] at h; cases h
theorem LD.lg {w : World} (h : LD w) : LG w.heap.size := by
  obtain ⟨h1, h2, ⟨tp, p, h3⟩, ⟨tp', p', h4⟩, m, h5⟩ := h
  exact ⟨var_lt (g := 7) (by kernel_rfl) h1, var_lt (g := 0) (by kernel_rfl) h2, var_lt (g := 5) (by kernel_rfl) h3, var_lt (g := 6) (by kernel_rfl) h4, World.block_lt_of_cell? w _ h5⟩
theorem var_keep {P : Program} {w w' : World} {n : String} {cs : Array Value} {g : Nat} (hg : P.globalNamed n = some g) (h : w.var? P n = some cs) (hk : w'.heap[g]? = w.heap[g]?) : w'.var? P n = some cs := by
  unfold World.var? at h ⊢
  rw [hg] at h ⊢
  simp only [Option.bind_some] at h ⊢
  rw [hk]
  exact h
theorem LD.keep {w w' : World} {g : Nat} (h : LD w) (hg : LG g) (hk : ∀ k, k < g → w'.heap[k]? = w.heap[k]?) : LD w' := by
  obtain ⟨h1, h2, ⟨tp, p, h3⟩, ⟨tp', p', h4⟩, m, h5⟩ := h
  obtain ⟨g1, g2, g3, g4, g5⟩ := hg
  exact ⟨var_keep (g := 7) (by kernel_rfl) h1 (hk _ g1), var_keep (g := 0) (by kernel_rfl) h2 (hk _ g2), ⟨tp, p, var_keep (g := 5) (by kernel_rfl) h3 (hk _ g3)⟩, ⟨tp', p', var_keep (g := 6) (by kernel_rfl) h4 (hk _ g4)⟩, m, (World.cell?_of_block (w := w) (w' := w') (hk _ g5)).trans h5⟩

/-- A token that is no longer than any line; one in quotes has both. -/
def TokOk (t : Bs) : Prop := t.length ≤ 4294967000 ∧ (t.headD 0 = 34 → 2 ≤ t.length)
/-- Block g is a parser in state p; its tokens lie below g. -/
def PW (w : World) (g : Nat) (p : KSt) : Prop :=
  ∃ A c, w.heap[g]? = some (.cells #[.slice A p.1.length c, .bool p.2] 71 (0, 0)) ∧ Sl w (fun k => k < g) A p.1.length c p.1 ∧ LG g ∧ LD w ∧ ∀ t ∈ p.1, TokOk t
theorem PW.lt {w : World} {g : Nat} {p : KSt} (h : PW w g p) : g < w.heap.size := by
  obtain ⟨A, c, hb, _⟩ := h
  exact (Array.getElem?_eq_some_iff.1 hb).1
theorem PW.ld {w : World} {g : Nat} {p : KSt} (h : PW w g p) : LD w := by
  obtain ⟨A, c, hb, _, _, hl, _⟩ := h
  exact hl
theorem PW.tok {w : World} {g : Nat} {p : KSt} (h : PW w g p) : ∀ t ∈ p.1, TokOk t := by
  obtain ⟨A, c, hb, _, _, _, hl⟩ := h
  exact hl
theorem PW.peek {w : World} {g : Nat} {p : KSt} (h : PW w g p) : TokOk (peekS p) := by
  have h1 := h.tok
  unfold peekS
  cases hp : p.1 with
  | nil => exact ⟨by simp, fun h => by cases h⟩
  | cons t r => rw [hp] at h1; exact h1 t List.mem_cons_self
theorem PW.below {w w' : World} {g : Nat} {p : KSt} (h : PW w g p) (hb : Below w.heap.size w w') : PW w' g p := by
  obtain ⟨A, c, hg, hs, hl, hd, ht⟩ := h
  exact ⟨A, c, keptBlk hb hg, hs.below hb, hl, hd.below hb, ht⟩
theorem PW.alloc {w : World} {g : Nat} {p : KSt} (h : PW w g p) (o : Obj) : PW (w.alloc o) g p := h.below ((Below.refl _ _).alloc (Nat.le_refl _) _)
/-- The parser's block has been written; all else that was there is as it was. -/
theorem PW.mk_ {w w' : World} {g : Nat} {p q : KSt} {A : Option Addr} {c : Nat} (hb : w'.heap[g]? = some (.cells #[.slice A q.1.length c, .bool q.2] 71 (0, 0))) (hs : Sl w (fun k => k < g) A q.1.length c q.1) (hl : LG g) (hd : LD w) (ht : ∀ t ∈ q.1, TokOk t)
    (hk : ∀ k, k < w.heap.size → k ≠ g → w'.heap[k]? = w.heap[k]?) (hlt : g < w.heap.size) : PW w' g q :=
  ⟨A, c, hb, hs.keep fun k h1 h2 => hk k h1 (by omega), hl, hd.keep hl (fun k hkg => hk k (by omega) (by omega)), ht⟩
theorem Sl.tailS1 {w : World} {S : Nat → Prop} {A : Option Addr} {n c : Nat} {xs : List Bs} (h : Sl w S A n c xs) (hn : 1 ≤ n) (hc : c = 1) : Sl w S A (n - 1) 0 xs.tail := by
  have := h.cut hn
  rw [if_pos hc, List.drop_one] at this
  subst hc
  exact this
theorem Sl.tailS2 {w : World} {S : Nat → Prop} {A : Option Addr} {n c : Nat} {xs : List Bs} (h : Sl w S A n c xs) (hn : 1 ≤ n) (hc : ¬ c = 1) : Sl w S (A.map fun x => { block := x.block, off := x.off + 1 }) (n - 1) (c - 1) xs.tail := by
  have := h.cut hn
  rw [if_neg hc, List.drop_one] at this
  exact this
abbrev MG (g : Nat) : Nat → Prop := fun k => k = g

set_option maxHeartbeats 1000000 in
theorem peek_any (g : Nat) (p : KSt) (w : World) (h : PW w g p) :
    Calls Tryz.prog 140 #[.pointer (some ⟨g, 0, none⟩)] w fun e w' => e = .returned (.string ⟨(peekS p).toArray⟩) ∧ w' = w := by
  obtain ⟨A, c, hb, hs, hl, hd, ht⟩ := h
  obtain ⟨l, bad⟩ := p
  have c0 := cell_blk hb 0
  simp only [List.getElem?_toArray, List.getElem?_cons_zero] at c0
  have hle := hs.le
  unfold peekS
  simp only at *
  cases l with
  | nil =>
    clear hb hs hl hd ht
    simp only [List.length_nil] at c0
    go_enter Tryz.func140, Tryz.ntmps140
    go_wp2
    go_ret
    exact ⟨rfl, rfl⟩
  | cons t r =>
    obtain ⟨b, o, rfl, -, -, h1⟩ := hs.str (k := 0) (by simp)
    simp only [List.getElem_cons_zero, Nat.add_zero] at h1
    simp only [List.length_cons] at c0 hle
    clear hb hs hl hd ht
    go_enter Tryz.func140, Tryz.ntmps140
    go_wp2
    go_ret
    exact ⟨rfl, rfl⟩

set_option maxHeartbeats 1000000 in
theorem next_any (g : Nat) (p : KSt) (w : World) (h : PW w g p) :
    Calls Tryz.prog 116 #[.pointer (some ⟨g, 0, none⟩)] w fun e w' => e = .returned (.string ⟨(nextS p).1.toArray⟩) ∧ PW w' g (nextS p).2 ∧ Frm (MG g) w w' := by
  have hp := peek_any g p w h
  have hlt := h.lt
  have hh := h
  obtain ⟨A, c, hb, hs, hl, hd, ht⟩ := h
  obtain ⟨l, bad⟩ := p
  have c0 : w.cell? ⟨g, 0, none⟩ = some (.slice A l.length c) := (cell_blk hb 0).trans rfl
  have c1 : w.cell? ⟨g, 1, none⟩ = some (.bool bad) := (cell_blk hb 1).trans rfl
  have z0 := frz_blk hb 0
  have z1 := frz_blk hb 1
  have hle := hs.le
  have hcap := hs.2.1
  unfold nextS peekS at *
  simp only at *
  by_cases he : (l.headD []).isEmpty = true
  · rw [if_pos he]
    have he2 : l.headD [] = [] := List.isEmpty_iff.1 he
    rw [he2] at hp
    have HP := Lib.hid hp; have HB := Lib.hid hb; have HS := Lib.hid hs; have HD := Lib.hid (And.intro hl (And.intro hd ht)); clear hp hb hs hl hd ht hh he he2
    go_enter Tryz.func116, Tryz.ntmps116
    go_wp2_with (first | (go_at_call 140; refine HP.out.mono ?_; rintro e w1 ⟨rfl, rfl⟩))
    go_ret
    exact ⟨rfl, PW.mk_ (p := (l, bad)) (by rw [Blk.set w1 HB.out 1]; rfl) HS.out HD.out.1 HD.out.2.1 HD.out.2.2 (fun k _ hk => set_other _ _ _ _ _ hk) hlt, (Frm.refl (MG g) _).setCell (p := ⟨g, 1, none⟩) (fun _ => rfl) _⟩
  · rw [if_neg he]
    cases l with
    | nil => exact absurd rfl he
    | cons t r =>
      cases t with
      | nil => exact absurd rfl he
      | cons x t =>
        clear he
        simp only [List.headD_cons, List.drop_one, List.tail_cons] at *
        have hn1 : 1 ≤ (((x :: t) :: r).length) := by simp
        have HP := Lib.hid hp; have HB := Lib.hid hb; have HS := Lib.hid hs; have HD := Lib.hid (And.intro hl (And.intro hd ht)); clear hp hb hs hl hd ht hh
        have hln : ((x :: t) :: r).length = r.length + 1 := rfl
        generalize hL : ((x :: t) :: r).length = L at *
        have HLN := Lib.hid hln; have HLL := Lib.hid hL; clear hln hL
        by_cases hc1 : c = 1
        · have hcb : (c == 1) = true := by simpa using hc1
          subst hc1
          go_enter Tryz.func116, Tryz.ntmps116
          go_wp2_with (first | (go_at_call 140; refine HP.out.mono ?_; rintro e w1 ⟨rfl, rfl⟩))
          go_ret
          have hlr : L - 1 = r.length := by have := HLN.out; omega
          have hsl := HS.out.tailS1 hn1 rfl
          rw [hlr, List.tail_cons] at hsl
          refine ⟨rfl, PW.mk_ (p := ((x :: t) :: r, bad)) (q := (r, bad)) (A := A) (c := 0) ?_ hsl HD.out.1 HD.out.2.1 (fun y hy => HD.out.2.2 y (List.mem_cons_of_mem _ hy)) (fun k _ hk => set_other _ _ _ _ _ hk) hlt, (Frm.refl (MG g) _).setCell (p := ⟨g, 0, none⟩) (fun _ => rfl) _⟩
          rw [Blk.set w1 HB.out 0]
          simp [hlr]
          have := HLN.out; omega
        · have hcb : (c == 1) = false := by simpa using hc1
          go_enter Tryz.func116, Tryz.ntmps116
          go_wp2_with (first | (go_at_call 140; refine HP.out.mono ?_; rintro e w1 ⟨rfl, rfl⟩))
          go_ret
          have hlr : L - 1 = r.length := by have := HLN.out; omega
          have hsl := HS.out.tailS2 hn1 hc1
          rw [hlr, List.tail_cons] at hsl
          refine ⟨rfl, PW.mk_ (p := ((x :: t) :: r, bad)) (q := (r, bad)) (A := A.map fun x => { block := x.block, off := x.off + 1 }) (c := c - 1) ?_ hsl HD.out.1 HD.out.2.1 (fun y hy => HD.out.2.2 y (List.mem_cons_of_mem _ hy)) (fun k _ hk => set_other _ _ _ _ _ hk) hlt, (Frm.refl (MG g) _).setCell (p := ⟨g, 0, none⟩) (fun _ => rfl) _⟩
          rw [Blk.set w1 HB.out 0]
          simp [hlr]

set_option maxHeartbeats 1000000 in
theorem take_any (g : Nat) (p : KSt) (s : Bs) (w : World) (h : PW w g p) (hs : s.isEmpty = false) :
    Calls Tryz.prog 88 #[.pointer (some ⟨g, 0, none⟩), .string ⟨s.toArray⟩] w fun e w' => e = .returned (.bool (takeS p s).1) ∧ PW w' g (takeS p s).2 ∧ Frm (MG g) w w' := by
  have hp := peek_any g p w h
  have hn := next_any g p w h
  unfold takeS
  generalize (nextS p).2 = q at *
  generalize (nextS p).1 = q1 at *
  by_cases he : peekS p = s
  · have he' : (peekS p != s) = false := by simpa using he
    rw [he'] 
    rw [he] at hp
    have HP := Lib.hid hp; have HN := Lib.hid hn; clear hp hn he he' h hs
    go_enter Tryz.func88, Tryz.ntmps88
    go_wp2_with (first | (go_at_call 140; refine HP.out.mono ?_; rintro e w1 ⟨rfl, rfl⟩) | (go_at_call 116; refine HN.out.mono ?_; rintro e w2 ⟨rfl, hw2, hf2⟩))
    go_ret
    exact ⟨rfl, hw2, hf2⟩
  · have he' : (peekS p != s) = true := by simpa using he
    rw [he']
    have hne : (peekS p == s) = false := by simpa using he
    generalize peekS p = pk at *
    have HP := Lib.hid hp; have HH := Lib.hid h; have HE := Lib.hid he; clear hp hn he he' h hs
    go_enter Tryz.func88, Tryz.ntmps88
    go_wp2_with (first | (go_at_call 140; refine HP.out.mono ?_; rintro e w1 ⟨rfl, rfl⟩))
    go_ret
    exact ⟨rfl, HH.out, Frm.refl _ _⟩
end Go.Proofs.YtjopmgoacncmgaaGreatDoor

namespace Go.Proofs.YtjopmgoacncmgaaGreatDoor
open Go.RowKit

theorem itoa_any (n : Int) (h0 : -9223372036854775808 ≤ n) (h1 : n ≤ 9223372036854775807) (w : World) (hL : LD w) :
    Calls Tryz.prog 145 #[.int .i64 n] w fun e w' => e = .returned (.string ⟨(itoaS n).toArray⟩) ∧ Below w.heap.size w w' := by
  refine (Tryz.strconv_Itoa n h0 h1 w hL.pow).mono ?_
  rintro e w' ⟨rfl, k, os, rfl⟩
  exact ⟨by rw [itoa_lib n h0 h1], Lib.below_grow _ _ (Nat.le_refl _) k os⟩
theorem atoi_ok (s : Bs) (v : Int) (h : Lib.atoiAll s = .ok v) (hs : s.length ≤ 4294967000) (w : World) :
    Calls Tryz.prog 153 #[.string ⟨s.toArray⟩] w fun e w' => e = .returned (.tuple #[.int .i64 v, .nilIface]) ∧ Below w.heap.size w w' := by
  refine (Tryz.strconv_Atoi_ok ⟨s.toArray⟩ (by simp [ByteArray.size]; omega) v (by simpa using h) w).mono ?_
  rintro e w' ⟨rfl, rfl | ⟨t, rfl⟩⟩
  · exact ⟨rfl, Below.refl _ _⟩
  · exact ⟨rfl, Lib.bytesWorld_below _ _ _⟩
theorem atoi_no (s : Bs) (h : ∀ v, Lib.atoiAll s ≠ .ok v) (hs : s.length ≤ 4294967000) (w : World) (hL : LD w) :
    Calls Tryz.prog 153 #[.string ⟨s.toArray⟩] w fun e w' => ∃ v t p, e = .returned (.tuple #[.int .i64 v, .iface t p]) ∧ Below w.heap.size w w' := by
  cases ha : Lib.atoiAll s with
  | ok v => exact absurd ha (h v)
  | range =>
    obtain ⟨tp, p, hp⟩ := hL.rng
    refine (Tryz.strconv_Atoi_range_var ⟨s.toArray⟩ (by simp [ByteArray.size]; omega) (by simpa using ha) tp p w hp).mono ?_
    rintro e w' ⟨N, rfl, _, _, hb⟩
    exact ⟨_, _, _, rfl, hb⟩
  | _ =>
    obtain ⟨tp, p, hp⟩ := hL.syn
    refine (Tryz.strconv_Atoi_syntax_var ⟨s.toArray⟩ (by simp [ByteArray.size]; omega) (by simpa using ha) tp p w hp).mono ?_
    rintro e w' ⟨N, rfl, _, _, hb⟩
    exact ⟨_, _, _, rfl, hb⟩
end Go.Proofs.YtjopmgoacncmgaaGreatDoor
