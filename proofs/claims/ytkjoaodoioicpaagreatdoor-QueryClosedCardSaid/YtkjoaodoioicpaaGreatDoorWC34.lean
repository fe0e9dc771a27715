/- Query (package licitlaw54): a part of the proofs of its laws; see the law's own text, which comes last in 'order'. No conditions of its own. -/
import Derived.Test.YtkjoaodoioicpaaGreatDoorWC07
import Derived.Test.YtkjoaodoioicpaaGreatDoorWC08
import Derived.Test.YtkjoaodoioicpaaGreatDoorWC09
import Derived.Test.YtkjoaodoioicpaaGreatDoorWC33
set_option linter.unusedVariables false
set_option linter.unusedSimpArgs false
namespace Go.Proofs.YtkjoaodoioicpaaGreatDoor
open Go.RowKit
variable {N : Nat}
instance : GoT RTk where
  size := 2
  rd := fun _ _ g x => g 0 = .int .u8 x.kind ∧ g 1 = .string ⟨x.text.toArray⟩
  keep := fun _ h => h
  wide := fun _ h => h
  same := fun hg h => ⟨(hg 0 (by omega)).trans h.1, (hg 1 (by omega)).trans h.2⟩
  one := fun h j hj => by
    rcases (show j = 0 ∨ j = 1 by omega) with rfl | rfl
    · rw [h.1]; rfl
    · rw [h.2]; rfl
theorem Sl.tk {w : World} {S : Nat → Prop} {A : Option Addr} {n c k : Nat} {xs : List RTk} (h : Sl w S A n c xs) (hk : k < xs.length) : ∃ b o, A = some ⟨b, o, none⟩ ∧ S b ∧ b < w.heap.size ∧
    w.cell? ⟨b, o + k * 2, none⟩ = some (.int .u8 xs[k].kind) ∧ w.cell? ⟨b, o + k * 2 + 1, none⟩ = some (.string ⟨xs[k].text.toArray⟩) := by
  obtain ⟨b, o, hA, hS, hb, g, hc, h0, h1⟩ := h.plain (by decide) hk
  have c0 := hc 0 (by decide); have c1 := hc 1 (by decide)
  rw [h0] at c0; rw [h1] at c1
  exact ⟨b, o, hA, hS, hb, by simpa [GoT.size] using c0, by simpa [GoT.size, Nat.add_assoc] using c1⟩
theorem eltTk : Elt 74 114 2 24 := .mk' (z := .agg #[.int .u8 0, .string ⟨#[]⟩]) (by kernel_rfl) (by kernel_rfl) rfl
def TkOk (t : RTk) : Prop := t.kind ≤ 255 ∧ t.text.length ≤ 4294967000 ∧ (t.kind = 110 → ∃ neg d, t.text = sgB neg ++ d ∧ allDig d ∧ d ≠ [])
def RW (N : Nat) (w : World) (g : Nat) (q : RSt) : Prop :=
  ∃ A c L pos, w.heap[g]? = some (.cells #[.slice A (List.length L) c, .int .i64 (pos : Nat), .bool q.2] 78 (0, 0)) ∧ Sl w (fun k => k < g) A L.length c L ∧ pos ≤ L.length ∧ q.1 = L.drop pos ∧ (∀ t ∈ L, TkOk t) ∧ L.length ≤ 1000000 ∧ L.length = N
theorem RW.lt {w : World} {g : Nat} {p : RSt} (h : RW N w g p) : g < w.heap.size := by
  obtain ⟨A, c, L, pos, hb, _⟩ := h
  exact (Array.getElem?_eq_some_iff.1 hb).1
theorem RW.keepG {w w' : World} {g : Nat} {p : RSt} (h : RW N w g p) (hk : ∀ k, k ≤ g → w'.heap[k]? = w.heap[k]?) : RW N w' g p := by
  obtain ⟨A, c, L, pos, hb, hs, h1, h2, h3, h4⟩ := h
  exact ⟨A, c, L, pos, (hk g (Nat.le_refl _)).trans hb, hs.keep (fun k _ hs => hk k (Nat.le_of_lt hs)), h1, h2, h3, h4⟩
theorem RW.below {w w' : World} {g : Nat} {p : RSt} (h : RW N w g p) (hb : Below w.heap.size w w') : RW N w' g p := h.keepG (fun k hk => hb.block k (by have := h.lt; omega))
theorem RW.alloc {w : World} {g : Nat} {p : RSt} (h : RW N w g p) (o : Obj) : RW N (w.alloc o) g p := h.below ((Below.refl _ _).alloc (Nat.le_refl _) _)
theorem RW.bad {w : World} {g : Nat} {p : RSt} (h : RW N w g p) (b : Bool) : RW N (w.setCell ⟨g, 2, none⟩ (.bool b)) g (p.1, b) := by
  have hlt := h.lt
  obtain ⟨A, c, L, pos, hb, hs, h1, h2, h3, h4⟩ := h
  exact ⟨A, c, L, pos, by rw [Blk.set w hb 2]; rfl, hs.keep (fun k _ hk => set_other _ _ _ _ _ (by omega)), h1, h2, h3, h4⟩
theorem RW.c2 {w : World} {g : Nat} {p : RSt} (h : RW N w g p) : w.cell? ⟨g, 2, none⟩ = some (.bool p.2) ∧ w.frozen? ⟨g, 2, none⟩ = false := by
  obtain ⟨A, c, L, pos, hb, _⟩ := h
  exact ⟨(cell_blk hb 2).trans rfl, frz_blk hb 2⟩
theorem RW.adv {w : World} {g : Nat} {p : RSt} (h : RW N w g p) (hk : (rnext p).kind ≠ 0) : ∃ pos : Nat, w.cell? ⟨g, 1, none⟩ = some (.int .i64 pos) ∧ w.frozen? ⟨g, 1, none⟩ = false ∧ pos ≤ 1000000 ∧ RW N (w.setCell ⟨g, 1, none⟩ (.int .i64 ((pos : Int) + 1))) g (p.1.drop 1, p.2) := by
  obtain ⟨A, c, L, pos, hb, hs, h1, h2, h3, h4⟩ := h
  have hne : pos < L.length := by
    rcases Nat.lt_or_ge pos L.length with h | h
    · exact h
    · exfalso
      apply hk
      unfold rnext
      rw [h2, List.drop_of_length_le h]
      rfl
  refine ⟨pos, (cell_blk hb 1).trans rfl, frz_blk hb 1, by omega, A, c, L, pos + 1, by rw [Blk.set w hb 1]; simp, hs.keep (fun k _ hk => set_other _ _ _ _ _ (by omega)), by omega, by rw [h2, List.drop_drop], h3, h4⟩
theorem RW.nextOk {w : World} {g : Nat} {p : RSt} (h : RW N w g p) : TkOk (rnext p) := by
  obtain ⟨A, c, L, pos, hb, hs, h1, h2, h3, h4⟩ := h
  unfold rnext
  rw [h2]
  rcases Nat.lt_or_ge pos L.length with h | h
  · rw [List.drop_eq_getElem_cons h]; exact h3 _ (List.getElem_mem h)
  · rw [List.drop_of_length_le h]; exact ⟨by simp, by simp, by simp⟩
theorem RW.len {w : World} {g : Nat} {p : RSt} (h : RW N w g p) : p.1.length ≤ 1000000 := by
  obtain ⟨A, c, L, pos, hb, hs, h1, h2, h3, h4⟩ := h
  rw [h2, List.length_drop]; omega
def vTk (t : RTk) : Value := .agg #[.int .u8 t.kind, .string ⟨t.text.toArray⟩]
set_option maxRecDepth 100000 in
set_option maxHeartbeats 2000000 in
theorem rnext_any (g : Nat) (p : RSt) (w : World) (h : RW N w g p) :
    Calls Tryz.prog 100 #[.pointer (some ⟨g, 0, none⟩)] w fun e w' => e = .returned (vTk (rnext p)) ∧ Below w.heap.size w w' := by
  have hgw := h.lt
  obtain ⟨A, c, L, pos, hb, hs, h1, h2, h3, h4⟩ := h
  unfold rnext vTk
  rw [h2]
  have HB := Lib.hid hb; have HS := Lib.hid hs
  have hle := hs.le
  clear h2 h3 hs
  have c0 : w.cell? ⟨g, 0, none⟩ = some (.slice A L.length c) := (cell_blk hb 0).trans rfl
  have c1 : w.cell? ⟨g, 1, none⟩ = some (.int .i64 (pos : Int)) := (cell_blk hb 1).trans rfl
  clear hb
  by_cases hlt : pos < L.length
  · obtain ⟨b, o, rfl, -, hbs, k0, k1⟩ := HS.out.tk hlt
    rw [List.drop_eq_getElem_cons hlt, List.headD_cons]
    generalize L[pos] = t at *
    obtain ⟨tk, tt⟩ := t
    simp only at k0 k1 ⊢
    have q0 : (0 : Int) ≤ (pos : Int) := by omega
    have q1 : (pos : Int) < (L.length : Int) := by omega
    have q2 : ((pos : Int) == (L.length : Int)) = false := by simp; omega
    have hZ : (w.alloc (.cells #[.int .u8 0, .string ⟨#[]⟩] 114)).heap[w.heap.size]? = some (.cells #[.int .u8 0, .string ⟨#[]⟩] 114 (0, 0)) := blkAt _ _ rfl
    have hbw : Below w.heap.size w (w.alloc (.cells #[.int .u8 0, .string ⟨#[]⟩] 114)) := boxed
    go_enter Tryz.func100, Tryz.ntmps100
    go_wp2_with fail
    replace c0 := cell_alloc' c0 (.cells #[.int .u8 0, .string ⟨#[]⟩] 114)
    replace c1 := cell_alloc' c1 (.cells #[.int .u8 0, .string ⟨#[]⟩] 114)
    replace k0 := cell_alloc' k0 (.cells #[.int .u8 0, .string ⟨#[]⟩] 114)
    replace k1 := cell_alloc' k1 (.cells #[.int .u8 0, .string ⟨#[]⟩] 114)
    obtain ⟨r, hr⟩ : ∃ r, r = w.heap.size := ⟨_, rfl⟩
    rw [← hr] at hZ
    have HR := Lib.hid hr
    generalize w.alloc (.cells #[.int .u8 0, .string ⟨#[]⟩] 114) = W at *
    try rw [← hr]
    have y0 := frz_blk hZ 0; have y1 := frz_blk hZ 1
    clear hr
    go_quiet (fail)
    go_wp2_with fail
    replace c0 : (W.drewN nq).cell? _ = _ := c0
    replace c1 : (W.drewN nq).cell? _ = _ := c1
    replace k0 : (W.drewN nq).cell? _ = _ := k0
    replace k1 : (W.drewN nq).cell? _ = _ := k1
    replace hZ : (W.drewN nq).heap[r]? = _ := hZ
    replace y0 : (W.drewN nq).frozen? _ = _ := y0
    replace y1 : (W.drewN nq).frozen? _ = _ := y1
    replace hbw := dN hbw nq
    generalize W.drewN nq = W at *
    have x0 := (cell_blk hZ 0).trans rfl; have x1 := (cell_blk hZ 1).trans rfl
    go_region
    go_wp2_with fail
    have hRF := Blk.set _ (Blk.set _ hZ 0 (.int .u8 tk)) 1 (.string ⟨tt.toArray⟩)
    have p0 := (cell_blk hRF 0).trans rfl; have p1 := (cell_blk hRF 1).trans rfl
    refine bodyPost_ret (v := .agg #[.int .u8 tk, .string ⟨tt.toArray⟩]) (by simp [results, Tryz.results100, go_sem, p0, p1]) rfl ?_
    exact ⟨rfl, ((hbw.setCell (p := ⟨r, 0, none⟩) (by have := HR.out; show w.heap.size ≤ r; omega) _).setCell (p := ⟨r, 1, none⟩) (by have := HR.out; show w.heap.size ≤ r; omega) _).drew⟩
  · rw [List.drop_of_length_le (by omega)]
    have q2 : ((pos : Int) == (L.length : Int)) = true := by simp; omega
    have hbw : Below w.heap.size w (w.alloc (.cells #[.int .u8 0, .string ⟨#[]⟩] 114)) := boxed
    go_enter Tryz.func100, Tryz.ntmps100
    go_wp2_with fail
    replace c0 := cell_alloc' c0 (.cells #[.int .u8 0, .string ⟨#[]⟩] 114)
    replace c1 := cell_alloc' c1 (.cells #[.int .u8 0, .string ⟨#[]⟩] 114)
    have hZ : (w.alloc (.cells #[.int .u8 0, .string ⟨#[]⟩] 114)).heap[w.heap.size]? = some (.cells #[.int .u8 0, .string ⟨#[]⟩] 114 (0, 0)) := blkAt _ _ rfl
    obtain ⟨r, hr⟩ : ∃ r, r = w.heap.size := ⟨_, rfl⟩
    rw [← hr] at hZ
    have HR := Lib.hid hr
    generalize w.alloc (.cells #[.int .u8 0, .string ⟨#[]⟩] 114) = W at *
    try rw [← hr]
    have y0 := frz_blk hZ 0; have y1 := frz_blk hZ 1
    have x0 := (cell_blk hZ 0).trans rfl; have x1 := (cell_blk hZ 1).trans rfl
    clear hr
    go_quiet (fail)
    go_wp2_with fail
    replace hZ : (W.drewN nq).heap[r]? = _ := hZ
    have hRF := Blk.set _ (Blk.set _ hZ 0 (.int .u8 0)) 1 (.string ⟨#[]⟩)
    have p0 := (cell_blk hRF 0).trans rfl; have p1 := (cell_blk hRF 1).trans rfl
    refine bodyPost_ret (v := .agg #[.int .u8 0, .string ⟨#[]⟩]) (by simp [results, Tryz.results100, go_sem, p0, p1]) rfl ?_
    exact ⟨rfl, ((dN hbw nq).setCell (p := ⟨r, 0, none⟩) (by have := HR.out; show w.heap.size ≤ r; omega) _).setCell (p := ⟨r, 1, none⟩) (by have := HR.out; show w.heap.size ≤ r; omega) _⟩
set_option maxRecDepth 100000 in
set_option maxHeartbeats 2000000 in
theorem ris_any (g : Nat) (p : RSt) (k : Nat) (s : Bs) (w : World) (h : RW N w g p) (hk : k ≠ 0) :
    Calls Tryz.prog 70 #[.pointer (some ⟨g, 0, none⟩), .int .u8 k, .string ⟨s.toArray⟩] w fun e w' => e = .returned (.bool (ris p k s).1) ∧ RW N w' g (ris p k s).2 ∧ Frm (MG g) w w' := by
  have hn := rnext_any g p w h
  unfold ris
  by_cases he : rnext p = ⟨k, s⟩
  · rw [if_pos he]
    rw [he] at hn
    unfold vTk at hn
    have hkn : (rnext p).kind ≠ 0 := by rw [he]; exact hk
    have HN := Lib.hid hn; have HH := Lib.hid h; have HK := Lib.hid hkn; clear hn h hkn he
    go_enter Tryz.func70, Tryz.ntmps70
    go_wp2_with fail
    refine HN.out.mono ?_
    rintro e w1 ⟨rfl, hb1⟩
    obtain ⟨pos, a1, a2, a3, a4⟩ := (HH.out.below hb1).adv HK.out
    have hq : IntKind.i64.wrap ((pos : Int) + 1) = (pos : Int) + 1 := by simp [IntKind.wrap, IntKind.signed, IntKind.bits]; omega
    have HA := Lib.hid a4; clear a4
    go_wp2_with fail
    go_ret
    exact ⟨rfl, HA.out, (Frm.any (M := MG g) hb1).setCell (p := ⟨g, 1, none⟩) (fun _ => rfl) _⟩
  · rw [if_neg he]
    obtain ⟨t, ht⟩ : ∃ t, t = rnext p := ⟨_, rfl⟩
    rw [← ht] at hn he
    obtain ⟨tk, tt⟩ := t
    unfold vTk at hn
    simp only at hn
    have hcs : ((tk : Int) == (k : Int)) = false ∨ (((tk : Int) == (k : Int)) = true ∧ (tt == s) = false) := by
      by_cases h1 : tk = k
      · right
        refine ⟨by simp [h1], ?_⟩
        rw [beq_eq_false_iff_ne]
        intro h2
        exact he (by rw [h1, h2])
      · left; rw [beq_eq_false_iff_ne]; omega
    have HN := Lib.hid hn; have HH := Lib.hid h; have HCS := Lib.hid hcs; clear hn h he ht hcs
    rcases HCS.out with h1 | ⟨h1, h2⟩
    all_goals
      go_enter Tryz.func70, Tryz.ntmps70
      go_wp2_with fail
      refine HN.out.mono ?_
      rintro e w1 ⟨rfl, hb1⟩
      go_wp2_with fail
      go_ret
      exact ⟨rfl, HH.out.below hb1, Frm.any hb1⟩
end Go.Proofs.YtkjoaodoioicpaaGreatDoor
namespace Go.Proofs.YtkjoaodoioicpaaGreatDoor
open Go.RowKit
theorem pow10_le {k : Nat} (h : k ≤ 10) : 10 ^ k ≤ 10000000000 := Nat.pow_le_pow_right (by omega) h
theorem head_dig {d : Bs} (hd : allDig d) (hne : d ≠ []) : ∃ c r, d = c :: r ∧ 48 ≤ c.toNat ∧ c.toNat ≤ 57 := by
  cases d with
  | nil => exact absurd rfl hne
  | cons c r => exact ⟨c, r, rfl, hd.head⟩
theorem u8_eq {c : UInt8} {n : Nat} (h : n < 256) : (c = n.toUInt8) ↔ c.toNat = n := by
  constructor
  · rintro rfl; simp; omega
  · intro e; apply UInt8.toNat_inj.1; rw [e]; simp; omega
def NumPost (v : Int × Bool) (w : World) (e : Ending) (w' : World) : Prop := e = .returned (.tuple #[.int .i64 v.1, .bool v.2]) ∧ w' = w
set_option maxRecDepth 100000 in
set_option maxHeartbeats 2000000 in
theorem rnumberN_any (d : Bs) (hd : allDig d) (hne : d ≠ []) (w : World) (hl : d.length ≤ 4294967000) :
    Calls Tryz.prog 132 #[.string ⟨(45 :: d).toArray⟩] w (NumPost (rnumS (45 :: d)) w) := by
  have hr := rnumS_of true d hd hne
  have e : sgB true ++ d = 45 :: d := rfl
  rw [e] at hr
  rw [hr]
  clear hr e
  obtain ⟨c, r, hcr, c0, c1⟩ := head_dig hd hne
  have hlen : 0 < d.length := by rw [hcr]; simp
  have hg0 : d[0]'hlen = c := by subst hcr; rfl
  have hh : d.headD 0 = c := by rw [hcr]; rfl
  rw [hh]
  have h48 : (c = 48) ↔ c.toNat = 48 := u8_eq (n := 48) (by omega)
  have hlt := decN_lt d hd 0
  obtain ⟨V, hV⟩ : ∃ V, V = decN 0 d := ⟨_, rfl⟩
  rw [← hV] at hlt ⊢
  obtain ⟨v, hv⟩ : ∃ v : Int × Bool, v = if 10 < d.length ∨ (c = 48 ∧ (1 < d.length ∨ true = true)) then (0, false) else (sg true V, true) := ⟨_, rfl⟩
  rw [← hv]
  have hhd : d.head? = some c := by rw [hcr]; rfl
  clear hcr
  by_cases hbig : 10 < d.length
  · have hv2 : v = (0, false) := by rw [hv, if_pos (.inl hbig)]
    subst hv2
    have hbI : (10 : Int) < (d.length : Int) := by omega
    clear hv
    go_enter Tryz.func132, Tryz.ntmps132
    go_wp2_with fail
    go_ret2
    exact ⟨rfl, rfl⟩
  have hbI : ¬ (10 : Int) < (d.length : Int) := by omega
  have hlI : (0 : Int) < (d.length : Int) := by omega
  by_cases hb : c = 48
  · have hv2 : v = (0, false) := by rw [hv, if_pos (.inr ⟨hb, .inr rfl⟩)]
    subst hv2
    have hz : ((c.toNat : Int) == 48) = true := by rw [beq_iff_eq]; have := h48.1 hb; omega
    clear hv hb
    by_cases h1 : 1 < d.length
    all_goals (first | (have h1I : (1 : Int) < (d.length : Int) := by omega) | (have h1I : ¬ (1 : Int) < (d.length : Int) := by omega))
    all_goals go_enter Tryz.func132, Tryz.ntmps132
    all_goals go_wp2_with fail
    all_goals go_ret2
    all_goals exact ⟨rfl, rfl⟩
  have hv2 : v = (sg true V, true) := by rw [hv, if_neg (by rintro (h | h); exact hbig h; exact hb h.1)]
  have hz : ((c.toNat : Int) == 48) = false := by rw [beq_eq_false_iff_ne]; intro e; exact hb (h48.2 (by omega))
  have hp10 := pow10_le (k := d.length) (by omega)
  have hV10 : V < 10000000000 := by omega
  have HV := Lib.hid hv2
  have HD : Hid (V = decN 0 (d.drop 0)) := hV
  have HDG := Lib.hid hd
  clear hv hv2 hb hV hd hlt hp10
  go_enter Tryz.func132, Tryz.ntmps132
  go_wp2_with fail
  go_loop [6, 7] (fun nv i => ∃ k : Nat, k ≤ d.length ∧ i = .int .i64 k ∧ ∃ nn : Nat, nv = .int .i64 nn ∧ nn < 10 ^ k ∧ Hid (V = decN nn (d.drop k))) (fun _ i => d.length - (intOf i).toNat)
  case atStart => exact ⟨0, by omega, rfl, 0, rfl, by simp, HD⟩
  case round =>
    obtain ⟨k, hk, rfl, nn, rfl, hnn, hf⟩ := hrel
    have hp := pow10_le (k := k) (by omega)
    by_cases hlt : k < d.length
    · have hdd := hf.out
      rw [drop_get hlt, decN_cons] at hdd
      have hdg : 48 ≤ (d[k]).toNat ∧ (d[k]).toNat ≤ 57 := by
        have := HDG.out _ (List.getElem_mem hlt)
        unfold digB digI at this
        simp only [Bool.and_eq_true, decide_eq_true_eq] at this
        omega
      obtain ⟨z, hz9⟩ : ∃ z : Nat, z = (d[k]).toNat - 48 := ⟨_, rfl⟩
      have hxz : ((d[k]).toNat : Int) = z + 48 := by omega
      rw [← hz9] at hdd
      have HDD := Lib.hid hdd
      have hkp : 10 ^ (k + 1) = 10 * 10 ^ k := by rw [Nat.pow_succ, Nat.mul_comm]
      clear hdd hf
      have w1 : IntKind.i64.wrap (10 * (nn : Int)) = 10 * (nn : Int) := by simp [IntKind.wrap, IntKind.signed, IntKind.bits]; omega
      have w2 : IntKind.u8.wrap (((d[k]).toNat : Int) - 48) = (z : Int) := by rw [hxz]; simp [IntKind.wrap, IntKind.signed, IntKind.bits]; omega
      have w3 : IntKind.i64.wrap (z : Int) = (z : Int) := by simp [IntKind.wrap, IntKind.signed, IntKind.bits]; omega
      have w4 : IntKind.i64.wrap (10 * (nn : Int) + (z : Int)) = ((10 * nn + z : Nat) : Int) := by simp [IntKind.wrap, IntKind.signed, IntKind.bits]; omega
      go_wp2_with fail
      go_round
      case rel => exact ⟨k + 1, by omega, by go_num, 10 * nn + z, by first | rfl | (simp; done) | (simp; omega), by omega, HDD⟩
      case measure => simp [intOf]; omega
    · have hdd := hf.out
      rw [drop_end hlt, decN_nil] at hdd
      have hnV : nn < 10000000000 := by omega
      have HNV := Lib.hid hdd
      clear hdd hf
      have w1 : IntKind.i64.wrap (nn : Int) = (nn : Int) := by simp [IntKind.wrap, IntKind.signed, IntKind.bits]; omega
      have w2 : IntKind.i64.wrap (-(nn : Int)) = -(nn : Int) := by simp [IntKind.wrap, IntKind.signed, IntKind.bits]; omega
      have w3 : IntKind.i64.wrap (-1 * (nn : Int)) = -(nn : Int) := by rw [show -1 * (nn : Int) = -(nn : Int) by omega]; exact w2
      go_wp2_with fail
      go_ret2
      rw [HV.out, HNV.out]
      exact ⟨by simp [sg], rfl⟩
set_option maxRecDepth 100000 in
set_option maxHeartbeats 2000000 in
theorem rnumberP_any (d : Bs) (hd : allDig d) (hne : d ≠ []) (w : World) (hl : d.length ≤ 4294967000) :
    Calls Tryz.prog 132 #[.string ⟨(d).toArray⟩] w (NumPost (rnumS (d)) w) := by
  have hr := rnumS_of false d hd hne
  have e : sgB false ++ d = d := rfl
  rw [e] at hr
  rw [hr]
  clear hr e
  obtain ⟨c, r, hcr, c0, c1⟩ := head_dig hd hne
  have hlen : 0 < d.length := by rw [hcr]; simp
  have hg0 : d[0]'hlen = c := by subst hcr; rfl
  have hh : d.headD 0 = c := by rw [hcr]; rfl
  rw [hh]
  have h48 : (c = 48) ↔ c.toNat = 48 := u8_eq (n := 48) (by omega)
  have hlt := decN_lt d hd 0
  obtain ⟨V, hV⟩ : ∃ V, V = decN 0 d := ⟨_, rfl⟩
  rw [← hV] at hlt ⊢
  obtain ⟨v, hv⟩ : ∃ v : Int × Bool, v = if 10 < d.length ∨ (c = 48 ∧ (1 < d.length ∨ false = true)) then (0, false) else (sg false V, true) := ⟨_, rfl⟩
  rw [← hv]
  have hhd : d.head? = some c := by rw [hcr]; rfl
  have h45 : ((c.toNat : Int) == 45) = false := by rw [beq_eq_false_iff_ne]; omega
  clear hcr
  by_cases hbig : 10 < d.length
  · have hv2 : v = (0, false) := by rw [hv, if_pos (.inl hbig)]
    subst hv2
    have hbI : (10 : Int) < (d.length : Int) := by omega
    clear hv
    go_enter Tryz.func132, Tryz.ntmps132
    go_wp2_with fail
    go_ret2
    exact ⟨rfl, rfl⟩
  have hbI : ¬ (10 : Int) < (d.length : Int) := by omega
  have hlI : (0 : Int) < (d.length : Int) := by omega
  by_cases hb : c = 48 ∧ 1 < d.length
  · have hv2 : v = (0, false) := by rw [hv, if_pos (.inr ⟨hb.1, .inl hb.2⟩)]
    subst hv2
    have hz : ((c.toNat : Int) == 48) = true := by rw [beq_iff_eq]; have := h48.1 hb.1; omega
    have h1I : (1 : Int) < (d.length : Int) := by omega
    clear hv hb
    go_enter Tryz.func132, Tryz.ntmps132
    go_wp2_with fail
    go_ret2
    exact ⟨rfl, rfl⟩
  have hv2 : v = (sg false V, true) := by rw [hv, if_neg (by rintro (h | h); exact hbig h; exact hb ⟨h.1, h.2.resolve_right (by simp)⟩)]
  have hz : ((c.toNat : Int) == 48) = false ∨ (((c.toNat : Int) == 48) = true ∧ ¬ (1 : Int) < (d.length : Int)) := by
    by_cases hc : c = 48
    · right
      refine ⟨by rw [beq_iff_eq]; have := h48.1 hc; omega, fun h => hb ⟨hc, by omega⟩⟩
    · left; rw [beq_eq_false_iff_ne]; intro e; exact hc (h48.2 (by omega))
  have hp10 := pow10_le (k := d.length) (by omega)
  have hV10 : V < 10000000000 := by omega
  have HV := Lib.hid hv2
  have HD : Hid (V = decN 0 (d.drop 0)) := hV
  have HDG := Lib.hid hd
  clear hv hv2 hb hV hd hlt hp10
  rcases hz with hz | ⟨hz, hz2⟩
  all_goals

    go_enter Tryz.func132, Tryz.ntmps132
    go_wp2_with fail
    go_loop [6, 7] (fun nv i => ∃ k : Nat, k ≤ d.length ∧ i = .int .i64 k ∧ ∃ nn : Nat, nv = .int .i64 nn ∧ nn < 10 ^ k ∧ Hid (V = decN nn (d.drop k))) (fun _ i => d.length - (intOf i).toNat)
    case atStart => exact ⟨0, by omega, rfl, 0, rfl, by simp, HD⟩
    case round =>
      obtain ⟨k, hk, rfl, nn, rfl, hnn, hf⟩ := hrel
      have hp := pow10_le (k := k) (by omega)
      by_cases hlt : k < d.length
      · have hdd := hf.out
        rw [drop_get hlt, decN_cons] at hdd
        have hdg : 48 ≤ (d[k]).toNat ∧ (d[k]).toNat ≤ 57 := by
          have := HDG.out _ (List.getElem_mem hlt)
          unfold digB digI at this
          simp only [Bool.and_eq_true, decide_eq_true_eq] at this
          omega
        obtain ⟨z, hz9⟩ : ∃ z : Nat, z = (d[k]).toNat - 48 := ⟨_, rfl⟩
        have hxz : ((d[k]).toNat : Int) = z + 48 := by omega
        rw [← hz9] at hdd
        have HDD := Lib.hid hdd
        have hkp : 10 ^ (k + 1) = 10 * 10 ^ k := by rw [Nat.pow_succ, Nat.mul_comm]
        clear hdd hf
        have w1 : IntKind.i64.wrap (10 * (nn : Int)) = 10 * (nn : Int) := by simp [IntKind.wrap, IntKind.signed, IntKind.bits]; omega
        have w2 : IntKind.u8.wrap (((d[k]).toNat : Int) - 48) = (z : Int) := by rw [hxz]; simp [IntKind.wrap, IntKind.signed, IntKind.bits]; omega
        have w3 : IntKind.i64.wrap (z : Int) = (z : Int) := by simp [IntKind.wrap, IntKind.signed, IntKind.bits]; omega
        have w4 : IntKind.i64.wrap (10 * (nn : Int) + (z : Int)) = ((10 * nn + z : Nat) : Int) := by simp [IntKind.wrap, IntKind.signed, IntKind.bits]; omega
        go_wp2_with fail
        go_round
        case rel => exact ⟨k + 1, by omega, by go_num, 10 * nn + z, by first | rfl | (simp; done) | (simp; omega), by omega, HDD⟩
        case measure => simp [intOf]; omega
      · have hdd := hf.out
        rw [drop_end hlt, decN_nil] at hdd
        have hnV : nn < 10000000000 := by omega
        have HNV := Lib.hid hdd
        clear hdd hf
        have w1 : IntKind.i64.wrap (nn : Int) = (nn : Int) := by simp [IntKind.wrap, IntKind.signed, IntKind.bits]; omega
        have w2 : IntKind.i64.wrap (-(nn : Int)) = -(nn : Int) := by simp [IntKind.wrap, IntKind.signed, IntKind.bits]; omega
        have w3 : IntKind.i64.wrap (-1 * (nn : Int)) = -(nn : Int) := by rw [show -1 * (nn : Int) = -(nn : Int) by omega]; exact w2
        go_wp2_with fail
        go_ret2
        rw [HV.out, HNV.out]
        exact ⟨by simp [sg], rfl⟩
theorem rnumB (neg : Bool) (d : Bs) (hd : allDig d) (hne : d ≠ []) : -10000000000 ≤ (rnumS (sgB neg ++ d)).1 ∧ (rnumS (sgB neg ++ d)).1 ≤ 10000000000 := by
  rw [rnumS_of neg d hd hne]
  split
  · simp
  · rename_i h
    have hl : d.length ≤ 10 := by omega
    have h1 := decN_lt d hd 0
    have h2 := pow10_le hl
    have : decN 0 d < 10000000000 := by omega
    cases neg <;> simp [sg] <;> omega
theorem rnumber_any (s : Bs) (h : ∃ neg d, s = sgB neg ++ d ∧ allDig d ∧ d ≠ []) (w : World) (hl : s.length ≤ 4294967000) :
    Calls Tryz.prog 132 #[.string ⟨s.toArray⟩] w (NumPost (rnumS s) w) := by
  obtain ⟨neg, d, rfl, h1, h2⟩ := h
  cases neg
  · exact rnumberP_any d h1 h2 w (by simpa [sgB] using hl)
  · exact rnumberN_any d h1 h2 w (by simp [sgB] at hl; omega)
theorem okA_rargOf {t : RTk} (h : TkOk t) : OkA (rargOf t).1 := by
  obtain ⟨h1, h2, h3⟩ := h
  unfold rargOf
  split
  · exact ⟨by simp only; omega, by simp, by simp⟩
  · split
    · exact ⟨by simp only; omega, by simp, by simp⟩
    · split
      · rename_i h4
        obtain ⟨neg, d, e, hd, hn⟩ := h3 h4
        have := rnumB neg d hd hn
        rw [← e] at this
        exact ⟨by simp, by simp only; omega, by simp only; omega⟩
      · exact ⟨by decide, by decide, by decide⟩
end Go.Proofs.YtkjoaodoioicpaaGreatDoor
