/- Expressions: the walk of the parser's binary. -/
import Derived.Test.YtchdpjgncojhaaaE4
import Derived.Test.YtchdpjgncojhaaaE5
import Derived.Test.YtchdpjgncojhaaaParseLen
set_option linter.unusedVariables false
set_option linter.unusedSimpArgs false
namespace Go.Proofs.Ytchdpjgncojhaaa
open Go.RowKit

def WBin (n0 g f : Nat) : Prop := ∀ (l : Nat) (li : Int) (st : PSt) (w : World) (r : Bool × PSt × Int), pr f (.bin l) st = some r → li = l → 1 ≤ l → l ≤ 11 → PW w n0 g st → 0 ≤ st.depth → st.m ≤ 256 →
  Calls Try.prog 64 #[.pointer (some ⟨g, 0, none⟩), .int .i64 li] w (PPost n0 g w (r.1, r.2.1))
def WSingle (n0 g f : Nat) : Prop := ∀ (st : PSt) (w : World) (r : Bool × PSt × Int), pr f .single st = some r → PW w n0 g st → 0 ≤ st.depth → st.m ≤ 256 →
  Calls Try.prog 76 #[.pointer (some ⟨g, 0, none⟩)] w (PPost n0 g w (r.1, r.2.1))
def NB (nb : Nat) (n : Int) (w : World) : Prop := w.heap[nb]? = some (.cells #[.int .u32 n] 37 (0, 0))
def WArgs (n0 g f : Nat) : Prop := ∀ (st : PSt) (w : World) (r : Bool × PSt × Int) (nb : Nat), pr f (.args 0) st = some r → PW w n0 g st → NB nb 0 w → nb ≠ g → g < nb → 0 ≤ st.depth → st.m ≤ 256 →
  Calls Try.prog 103 #[.pointer (some ⟨g, 0, none⟩), .pointer (some ⟨nb, 0, none⟩)] w (PPostX (fun b => b = nb) (NB nb r.2.2) n0 g w r.1 r.2.1)

set_option maxRecDepth 100000 in
set_option maxHeartbeats 2000000 in
theorem bin_top (n0 g f : Nat) (ihS : WSingle n0 g f) (st : PSt) (w : World) (r : Bool × PSt × Int) (h : pr f .single st = some r) (hpw : PW w n0 g st) (hd : 0 ≤ st.depth) (hm : st.m ≤ 256) :
    Calls Try.prog 64 #[.pointer (some ⟨g, 0, none⟩), .int .i64 11] w (PPost n0 g w (r.1, r.2.1)) := by
  have H := Lib.hid (ihS st w r h hpw hd hm)
  clear h hpw ihS
  go_enter Try.func64, Try.ntmps64
  go_wp2_with fail
  refine H.out.mono ?_
  rintro e w1 ⟨rfl, hw1, hf1⟩
  go_wp2
  go_ret
  exact ⟨rfl, hw1, hf1⟩

set_option maxRecDepth 100000 in
set_option maxHeartbeats 4000000 in
theorem bin_step (n0 g f : Nat) (ihB : ∀ f', f' ≤ f → WBin n0 g f') (ihS : WSingle n0 g f) : WBin n0 g (f + 1) := by
  intro l li st w r h hli h1 h11 hpw hd hm
  rw [pr] at h
  by_cases hl : l = 11
  · rw [if_pos hl] at h
    subst hl hli
    exact bin_top n0 g f ihS st w r h hpw hd hm
  · rw [if_neg hl] at h
    obtain ⟨y, hy, h⟩ := bind_some h
    have hB := ihB f (Nat.le_refl f) (l + 1) (li + 1) st w y hy (by omega) (by omega) (by omega) hpw hd hm
    have hI := pr_inv _ _ _ _ hy
    have hneq : (li == 11) = false := by rw [beq_eq_false_iff_ne]; omega
    have hlb : 1 ≤ li ∧ li ≤ 10 := by omega
    obtain ⟨hlb1, hlb2⟩ := hlb
    have HB := Lib.hid hB; clear hB hy hpw
    have IHB := Lib.hid ihB; clear ihB ihS hl
    have Hli := Lib.hid hli; clear hli
    cases hb : y.1
    · rw [hb] at h
      injection h with h
      have Hr := Lib.hid h; clear h
      have Hb := Lib.hid hb; clear hb
      go_enter Try.func64, Try.ntmps64
      go_wp2_with fail
      refine HB.out.mono ?_
      rw [Hb.out]
      rintro e w1 ⟨rfl, hw1, hf1⟩
      go_wp2
      go_ret
      rw [← Hr.out]
      exact ⟨rfl, hw1, hf1⟩
    · rw [hb, if_pos rfl] at h
      have Hr := Lib.hid h; clear h
      have Hb := Lib.hid hb; clear hb
      go_enter Try.func64, Try.ntmps64
      go_wp2_with fail
      refine HB.out.mono ?_
      rw [Hb.out]
      rintro e w1 ⟨rfl, hw1, hf1⟩
      have hdy : 0 ≤ y.2.1.depth := by rw [hI.depth]; exact hd
      have hmy : y.2.1.m ≤ 256 := Nat.le_trans hI.m hm
      generalize y.2.1 = s at *
      clear hI HB Hb
      go_wp2_with fail
      go_loopg [5] f (fun k o wr => ∃ s, k ≤ f ∧ pr k (.loop l) s = some r ∧ PW wr n0 g s ∧ Frm (PM n0 g w) w wr ∧ s.m ≤ 256 ∧ 0 ≤ s.depth)
      case atStart => exact ⟨s, Nat.le_refl f, Hr.out, hw1, hf1, hmy, hdy⟩
      case round =>
        obtain ⟨s, hk, hp, hpw, hfr, hms, hds⟩ := hrel
        obtain ⟨k, rfl⟩ : ∃ k', gk = k' + 1 := by
          cases gk with
          | zero => cases hp
          | succ k' => exact ⟨k', rfl⟩
        rw [pr] at hp
        have HPW := Lib.hid hpw
        obtain ⟨hn0, hol, htl, A, n, c, Ao, co, hbk, hsl, hown⟩ := hpw
        have c0 := cell_blk hbk 0
        have z0 := frz_blk hbk 0
        simp only [List.getElem?_toArray, List.getElem?_cons_zero] at c0
        have hn := hsl.len
        subst hn
        have hle := hsl.le
        have hcap := hsl.2.1
        have hcm := hsl.2.2.1
        have HBK := Lib.hid hbk; clear hbk
        have HSL := Lib.hid hsl; clear hsl
        have HOW := Lib.hid hown; clear hown
        have HTL := Lib.hid htl; clear htl
        cases hr : s.rest with
        | nil =>
          rw [hr] at hp
          simp only [Option.some.injEq] at hp
          have Hp := Lib.hid hp; clear hp
          rw [hr] at c0 hle hcap
          simp only [List.length_nil] at c0 hle hcap
          have Hrr := Lib.hid hr; clear hr
          go_wp2
          go_ret
          rw [← Hp.out]
          exact ⟨rfl, HPW.out, hfr⟩
        | cons t rr =>
          rw [hr] at hp
          simp only at hp
          obtain ⟨bb, oo, hA, hSb, hbs, h1, h2⟩ := HSL.out.tok (k := 0) (by rw [hr]; simp)
          simp only [hr, List.getElem_cons_zero, Nat.zero_mul, Nat.add_zero] at h1 h2
          subst hA
          have hrl : 1 ≤ s.rest.length := by rw [hr]; simp
          have htt : t.text.length ≤ 9223372036854775807 := HTL.out t (by rw [hr]; simp)
          by_cases hkd : t.kind = 3
          · have hkd' : (t.kind == 3) = true := by simpa using hkd
            by_cases hlv : level t.text = l
            · rw [if_pos ⟨hkd, hlv⟩] at hp
              obtain ⟨x, hx, hp⟩ := bind_some hp
              have hlq : (((level t.text : Nat) : Int) == li) = true := by rw [beq_iff_eq]; have := Hli.out; omega
              have hIx := pr_inv _ _ _ _ hx
              have hslr := fun wx => run_tail wx (some ⟨bb, oo, none⟩) s.rest.length c hrl hcap hcm
              have htail : s.rest.tail = rr := by rw [hr]; rfl
              have Htail := Lib.hid htail; clear htail
              have hmr : rr.length + 1 = s.rest.length := by rw [hr]; simp
              have Hmr := Lib.hid hmr; clear hmr
              have Hrr := Lib.hid hr; clear hr
              have Hkd := Lib.hid hkd; clear hkd
              have Hlv := Lib.hid hlv; clear hlv
              have Hp := Lib.hid hp; clear hp
              have Hx := Lib.hid hx; clear hx
              have HIx := Lib.hid hIx; clear hIx
              go_wp2_with (go_at_call 47; refine (level_any t.text _).mono ?_; rintro e w2 ⟨rfl, hb2⟩; have hbk2 := keptBlk hb2 HBK.out; have d0 := cell_blk hbk2 0; have y0 := frz_blk hbk2 0; simp only [List.getElem?_toArray, List.getElem?_cons_zero] at d0; have g1 := (hb2.cell (p := ⟨bb, oo, none⟩) hbs).trans h1; have g2 := (hb2.cell (p := ⟨bb, oo + 1, none⟩) hbs).trans h2)
              have hb3 : PW (w2.setCell ⟨g, 0, none⟩ (.slice (tailA (some ⟨bb, oo, none⟩) c) (s.rest.length - 1) (c - 1))) n0 g { s with rest := rr } :=
                PW.mk_ hn0 hol (fun t ht => HTL.out t (by rw [Hrr.out]; simp [ht])) (by rw [Blk.set w2 (keptBlk hb2 HBK.out) 0]; rfl) (Htail.out ▸ (HSL.out.below hb2).tail_ hrl) (HOW.out.below hb2) (fun k _ hk => set_other _ _ _ _ _ hk)
              have hf3 : Frm (PM n0 g wr) wr (w2.setCell ⟨g, 0, none⟩ (.slice (tailA (some ⟨bb, oo, none⟩) c) (s.rest.length - 1) (c - 1))) := (Frm.any hb2).setCell (fun _ => ⟨hn0, .inl rfl⟩) _
              have hm3 : ({ s with rest := rr } : PSt).m + 1 ≤ s.m := by have := Hmr.out; show s.out.length + rr.length + 1 ≤ s.out.length + s.rest.length; omega
              have hcall := IHB.out k (by omega) (l + 1) (li + 1) { s with rest := rr } _ x Hx.out (by have := Hli.out; omega) (by omega) (by have := Hli.out; omega) hb3 hds (by omega)
              have hp2 := Hp.out
              have hxd : 0 ≤ x.2.1.depth := by rw [HIx.out.depth]; exact hds
              have hxm : x.2.1.m + 1 ≤ 256 := by have := HIx.out.m; omega
              obtain ⟨xb, xs, xn⟩ := x
              simp only at hcall hp2 hxd hxm
              cases xb
              · simp only [Bool.false_eq_true, if_false, Option.some.injEq] at hp2
                refine hcall.mono ?_
                rintro e w3 ⟨rfl, hw3, hf4⟩
                go_wp2
                go_ret
                rw [← hp2]
                exact ⟨rfl, hw3, PM.trans (PM.trans hfr hf3) hf4⟩
              · simp only [if_true] at hp2
                have Hp2 := Lib.hid hp2; clear hp2 Hp Hx HIx
                refine hcall.mono ?_
                rintro e w3 ⟨rfl, hw3, hf4⟩
                go_wp2_with fail
                refine (put_any n0 g xs 7 t.text 0 _ hw3 (by simp only [PSt.m] at hxm; omega)).mono ?_
                rintro e w4 ⟨rfl, hw4, hf5⟩
                simp only [pput]
                go_wp2_with fail
                go_roundg k
                case measure => omega
                case rel => exact ⟨(pput xs 7 t.text 0).2, by omega, Hp2.out, hw4, PM.trans (PM.trans (PM.trans hfr hf3) hf4) hf5, by simp only [pput, PSt.m, List.length_append, List.length_cons, List.length_nil] at hxm ⊢; omega, hxd⟩
            · rw [if_neg (fun h => hlv h.2)] at hp
              simp only [Option.some.injEq] at hp
              have Hp := Lib.hid hp; clear hp
              have Hrr := Lib.hid hr; clear hr
              have Hkd := Lib.hid hkd; clear hkd
              have hlq : (((level t.text : Nat) : Int) == li) = false := by rw [beq_eq_false_iff_ne]; have := Hli.out; omega
              have Hlv := Lib.hid hlv; clear hlv
              go_wp2_with (go_at_call 47; refine (level_any t.text _).mono ?_; rintro e w2 ⟨rfl, hb2⟩)
              go_ret
              rw [← Hp.out]
              exact ⟨rfl, HPW.out.below hb2, PM.trans hfr (Frm.any hb2)⟩
          · rw [if_neg (fun h => hkd h.1)] at hp
            simp only [Option.some.injEq] at hp
            have Hp := Lib.hid hp; clear hp
            have hkd' : (t.kind == 3) = false := by simpa using hkd
            clear hkd
            have Hrr := Lib.hid hr; clear hr
            go_wp2
            go_ret
            rw [← Hp.out]
            exact ⟨rfl, HPW.out, hfr⟩
end Go.Proofs.Ytchdpjgncojhaaa
