/- Expressions: the walks of the parser's methods: within, parentheses, binary, single, arguments. -/
import Derived.Test.YtchdpjgncojhaaaE3
import Derived.Test.YtchdpjgncojhaaaE4
import Derived.Test.YtchdpjgncojhaaaParseLen
import Derived.Test.YtchdpjgncojhaaaTokP5
set_option linter.unusedVariables false
set_option linter.unusedSimpArgs false
namespace Go.Proofs.Ytchdpjgncojhaaa
open Go.RowKit

set_option maxRecDepth 100000 in
theorem within_deep (n0 g : Nat) (st : PSt) (F : Nat) (first caps : Array Value) (w : World) (h : PW w n0 g st) (hd : 24 < st.depth) :
    Calls Try.prog 97 #[.pointer (some ⟨g, 0, none⟩), .func (.func F) first caps] w (PPost n0 g w (pfail st 11)) := by
  have H := Lib.hid h
  obtain ⟨hn0, hol, htl, A, n, c, Ao, co, hb, hsl, hown⟩ := h
  have c1 := cell_blk hb 1
  simp only [List.getElem?_toArray, List.getElem?_cons_succ, List.getElem?_cons_zero] at c1
  clear hb hsl hown htl hol
  go_enter Try.func97, Try.ntmps97
  go_wp2_with fail
  refine (fail_any n0 g st 11 _ H.out).mono ?_
  rintro e w' ⟨rfl, hw, hf⟩
  go_wp2
  go_ret
  exact ⟨rfl, hw, hf⟩

set_option maxRecDepth 100000 in
theorem parens_no (n0 g : Nat) (st : PSt) (F : Nat) (first caps : Array Value) (w : World) (h : PW w n0 g st) (hnx : pnext st [40] = false) :
    Calls Try.prog 99 #[.pointer (some ⟨g, 0, none⟩), .func (.func F) first caps] w (PPost n0 g w (pfail st 4)) := by
  have H := Lib.hid h; clear h
  have HN := Lib.hid hnx; clear hnx
  go_enter Try.func99, Try.ntmps99
  go_wp2_with fail
  have hpw2 : PW ((w.alloc (.cells #[.pointer (some ⟨g, 0, none⟩)] 57)).alloc (.cells #[.func (.func F) first caps] 23)) n0 g st := H.out.below ((boxed).alloc (by simp) _)
  refine (next_is n0 g st [40] _ hpw2).mono ?_
  rw [HN.out]
  rintro e w' ⟨rfl, rfl⟩
  go_wp2_with fail
  refine (fail_any n0 g st 4 _ hpw2).mono ?_
  rintro e w' ⟨rfl, hw, hf⟩
  go_wp2
  go_ret
  exact ⟨rfl, hw, PM.trans (Frm.any (boxed.alloc (by simp) _)) hf⟩

set_option maxRecDepth 100000 in
theorem parens_deep (n0 g : Nat) (st : PSt) (F : Nat) (first caps : Array Value) (w : World) (h : PW w n0 g st) (hnx : pnext st [40] = true) (hd : 24 < st.depth) :
    Calls Try.prog 99 #[.pointer (some ⟨g, 0, none⟩), .func (.func F) first caps] w (PPost n0 g w (pfail st 11)) := by
  have H := Lib.hid h; clear h
  have HN := Lib.hid hnx; clear hnx
  go_enter Try.func99, Try.ntmps99
  go_wp2_with fail
  have hpw2 : PW ((w.alloc (.cells #[.pointer (some ⟨g, 0, none⟩)] 57)).alloc (.cells #[.func (.func F) first caps] 23)) n0 g st := H.out.below ((boxed).alloc (by simp) _)
  refine (next_is n0 g st [40] _ hpw2).mono ?_
  rw [HN.out]
  rintro e w' ⟨rfl, rfl⟩
  go_wp2_with fail
  refine (within_deep n0 g st _ _ _ _ hpw2 hd).mono ?_
  rintro e w' ⟨rfl, hw, hf⟩
  go_wp2
  go_ret
  exact ⟨rfl, hw, PM.trans (Frm.any (boxed.alloc (by simp) _)) hf⟩

/-- parentheses(part) as the plain parser has it. -/
theorem parens_all (X : Nat → Prop) (R : World → Prop) (n0 g : Nat) (st : PSt) (F : Nat) (first caps : Array Value) (hF : ∀ (args : Array Value) (w : World), (callFunc F args).run Try.prog w = .ok (.enter F args) w)
    (hR : Lasts R n0 g) (part : PSt → PRes) (hgood : ∀ st x, part st = some x → x.2.1.depth = st.depth) (r : Bool × PSt × Int) (hr : pparens part st = some r) (w : World) (h : PW w n0 g st) (hd0 : 0 ≤ st.depth) (hX : ∀ k, X k → k < w.heap.size)
    (R0 : World → Prop) (hR0 : R0 w) (hlast0 : Lasts R0 n0 g)
    (hpart : ∀ x, part { st with depth := st.depth + 1, rest := st.rest.tail } = some x → ∀ w1, PW w1 n0 g { st with depth := st.depth + 1, rest := st.rest.tail } → R0 w1 → Frm (PM n0 g w) w w1 → Calls Try.prog F (first ++ caps) w1 (PPostX X R n0 g w1 x.1 x.2.1)) :
    Calls Try.prog 99 #[.pointer (some ⟨g, 0, none⟩), .func (.func F) first caps] w (fun e w' => e = .returned (.bool r.1) ∧ PW w' n0 g r.2.1 ∧ Frm (PMX X n0 g w) w w' ∧ ((∃ x, part { st with depth := st.depth + 1, rest := st.rest.tail } = some x ∧ pnext st [40] = true ∧ st.depth ≤ 24 ∧ R w') ∨ r.1 = false)) := by
  cases hnx : pnext st [40]
  · have hr2 : r = ((pfail st 4).1, (pfail st 4).2, 0) := by
      unfold pparens at hr
      rw [hnx] at hr
      injection hr with hr
      exact hr.symm
    subst hr2
    refine (parens_no n0 g st F first caps w h hnx).mono ?_
    rintro e w' ⟨he, hw, hf⟩
    exact ⟨he, hw, PMX.of hf, .inr rfl⟩
  · by_cases hdp : 24 < st.depth
    · have hr2 : r = ((pfail st 11).1, (pfail st 11).2, 0) := by
        unfold pparens pwithin at hr
        rw [hnx, if_pos rfl, if_pos hdp] at hr
        injection hr with hr
        exact hr.symm
      subst hr2
      refine (parens_deep n0 g st F first caps w h hnx hdp).mono ?_
      rintro e w' ⟨he, hw, hf⟩
      exact ⟨he, hw, PMX.of hf, .inr rfl⟩
    · unfold pparens pwithin at hr
      rw [hnx, if_pos rfl, if_neg hdp] at hr
      unfold pdown pclose at hr
      cases hq : part { st with depth := st.depth + 1, rest := st.rest.tail } with
      | none => simp only [hq] at hr; cases hr
      | some x =>
        simp only [hq, Option.map_some, Option.some.injEq] at hr
        have hdx := hgood _ _ hq
        have := parens_any X R n0 g st F first caps hF hR x.1 x.2.1 w h hnx (by omega) hd0 hdx hX (fun w1 hw1 hf1 => hpart x hq w1 hw1 (hlast0 _ _ hR0 hf1) hf1)
        refine this.mono ?_
        rintro e w' ⟨he, hw, hf, hR'⟩
        obtain ⟨b, s, n⟩ := x
        subst hr
        cases b
        · exact ⟨he, hw, hf, .inl ⟨_, rfl, rfl, by omega, hR'⟩⟩
        · exact ⟨he, hw, hf, .inl ⟨_, rfl, rfl, by omega, hR'⟩⟩

/-- Where a slice of tokens begins behind its first one. -/
def tailA (A : Option Addr) (c : Nat) : Option Addr := if c = 1 then A else A.map fun x => { block := x.block, off := x.off + 2 }
theorem Sl.tail_ {w : World} {S : Nat → Prop} {A : Option Addr} {n c : Nat} {xs : List Tok} (h : Sl w S A n c xs) (hn : 1 ≤ n) : Sl w S (tailA A c) (n - 1) (c - 1) xs.tail := by
  unfold tailA
  by_cases hc : c = 1
  · rw [if_pos hc]; subst hc; exact h.tail1 hn rfl
  · rw [if_neg hc]; exact h.tail2 hn hc
theorem run_tail (w : World) (A : Option Addr) (n c : Nat) (h1 : 1 ≤ n) (h2 : n ≤ c) (h3 : c ≤ 9223372036854775807) :
    (Instr.slice 22 (.slice A n c) (some (.int .i64 1)) none none).run Try.prog w = .ok (.slice (tailA A c) (n - 1) (c - 1)) w := by
  have h4 : 1 ≤ c := by omega
  unfold tailA
  by_cases hc : c = 1
  · subst hc
    simp [go_sem, Try.underlying22]
    intro h; omega
  · simp [go_sem, hc, Try.underlying22]
    intro h; omega
end Go.Proofs.Ytchdpjgncojhaaa

namespace Go.Proofs.Ytchdpjgncojhaaa
open Go.RowKit

def WBin (n0 g f : Nat) : Prop := ∀ (l : Nat) (li : Int) (st : PSt) (w : World) (r : Bool × PSt × Int), pr f (.bin l) st = some r → li = l → 1 ≤ l → l ≤ 11 → PW w n0 g st → 0 ≤ st.depth → st.m ≤ 256 →
  Calls Try.prog 64 #[.pointer (some ⟨g, 0, none⟩), .int .i64 li] w (PPost n0 g w (r.1, r.2.1))
def WSingle (n0 g f : Nat) : Prop := ∀ (st : PSt) (w : World) (r : Bool × PSt × Int), pr f .single st = some r → PW w n0 g st → 0 ≤ st.depth → st.m ≤ 256 →
  Calls Try.prog 76 #[.pointer (some ⟨g, 0, none⟩)] w (PPost n0 g w (r.1, r.2.1))
def NB (nb : Nat) (n : Int) (w : World) : Prop := w.heap[nb]? = some (.cells #[.int .u32 n] 37 (0, 0))
def WArgs (n0 g f : Nat) : Prop := ∀ (st : PSt) (w : World) (r : Bool × PSt × Int) (nb : Nat), pr f (.args 0) st = some r → PW w n0 g st → NB nb 0 w → nb ≠ g → g < nb → 0 ≤ st.depth → st.m ≤ 256 →
  Calls Try.prog 103 #[.pointer (some ⟨g, 0, none⟩), .pointer (some ⟨nb, 0, none⟩)] w (PPostX (fun b => b = nb) (NB nb r.2.2) n0 g w r.1 r.2.1)

set_option maxRecDepth 100000 in
set_option maxHeartbeats 2000000 in
theorem bin_top (n0 g f : Nat) (ihS : WSingle n0 g f) (st : PSt) (w : World) (r : Bool × PSt × Int) (h : pr f .single st = some r) (hpw : PW w n0 g st) (hd : 0 ≤ st.depth) (hm : st.m ≤ 256) :
    Calls Try.prog 64 #[.pointer (some ⟨g, 0, none⟩), .int .i64 11] w (PPost n0 g w (r.1, r.2.1)) := by
  have H := Lib.hid (ihS st w r h hpw hd hm)
  clear h hpw ihS
  go_enter Try.func64, Try.ntmps64
  go_wp2_with fail
  refine H.out.mono ?_
  rintro e w1 ⟨rfl, hw1, hf1⟩
  go_wp2
  go_ret
  exact ⟨rfl, hw1, hf1⟩

set_option maxRecDepth 100000 in
set_option maxHeartbeats 4000000 in
theorem bin_step (n0 g f : Nat) (ihB : ∀ f', f' ≤ f → WBin n0 g f') (ihS : WSingle n0 g f) : WBin n0 g (f + 1) := by
  intro l li st w r h hli h1 h11 hpw hd hm
  rw [pr] at h
  by_cases hl : l = 11
  · rw [if_pos hl] at h
    subst hl hli
    exact bin_top n0 g f ihS st w r h hpw hd hm
  · rw [if_neg hl] at h
    obtain ⟨y, hy, h⟩ := bind_some h
    have hB := ihB f (Nat.le_refl f) (l + 1) (li + 1) st w y hy (by omega) (by omega) (by omega) hpw hd hm
    have hI := pr_inv _ _ _ _ hy
    have hneq : (li == 11) = false := by rw [beq_eq_false_iff_ne]; omega
    have hlb : 1 ≤ li ∧ li ≤ 10 := by omega
    obtain ⟨hlb1, hlb2⟩ := hlb
    have HB := Lib.hid hB; clear hB hy hpw
    have IHB := Lib.hid ihB; clear ihB ihS hl
    have Hli := Lib.hid hli; clear hli
    cases hb : y.1
    · rw [hb] at h
      injection h with h
      have Hr := Lib.hid h; clear h
      have Hb := Lib.hid hb; clear hb
      go_enter Try.func64, Try.ntmps64
      go_wp2_with fail
      refine HB.out.mono ?_
      rw [Hb.out]
      rintro e w1 ⟨rfl, hw1, hf1⟩
      go_wp2
      go_ret
      rw [← Hr.out]
      exact ⟨rfl, hw1, hf1⟩
    · rw [hb, if_pos rfl] at h
      have Hr := Lib.hid h; clear h
      have Hb := Lib.hid hb; clear hb
      go_enter Try.func64, Try.ntmps64
      go_wp2_with fail
      refine HB.out.mono ?_
      rw [Hb.out]
      rintro e w1 ⟨rfl, hw1, hf1⟩
      have hdy : 0 ≤ y.2.1.depth := by rw [hI.depth]; exact hd
      have hmy : y.2.1.m ≤ 256 := Nat.le_trans hI.m hm
      generalize y.2.1 = s at *
      clear hI HB Hb
      go_wp2_with fail
      go_loopg [5] f (fun k o wr => ∃ s, k ≤ f ∧ pr k (.loop l) s = some r ∧ PW wr n0 g s ∧ Frm (PM n0 g w) w wr ∧ s.m ≤ 256 ∧ 0 ≤ s.depth)
      case atStart => exact ⟨s, Nat.le_refl f, Hr.out, hw1, hf1, hmy, hdy⟩
      case round =>
        obtain ⟨s, hk, hp, hpw, hfr, hms, hds⟩ := hrel
        obtain ⟨k, rfl⟩ : ∃ k', gk = k' + 1 := by
          cases gk with
          | zero => cases hp
          | succ k' => exact ⟨k', rfl⟩
        rw [pr] at hp
        have HPW := Lib.hid hpw
        obtain ⟨hn0, hol, htl, A, n, c, Ao, co, hbk, hsl, hown⟩ := hpw
        have c0 := cell_blk hbk 0
        have z0 := frz_blk hbk 0
        simp only [List.getElem?_toArray, List.getElem?_cons_zero] at c0
        have hn := hsl.len
        subst hn
        have hle := hsl.le
        have hcap := hsl.2.1
        have hcm := hsl.2.2.1
        have HBK := Lib.hid hbk; clear hbk
        have HSL := Lib.hid hsl; clear hsl
        have HOW := Lib.hid hown; clear hown
        have HTL := Lib.hid htl; clear htl
        cases hr : s.rest with
        | nil =>
          rw [hr] at hp
          simp only [Option.some.injEq] at hp
          have Hp := Lib.hid hp; clear hp
          rw [hr] at c0 hle hcap
          simp only [List.length_nil] at c0 hle hcap
          have Hrr := Lib.hid hr; clear hr
          go_wp2
          go_ret
          rw [← Hp.out]
          exact ⟨rfl, HPW.out, hfr⟩
        | cons t rr =>
          rw [hr] at hp
          simp only at hp
          obtain ⟨bb, oo, hA, hSb, hbs, h1, h2⟩ := HSL.out.tok (k := 0) (by rw [hr]; simp)
          simp only [hr, List.getElem_cons_zero, Nat.zero_mul, Nat.add_zero] at h1 h2
          subst hA
          have hrl : 1 ≤ s.rest.length := by rw [hr]; simp
          have htt : t.text.length ≤ 9223372036854775807 := HTL.out t (by rw [hr]; simp)
          by_cases hkd : t.kind = 3
          · have hkd' : (t.kind == 3) = true := by simpa using hkd
            by_cases hlv : level t.text = l
            · rw [if_pos ⟨hkd, hlv⟩] at hp
              obtain ⟨x, hx, hp⟩ := bind_some hp
              have hlq : (((level t.text : Nat) : Int) == li) = true := by rw [beq_iff_eq]; have := Hli.out; omega
              have hIx := pr_inv _ _ _ _ hx
              have hslr := fun wx => run_tail wx (some ⟨bb, oo, none⟩) s.rest.length c hrl hcap hcm
              have htail : s.rest.tail = rr := by rw [hr]; rfl
              have Htail := Lib.hid htail; clear htail
              have hmr : rr.length + 1 = s.rest.length := by rw [hr]; simp
              have Hmr := Lib.hid hmr; clear hmr
              have Hrr := Lib.hid hr; clear hr
              have Hkd := Lib.hid hkd; clear hkd
              have Hlv := Lib.hid hlv; clear hlv
              have Hp := Lib.hid hp; clear hp
              have Hx := Lib.hid hx; clear hx
              have HIx := Lib.hid hIx; clear hIx
              go_wp2_with (go_at_call 47; refine (level_any t.text _).mono ?_; rintro e w2 ⟨rfl, hb2⟩; have hbk2 := keptBlk hb2 HBK.out; have d0 := cell_blk hbk2 0; have y0 := frz_blk hbk2 0; simp only [List.getElem?_toArray, List.getElem?_cons_zero] at d0; have g1 := (hb2.cell (p := ⟨bb, oo, none⟩) hbs).trans h1; have g2 := (hb2.cell (p := ⟨bb, oo + 1, none⟩) hbs).trans h2)
              have hb3 : PW (w2.setCell ⟨g, 0, none⟩ (.slice (tailA (some ⟨bb, oo, none⟩) c) (s.rest.length - 1) (c - 1))) n0 g { s with rest := rr } :=
                PW.mk_ hn0 hol (fun t ht => HTL.out t (by rw [Hrr.out]; simp [ht])) (by rw [Blk.set w2 (keptBlk hb2 HBK.out) 0]; rfl) (Htail.out ▸ (HSL.out.below hb2).tail_ hrl) (HOW.out.below hb2) (fun k _ hk => set_other _ _ _ _ _ hk)
              have hf3 : Frm (PM n0 g wr) wr (w2.setCell ⟨g, 0, none⟩ (.slice (tailA (some ⟨bb, oo, none⟩) c) (s.rest.length - 1) (c - 1))) := (Frm.any hb2).setCell (fun _ => ⟨hn0, .inl rfl⟩) _
              have hm3 : ({ s with rest := rr } : PSt).m + 1 ≤ s.m := by have := Hmr.out; show s.out.length + rr.length + 1 ≤ s.out.length + s.rest.length; omega
              have hcall := IHB.out k (by omega) (l + 1) (li + 1) { s with rest := rr } _ x Hx.out (by have := Hli.out; omega) (by omega) (by have := Hli.out; omega) hb3 hds (by omega)
              have hp2 := Hp.out
              have hxd : 0 ≤ x.2.1.depth := by rw [HIx.out.depth]; exact hds
              have hxm : x.2.1.m + 1 ≤ 256 := by have := HIx.out.m; omega
              obtain ⟨xb, xs, xn⟩ := x
              simp only at hcall hp2 hxd hxm
              cases xb
              · simp only [Bool.false_eq_true, if_false, Option.some.injEq] at hp2
                refine hcall.mono ?_
                rintro e w3 ⟨rfl, hw3, hf4⟩
                go_wp2
                go_ret
                rw [← hp2]
                exact ⟨rfl, hw3, PM.trans (PM.trans hfr hf3) hf4⟩
              · simp only [if_true] at hp2
                have Hp2 := Lib.hid hp2; clear hp2 Hp Hx HIx
                refine hcall.mono ?_
                rintro e w3 ⟨rfl, hw3, hf4⟩
                go_wp2_with fail
                refine (put_any n0 g xs 7 t.text 0 _ hw3 (by simp only [PSt.m] at hxm; omega)).mono ?_
                rintro e w4 ⟨rfl, hw4, hf5⟩
                simp only [pput]
                go_wp2_with fail
                go_roundg k
                case measure => omega
                case rel => exact ⟨(pput xs 7 t.text 0).2, by omega, Hp2.out, hw4, PM.trans (PM.trans (PM.trans hfr hf3) hf4) hf5, by simp only [pput, PSt.m, List.length_append, List.length_cons, List.length_nil] at hxm ⊢; omega, hxd⟩
            · rw [if_neg (fun h => hlv h.2)] at hp
              simp only [Option.some.injEq] at hp
              have Hp := Lib.hid hp; clear hp
              have Hrr := Lib.hid hr; clear hr
              have Hkd := Lib.hid hkd; clear hkd
              have hlq : (((level t.text : Nat) : Int) == li) = false := by rw [beq_eq_false_iff_ne]; have := Hli.out; omega
              have Hlv := Lib.hid hlv; clear hlv
              go_wp2_with (go_at_call 47; refine (level_any t.text _).mono ?_; rintro e w2 ⟨rfl, hb2⟩)
              go_ret
              rw [← Hp.out]
              exact ⟨rfl, HPW.out.below hb2, PM.trans hfr (Frm.any hb2)⟩
          · rw [if_neg (fun h => hkd h.1)] at hp
            simp only [Option.some.injEq] at hp
            have Hp := Lib.hid hp; clear hp
            have hkd' : (t.kind == 3) = false := by simpa using hkd
            clear hkd
            have Hrr := Lib.hid hr; clear hr
            go_wp2
            go_ret
            rw [← Hp.out]
            exact ⟨rfl, HPW.out, hfr⟩
end Go.Proofs.Ytchdpjgncojhaaa

namespace Go.Proofs.Ytchdpjgncojhaaa
open Go.RowKit

theorem whole_step (n0 g f : Nat) (ihB : WBin n0 g f) (st : PSt) (w : World) (r : Bool × PSt × Int) (h : pr f (.bin 1) st = some r) (hpw : PW w n0 g st) (hd : 0 ≤ st.depth) (hm : st.m ≤ 256) :
    Calls Try.prog 36 #[.pointer (some ⟨g, 0, none⟩)] w (PPost n0 g w (r.1, r.2.1)) := by
  have H := Lib.hid (ihB 1 1 st w r h rfl (by omega) (by omega) hpw hd hm)
  clear h hpw ihB
  go_enter Try.func36, Try.ntmps36
  go_wp2_with fail
  refine H.out.mono ?_
  rintro e w1 ⟨rfl, hw1, hf1⟩
  go_wp2
  go_ret
  exact ⟨rfl, hw1, hf1⟩
theorem factor_step (n0 g f : Nat) (ihB : WBin n0 g f) (st : PSt) (w : World) (r : Bool × PSt × Int) (h : pr f (.bin 11) st = some r) (hpw : PW w n0 g st) (hd : 0 ≤ st.depth) (hm : st.m ≤ 256) :
    Calls Try.prog 98 #[.pointer (some ⟨g, 0, none⟩)] w (PPost n0 g w (r.1, r.2.1)) := by
  have H := Lib.hid (ihB 11 11 st w r h rfl (by omega) (by omega) hpw hd hm)
  clear h hpw ihB
  go_enter Try.func98, Try.ntmps98
  go_wp2_with fail
  refine H.out.mono ?_
  rintro e w1 ⟨rfl, hw1, hf1⟩
  go_wp2
  go_ret
  exact ⟨rfl, hw1, hf1⟩
theorem nothing_step (n0 g : Nat) (st : PSt) (w : World) (hpw : PW w n0 g st) :
    Calls Try.prog 100 #[.pointer (some ⟨g, 0, none⟩)] w (PPost n0 g w (true, st)) := by
  go_enter Try.func100, Try.ntmps100
  go_wp2
  go_ret
  exact ⟨rfl, hpw, Frm.refl _ _⟩

set_option maxRecDepth 100000 in
set_option maxHeartbeats 2000000 in
theorem single_nil (n0 g : Nat) (st : PSt) (w : World) (hr : st.rest = []) (hpw : PW w n0 g st) :
    Calls Try.prog 76 #[.pointer (some ⟨g, 0, none⟩)] w (PPost n0 g w (pfail st 4)) := by
  have HPW := Lib.hid (hpw.below (boxed (cs := #[.pointer (some ⟨g, 0, none⟩)]) (t := 57)))
  have hgz := hpw.lt
  obtain ⟨hn0, hol, htl, A, n, c, Ao, co, hbk, hsl, hown⟩ := hpw
  have c0 := cell_blk hbk 0
  simp only [List.getElem?_toArray, List.getElem?_cons_zero] at c0
  have hn := hsl.len
  rw [hr] at hn
  subst hn
  simp only [List.length_nil] at c0
  clear hbk hsl hown htl hol hr
  go_enter Try.func76, Try.ntmps76
  go_wp2_with fail
  refine (fail_any n0 g st 4 _ HPW.out).mono ?_
  rintro e w1 ⟨rfl, hw1, hf1⟩
  go_wp2
  go_ret
  exact ⟨rfl, hw1, PM.trans (Frm.any boxed) hf1⟩

theorem adv_boxes {w : World} {g : Nat} {v : Value} {o1 o2 : Obj} : ((((w.setCell ⟨g, 0, none⟩ v).alloc o1).alloc o2).drew).heap[w.heap.size]? = some o1 ∧ ((((w.setCell ⟨g, 0, none⟩ v).alloc o1).alloc o2).drew).heap[w.heap.size + 1]? = some o2 :=
  ⟨blkOld (blkAt _ _ (by simp [World.setCell])) _, blkAt _ _ (by simp [World.setCell])⟩
theorem adv_pw {w : World} {n0 g : Nat} {st : PSt} {A : Option Addr} {c : Nat} {Ao : Option Addr} {co : Nat} {rr : List Tok} (hn0 : n0 ≤ g) (hol : st.out.length ≤ 100000) (htl : ∀ t ∈ st.rest, t.text.length ≤ 9223372036854775807)
    (hb : w.heap[g]? = some (.cells #[.slice A st.rest.length c, .int .i64 st.depth, .slice Ao st.out.length co, .int .i64 st.err] 59 (0, 0)))
    (hs : Sl w (fun b => b < n0) A st.rest.length c st.rest) (ho : Own w (fun _ => False) (g + 1) 50 Ao co st.out) (hrl : 1 ≤ st.rest.length) (ht : st.rest.tail = rr) (o1 o2 : Obj) :
    PW ((((w.setCell ⟨g, 0, none⟩ (.slice (tailA A c) (st.rest.length - 1) (c - 1))).alloc o1).alloc o2).drew) n0 g { st with rest := rr } ∧
      Frm (PM n0 g w) w ((((w.setCell ⟨g, 0, none⟩ (.slice (tailA A c) (st.rest.length - 1) (c - 1))).alloc o1).alloc o2).drew) := by
  have hr : rr.length = st.rest.length - 1 := by rw [← ht, List.length_tail]
  have h0 : PW (w.setCell ⟨g, 0, none⟩ (.slice (tailA A c) (st.rest.length - 1) (c - 1))) n0 g { st with rest := rr } :=
    PW.mk_ hn0 hol (fun t h => htl t (List.mem_of_mem_tail (ht ▸ h))) (by rw [Blk.set w hb 0]; rfl) (ht ▸ hs.tail_ hrl) ho (fun k _ hk => set_other _ _ _ _ _ hk)
  have hbl : Below (w.setCell ⟨g, 0, none⟩ (.slice (tailA A c) (st.rest.length - 1) (c - 1))).heap.size (w.setCell ⟨g, 0, none⟩ (.slice (tailA A c) (st.rest.length - 1) (c - 1))) ((((w.setCell ⟨g, 0, none⟩ (.slice (tailA A c) (st.rest.length - 1) (c - 1))).alloc o1).alloc o2).drew) :=
    (((Below.refl _ _).alloc (Nat.le_refl _) _).alloc (by simp) _).drew
  exact ⟨h0.below hbl, PM.trans ((Frm.refl _ _).setCell (fun _ => ⟨hn0, .inl rfl⟩) _) (Frm.any hbl)⟩

set_option maxRecDepth 100000 in
set_option maxHeartbeats 2000000 in
theorem single_num (n0 g : Nat) (st : PSt) (t : Tok) (rr : List Tok) (w : World) (hr : st.rest = t :: rr) (hpw : PW w n0 g st) (hm : st.m ≤ 256) (hk : t.kind = 2) :
    Calls Try.prog 76 #[.pointer (some ⟨g, 0, none⟩)] w (PPost n0 g w (pput { st with rest := rr } 1 [] (number t.text).1)) := by
  have hgz := hpw.lt
  obtain ⟨hn0, hol, htl, A, n, c, Ao, co, hbk, hsl, hown⟩ := hpw
  have c0 := cell_blk hbk 0
  have z0 := frz_blk hbk 0
  simp only [List.getElem?_toArray, List.getElem?_cons_zero] at c0
  have hn := hsl.len
  subst hn
  have hle := hsl.le
  have hcap := hsl.2.1
  have hcm := hsl.2.2.1
  obtain ⟨bb, oo, hA, hSb, hbs, h1, h2⟩ := hsl.tok (k := 0) (by rw [hr]; simp)
  simp only [hr, List.getElem_cons_zero, Nat.zero_mul, Nat.add_zero] at h1 h2
  subst hA
  have hrl : 1 ≤ st.rest.length := by rw [hr]; simp
  have htt : t.text.length ≤ 9223372036854775807 := htl t (by rw [hr]; simp)
  have hslr := fun wx => run_tail wx (some ⟨bb, oo, none⟩) st.rest.length c hrl hcap hcm
  have HBK := Lib.hid hbk; clear hbk
  have HSL := Lib.hid hsl; clear hsl
  have HOW := Lib.hid hown; clear hown
  have HTL := Lib.hid htl; clear htl
  have Hrr := Lib.hid hr; clear hr
  have hk' : (t.kind == 2) = true := by simpa using hk
  clear hk
  have hrn0 : (st.rest.length == 0) = false := by rw [beq_eq_false_iff_ne]; omega
  go_enter Try.func76, Try.ntmps76
  go_wp2_with (go_at_call 25; refine (unary_any t.text 0 _ (by omega) (by omega)).mono ?_; rintro e w' ⟨rfl, rfl⟩)
  go_region
  go_wp2_with fail
  have hadv := adv_pw (rr := rr) hn0 hol HTL.out HBK.out HSL.out HOW.out hrl (by rw [Hrr.out]; rfl) (.cells #[.pointer (some ⟨g, 0, none⟩)] 57) (.cells #[.int .i64 t.kind, .string ⟨t.text.toArray⟩] 54)
  have hbx := adv_boxes (w := w) (g := g) (v := .slice (tailA (some ⟨bb, oo, none⟩) c) (st.rest.length - 1) (c - 1)) (o1 := .cells #[.pointer (some ⟨g, 0, none⟩)] 57) (o2 := .cells #[.int .i64 t.kind, .string ⟨t.text.toArray⟩] 54)
  refine (number_any t.text _ htt).mono ?_
  rintro e w3 ⟨rfl, hb3⟩
  have hx1 := cell_blk (keptBlk hb3 hbx.1) 0
  simp only [List.getElem?_toArray, List.getElem?_cons_zero] at hx1
  go_wp2_with fail
  refine (put_any n0 g { st with rest := rr } 1 [] (number t.text).1 _ (hadv.1.below hb3) (by simp only [PSt.m] at hm; show st.out.length < 100000; omega)).mono ?_
  rintro e w4 ⟨rfl, hw4, hf4⟩
  go_wp2
  go_ret
  exact ⟨rfl, hw4, PM.trans (PM.trans hadv.2 (Frm.any hb3)) hf4⟩
end Go.Proofs.Ytchdpjgncojhaaa

namespace Go.Proofs.Ytchdpjgncojhaaa
open Go.RowKit

theorem PW.other {w w' : World} {n0 g : Nat} {st : PSt} (h : PW w n0 g st) {nb : Nat} (hnb : g < nb) {cs : Array Value} {t : TypeId} {fz : Nat × Nat} (ht : w.heap[nb]? = some (.cells cs t fz)) (htt : t ≠ 50)
    (hk : ∀ k, k < w.heap.size → k ≠ nb → w'.heap[k]? = w.heap[k]?) : PW w' n0 g st := by
  have hlt := h.lt
  obtain ⟨hn0, hol, htl, A, n, c, Ao, co, hb, hs, ho⟩ := h
  refine ⟨hn0, hol, htl, A, n, c, Ao, co, by rw [hk g hlt (by omega), hb], hs.keep fun k h1 h2 => hk k h1 (by omega), ho.keep fun k h1 h2 => hk k h1 ?_⟩
  rintro rfl
  rcases h2 with h2 | h2
  · exact h2
  · obtain ⟨cs', fz', h'⟩ := ho.typed h2
    rw [ht] at h'
    injection h' with h'
    injection h' with _ e
    exact htt e

theorem NB.lasts {nb : Nat} {n : Int} {n0 g : Nat} (h : nb ≠ g) : Lasts (NB nb n) n0 g := fun _ _ hb hf => Frm.blk hf hb (by decide) h

set_option maxRecDepth 100000 in
set_option maxHeartbeats 4000000 in
theorem args_step (n0 g f : Nat) (ihB : ∀ f', f' ≤ f → WBin n0 g f') : WArgs n0 g (f + 1) := by
  intro st w r nb h hpw hnb hng hgn hd hm
  rw [pr] at h
  have HPW := Lib.hid hpw; clear hpw
  have HNB := Lib.hid hnb; clear hnb
  cases hnx : pnext st [41]
  · rw [hnx] at h
    have Hnx := Lib.hid hnx; clear hnx
    have h : pr f (.more 0) st = some r := h
    have Hh := Lib.hid h; clear h
    have IHB := Lib.hid ihB; clear ihB
    go_enter Try.func103, Try.ntmps103
    go_wp2_with fail
    refine (next_is n0 g st [41] _ HPW.out).mono ?_
    rw [Hnx.out]
    rintro e w' ⟨rfl, rfl⟩
    go_wp2_with fail
    go_loopg [9] f (fun k o wr => ∃ (s : PSt) (n : Int), k ≤ f ∧ pr k (.more n) s = some r ∧ PW wr n0 g s ∧ NB nb n wr ∧ Frm (PMX (fun b => b = nb) n0 g w) w wr ∧ s.m ≤ 256 ∧ 0 ≤ s.depth ∧ 0 ≤ n ∧ n ≤ 7)
    case atStart => exact ⟨st, 0, Nat.le_refl f, Hh.out, HPW.out, HNB.out, Frm.refl _ _, hm, hd, by omega, by omega⟩
    case round =>
      obtain ⟨s, n, hk, hp, hpw, hnb, hfr, hms, hds, hn0, hn7⟩ := hrel
      obtain ⟨k, rfl⟩ : ∃ k', gk = k' + 1 := by
        cases gk with
        | zero => cases hp
        | succ k' => exact ⟨k', rfl⟩
      rw [pr] at hp
      obtain ⟨x, hx, hp2⟩ := bind_some hp
      clear hp
      have hp := hp2
      clear hp2
      have hIx := pr_inv _ _ _ _ hx
      have hcall := whole_step n0 g k (IHB.out k (by omega)) s wr x hx hpw hds hms
      have hxd : 0 ≤ x.2.1.depth := by rw [hIx.depth]; exact hds
      have hxm : x.2.1.m ≤ 256 := Nat.le_trans hIx.m hms
      clear hx hIx hpw
      obtain ⟨xb, xs, xn⟩ := x
      simp only at hcall hp hxd hxm
      have HC := Lib.hid hcall; clear hcall
      have HN := Lib.hid hnb; clear hnb
      cases xb
      · simp only [Bool.false_eq_true, if_false, Option.some.injEq] at hp
        have Hp := Lib.hid hp; clear hp
        go_wp2_with fail
        refine HC.out.mono ?_
        rintro e w3 ⟨rfl, hw3, hf3⟩
        go_wp2
        go_ret
        rw [← Hp.out]
        exact ⟨rfl, hw3, PMX.trans hfr (PMX.of hf3), Frm.blk hf3 HN.out (by decide) hng⟩
      · simp only [if_true] at hp
        go_wp2_with fail
        refine HC.out.mono ?_
        rintro e w3 ⟨rfl, hw3, hf3⟩
        have hb3 : w3.heap[nb]? = some (.cells #[.int .u32 n] 37 (0, 0)) := Frm.blk hf3 HN.out (by decide) hng
        have d0 := cell_blk hb3 0
        have y0 := frz_blk hb3 0
        simp only [List.getElem?_toArray, List.getElem?_cons_zero] at d0
        have HB3 := Lib.hid hb3; clear hb3
        have hw4 : PW (w3.setCell ⟨nb, 0, none⟩ (.int .u32 (n + 1))) n0 g xs := hw3.other hgn HB3.out (by decide) (fun k _ hk => set_other _ _ _ _ _ hk)
        have hb4 : NB nb (n + 1) (w3.setCell ⟨nb, 0, none⟩ (.int .u32 (n + 1))) := by
          show _ = _
          rw [Blk.set w3 HB3.out 0]; rfl
        have hf4 : Frm (PMX (fun b => b = nb) n0 g w) w (w3.setCell ⟨nb, 0, none⟩ (.int .u32 (n + 1))) :=
          PMX.trans (PMX.trans hfr (PMX.of hf3)) ((Frm.refl _ _).setCell (fun _ => .inr rfl) _)
        have HF4 := Lib.hid hf4; clear hf4
        have HB4 := Lib.hid hb4; clear hb4
        have HW4 := Lib.hid hw4; clear hw4
        cases hnc : pnext xs [44]
        · rw [hnc] at hp
          simp only [Bool.false_eq_true, if_false, Option.some.injEq] at hp
          have Hp := Lib.hid hp; clear hp
          have Hnc := Lib.hid hnc; clear hnc
          go_wp2_with fail
          refine (next_is n0 g xs [44] _ HW4.out).mono ?_
          rw [Hnc.out]
          rintro e w' ⟨rfl, rfl⟩
          go_wp2
          go_ret
          rw [← Hp.out]
          exact ⟨rfl, HW4.out, HF4.out, HB4.out⟩
        · rw [hnc] at hp
          simp only [if_true] at hp
          have Hnc := Lib.hid hnc; clear hnc
          have e0 := cell_blk HB4.out 0
          simp only [List.getElem?_toArray, List.getElem?_cons_zero] at e0
          by_cases h8 : n + 1 = 8
          · rw [if_pos h8] at hp
            simp only [Option.some.injEq] at hp
            have Hp := Lib.hid hp; clear hp
            have h8' : (n + 1 == 8) = true := by simpa using h8
            have H8 := Lib.hid h8; clear h8
            go_wp2_with fail
            refine (next_is n0 g xs [44] _ HW4.out).mono ?_
            rw [Hnc.out]
            rintro e w' ⟨rfl, rfl⟩
            go_wp2_with fail
            refine (fail_any n0 g xs 10 _ HW4.out).mono ?_
            rintro e w5 ⟨rfl, hw5, hf5⟩
            go_wp2
            go_ret
            rw [← Hp.out]
            exact ⟨rfl, hw5, PMX.trans HF4.out (PMX.of hf5), Frm.blk hf5 HB4.out (by decide) hng⟩
          · rw [if_neg h8] at hp
            have Hp := Lib.hid hp; clear hp
            have h8' : (n + 1 == 8) = false := by simpa using h8
            have h87 : n + 1 ≤ 7 := by omega
            clear h8
            obtain ⟨hn0', hol, htl, A, nn, c, Ao, co, hbk, hsl, hown⟩ := HW4.out
            have c0 := cell_blk hbk 0
            have z0 := frz_blk hbk 0
            simp only [List.getElem?_toArray, List.getElem?_cons_zero] at c0
            have hn := hsl.len
            subst hn
            have hrl : 1 ≤ xs.rest.length := by
              have := Hnc.out
              unfold pnext at this
              cases hr : xs.rest with
              | nil => rw [hr] at this; simp at this
              | cons t r => simp
            have hle := hsl.le
            have hslr := fun wx => run_tail wx A xs.rest.length c hrl hsl.2.1 hsl.2.2.1
            have HBK := Lib.hid hbk; clear hbk
            have HSL := Lib.hid hsl; clear hsl
            have HOW := Lib.hid hown; clear hown
            have HTL := Lib.hid htl; clear htl
            go_wp2_with fail
            refine (next_is n0 g xs [44] _ HW4.out).mono ?_
            rw [Hnc.out]
            rintro e w' ⟨rfl, rfl⟩
            go_wp2_with fail
            go_roundg k
            case measure => omega
            case rel =>
              refine ⟨{ xs with rest := xs.rest.tail }, n + 1, by omega, Hp.out, ?_, ?_, ?_, ?_, hxd, by omega, by omega⟩
              · exact PW.mk_ hn0' hol (fun t h => HTL.out t (List.mem_of_mem_tail h)) (by rw [Blk.set _ HBK.out 0]; rfl) (HSL.out.tail_ hrl) HOW.out (fun k _ hk => set_other _ _ _ _ _ hk)
              · show _ = _
                rw [set_other _ _ _ _ _ (by omega)]; exact HB4.out
              · exact PMX.trans HF4.out (PMX.of ((Frm.refl _ _).setCell (fun _ => ⟨hn0', .inl rfl⟩) _))
              · have := (ptail_inv xs).m; omega
  · rw [hnx] at h
    simp only [if_true, Option.some.injEq] at h
    have Hh := Lib.hid h; clear h
    have Hnx := Lib.hid hnx; clear hnx ihB
    go_enter Try.func103, Try.ntmps103
    go_wp2_with fail
    refine (next_is n0 g st [41] _ HPW.out).mono ?_
    rw [Hnx.out]
    rintro e w' ⟨rfl, rfl⟩
    go_wp2
    go_ret
    rw [← Hh.out]
    exact ⟨rfl, HPW.out, Frm.refl _ _, HNB.out⟩
end Go.Proofs.Ytchdpjgncojhaaa

namespace Go.Proofs.Ytchdpjgncojhaaa
open Go.RowKit

theorem within_all (n0 g : Nat) (st : PSt) (F : Nat) (first caps : Array Value) (hF : ∀ (args : Array Value) (w : World), (callFunc F args).run Try.prog w = .ok (.enter F args) w)
    (part : PSt → PRes) (hgood : ∀ st x, part st = some x → x.2.1.depth = st.depth) (r : Bool × PSt × Int) (hr : pwithin part st = some r) (w : World) (h : PW w n0 g st) (hd0 : 0 ≤ st.depth) (hrl : 1 ≤ st.rest.length)
    (hpart : ∀ x, part { st with depth := st.depth + 1, rest := st.rest.tail } = some x → ∀ w1, PW w1 n0 g { st with depth := st.depth + 1, rest := st.rest.tail } → Frm (PM n0 g w) w w1 → Calls Try.prog F (first ++ caps) w1 (PPost n0 g w1 (x.1, x.2.1))) :
    Calls Try.prog 97 #[.pointer (some ⟨g, 0, none⟩), .func (.func F) first caps] w (PPost n0 g w (r.1, r.2.1)) := by
  by_cases hdp : 24 < st.depth
  · have hr2 : r = ((pfail st 11).1, (pfail st 11).2, 0) := by
      unfold pwithin at hr
      rw [if_pos hdp] at hr
      injection hr with hr
      exact hr.symm
    subst hr2
    exact within_deep n0 g st F first caps w h hdp
  · unfold pwithin at hr
    rw [if_neg hdp] at hr
    unfold pdown at hr
    cases hq : part { st with depth := st.depth + 1, rest := st.rest.tail } with
    | none => simp only [hq] at hr; cases hr
    | some x =>
      simp only [hq, Option.map_some, Option.some.injEq] at hr
      have := within_any (fun _ => False) (fun _ => True) n0 g st F first caps hF (fun _ _ _ _ => trivial) x.1 x.2.1 w h (by omega) hd0 hrl (hgood _ _ hq) (fun w1 hw1 hf1 => (hpart x hq w1 hw1 hf1).mono fun e w' ⟨he, hw, hf⟩ => ⟨he, hw, PMX.of hf, trivial⟩)
      refine this.mono ?_
      rintro e w' ⟨he, hw, hf, _⟩
      subst hr
      exact ⟨he, hw, PMX.plain hf⟩

theorem parens_plain (n0 g : Nat) (st : PSt) (F : Nat) (first caps : Array Value) (hF : ∀ (args : Array Value) (w : World), (callFunc F args).run Try.prog w = .ok (.enter F args) w)
    (part : PSt → PRes) (hgood : ∀ st x, part st = some x → x.2.1.depth = st.depth) (r : Bool × PSt × Int) (hr : pparens part st = some r) (w : World) (h : PW w n0 g st) (hd0 : 0 ≤ st.depth)
    (hpart : ∀ x, part { st with depth := st.depth + 1, rest := st.rest.tail } = some x → ∀ w1, PW w1 n0 g { st with depth := st.depth + 1, rest := st.rest.tail } → Frm (PM n0 g w) w w1 → Calls Try.prog F (first ++ caps) w1 (PPost n0 g w1 (x.1, x.2.1))) :
    Calls Try.prog 99 #[.pointer (some ⟨g, 0, none⟩), .func (.func F) first caps] w (PPost n0 g w (r.1, r.2.1)) := by
  refine (parens_all (fun _ => False) (fun _ => True) n0 g st F first caps hF (fun _ _ _ _ => trivial) part hgood r hr w h hd0 (fun _ h => h.elim) (fun _ => True) trivial (fun _ _ _ _ => trivial)
    (fun x hx w1 hw1 _ hf1 => (hpart x hx w1 hw1 hf1).mono fun e w' ⟨he, hw, hf⟩ => ⟨he, hw, PMX.of hf, trivial⟩)).mono ?_
  rintro e w' ⟨he, hw, hf, _⟩
  exact ⟨he, hw, PMX.plain hf⟩

theorem pr_good (f : Nat) (tag : PTag) : ∀ st x, pr f tag st = some x → x.2.1.depth = st.depth := fun st x h => (pr_inv f tag st x h).depth
theorem pthen_some {r : PRes} {k : Int} {t : Bs} {x : Bool × PSt × Int} (h : pthen r k t = some x) : ∃ q, r = some q ∧ x = if q.1 then (true, (pput q.2.1 k t q.2.2).2, 0) else (false, q.2.1, 0) := by
  unfold pthen at h
  cases hq : r with
  | none => rw [hq] at h; cases h
  | some q => rw [hq] at h; injection h with h; exact ⟨q, rfl, h.symm⟩
theorem pzero_some {r : PRes} {x : Bool × PSt × Int} (h : pzero r = some x) : ∃ q, r = some q ∧ x = (q.1, q.2.1, 0) := by
  unfold pzero at h
  cases hq : r with
  | none => rw [hq] at h; cases h
  | some q => rw [hq] at h; injection h with h; exact ⟨q, rfl, h.symm⟩

set_option maxRecDepth 100000 in
set_option maxHeartbeats 4000000 in
theorem single_un (n0 g : Nat) (st : PSt) (t : Tok) (rr : List Tok) (w : World) (hr : st.rest = t :: rr) (hpw : PW w n0 g st) (hm : st.m ≤ 256) (f : Nat) (ihB : WBin n0 g f) (r : Bool × PSt × Int) (hd : 0 ≤ st.depth) (hk : t.kind = 3) (hun : isUn t.text = true) (hp : pthen (pzero (pwithin (pr f (.bin 11)) st)) 6 t.text = some r) :
    Calls Try.prog 76 #[.pointer (some ⟨g, 0, none⟩)] w (PPost n0 g w (r.1, r.2.1)) := by
  have hgz := hpw.lt
  have HPW := Lib.hid hpw
  obtain ⟨hn0, hol, htl, A, n, c, Ao, co, hbk, hsl, hown⟩ := hpw
  have c0 := cell_blk hbk 0
  have z0 := frz_blk hbk 0
  simp only [List.getElem?_toArray, List.getElem?_cons_zero] at c0
  have hn := hsl.len
  subst hn
  have hle := hsl.le
  have hcap := hsl.2.1
  have hcm := hsl.2.2.1
  obtain ⟨bb, oo, hA, hSb, hbs, h1, h2⟩ := hsl.tok (k := 0) (by rw [hr]; simp)
  simp only [hr, List.getElem_cons_zero, Nat.zero_mul, Nat.add_zero] at h1 h2
  subst hA
  have hrl : 1 ≤ st.rest.length := by rw [hr]; simp
  have htt : t.text.length ≤ 9223372036854775807 := htl t (by rw [hr]; simp)
  have hslr := fun wx => run_tail wx (some ⟨bb, oo, none⟩) st.rest.length c hrl hcap hcm
  have HBK := Lib.hid hbk; clear hbk
  have HSL := Lib.hid hsl; clear hsl
  have HOW := Lib.hid hown; clear hown
  have HTL := Lib.hid htl; clear htl
  have Hrr := Lib.hid hr; clear hr
  have hrn0 : (st.rest.length == 0) = false := by rw [beq_eq_false_iff_ne]; omega
  have hk2 : (t.kind == 2) = false := by rw [hk]; rfl
  have hk3 : (t.kind == 3) = true := by rw [hk]; rfl
  clear hk
  obtain ⟨q0, hq0, hrq⟩ := pthen_some hp
  obtain ⟨q, hq, rfl⟩ := pzero_some hq0
  have hqi := pwithin_inv (pr_inv f (.bin 11)) hrl hq
  clear hp hq0
  have Hrq := Lib.hid hrq; clear hrq
  have Hq := Lib.hid hq; clear hq
  have Hqi := Lib.hid hqi; clear hqi
  have HIB := Lib.hid ihB; clear ihB
  have hu : (unS t.text 0).2 = true := (unS_is t.text 0).trans hun
  go_enter Try.func76, Try.ntmps76
  go_wp2_with (go_at_call 25; refine (unary_any t.text 0 _ (by omega) (by omega)).mono ?_; rintro e w' ⟨rfl, rfl⟩)
  have hpw0 : PW ((w.alloc (.cells #[.pointer (some ⟨g, 0, none⟩)] 57)).alloc (.cells #[.int .i64 t.kind, .string ⟨t.text.toArray⟩] 54)) n0 g st := HPW.out.below (boxed.alloc (by simp) _)
  refine (within_all n0 g st 98 #[.pointer (some ⟨g, 0, none⟩)] #[] (fun _ _ => by kernel_rfl) (pr f (.bin 11)) (pr_good f _) q Hq.out _ hpw0 hd hrl ?_).mono ?_
  · intro x hx w1 hw1 hf1
    exact factor_step n0 g f HIB.out _ w1 x hx hw1 (by simp only; omega) (by simp only [PSt.m, List.length_tail] at hm ⊢; omega)
  · rintro e w3 ⟨rfl, hw3, hf3⟩
    have hrq := Hrq.out
    have hone := Hqi.out.one
    obtain ⟨qb, qs, qn⟩ := q
    simp only at hrq hone
    cases qb
    · simp only [Bool.false_eq_true, if_false] at hrq
      go_wp2
      go_ret
      rw [hrq]
      exact ⟨rfl, hw3, PM.trans (Frm.any (boxed.alloc (by simp) _)) hf3⟩
    · simp only [if_true] at hrq
      have hx1 := cell_blk (hf3.blk (blkOld (heap_alloc_new w _) _) (by decide) (by omega)) 0
      have hx2 := cell_blk (hf3.blk (blkAt _ _ (k := w.heap.size + 1) (by simp)) (by decide) (by omega)) 1
      simp only [List.getElem?_toArray, List.getElem?_cons_succ, List.getElem?_cons_zero] at hx1 hx2
      have Hrq2 := Lib.hid hrq; clear hrq Hrq Hq Hqi
      have hone2 := hone rfl
      clear hone
      go_wp2_with fail
      refine (put_any n0 g qs 6 t.text 0 _ hw3 (by simp only [PSt.m] at hm hone2; omega)).mono ?_
      rintro e w4 ⟨rfl, hw4, hf4⟩
      simp only [pput]
      go_wp2
      go_ret
      rw [Hrq2.out]
      exact ⟨rfl, hw4, PM.trans (PM.trans (Frm.any (boxed.alloc (by simp) _)) hf3) hf4⟩

set_option maxRecDepth 100000 in
set_option maxHeartbeats 4000000 in
theorem single_par (n0 g : Nat) (st : PSt) (t : Tok) (rr : List Tok) (w : World) (hr : st.rest = t :: rr) (hpw : PW w n0 g st) (hm : st.m ≤ 256) (f : Nat) (ihB : WBin n0 g f) (r : Bool × PSt × Int) (hd : 0 ≤ st.depth) (hk : t.kind = 3) (hun : isUn t.text = false) (hp : pzero (pparens (pr f (.bin 1)) st) = some r) :
    Calls Try.prog 76 #[.pointer (some ⟨g, 0, none⟩)] w (PPost n0 g w (r.1, r.2.1)) := by
  have hgz := hpw.lt
  have HPW := Lib.hid hpw
  obtain ⟨hn0, hol, htl, A, n, c, Ao, co, hbk, hsl, hown⟩ := hpw
  have c0 := cell_blk hbk 0
  have z0 := frz_blk hbk 0
  simp only [List.getElem?_toArray, List.getElem?_cons_zero] at c0
  have hn := hsl.len
  subst hn
  have hle := hsl.le
  have hcap := hsl.2.1
  have hcm := hsl.2.2.1
  obtain ⟨bb, oo, hA, hSb, hbs, h1, h2⟩ := hsl.tok (k := 0) (by rw [hr]; simp)
  simp only [hr, List.getElem_cons_zero, Nat.zero_mul, Nat.add_zero] at h1 h2
  subst hA
  have hrl : 1 ≤ st.rest.length := by rw [hr]; simp
  have htt : t.text.length ≤ 9223372036854775807 := htl t (by rw [hr]; simp)
  have hslr := fun wx => run_tail wx (some ⟨bb, oo, none⟩) st.rest.length c hrl hcap hcm
  have HBK := Lib.hid hbk; clear hbk
  have HSL := Lib.hid hsl; clear hsl
  have HOW := Lib.hid hown; clear hown
  have HTL := Lib.hid htl; clear htl
  have Hrr := Lib.hid hr; clear hr
  have hrn0 : (st.rest.length == 0) = false := by rw [beq_eq_false_iff_ne]; omega
  have hk2 : (t.kind == 2) = false := by rw [hk]; rfl
  have hk3 : (t.kind == 3) = true := by rw [hk]; rfl
  clear hk
  obtain ⟨q, hq, rfl⟩ := pzero_some hp
  clear hp
  have Hq := Lib.hid hq; clear hq
  have HIB := Lib.hid ihB; clear ihB
  have hu : (unS t.text 0).2 = false := (unS_is t.text 0).trans hun
  go_enter Try.func76, Try.ntmps76
  go_wp2_with (go_at_call 25; refine (unary_any t.text 0 _ (by omega) (by omega)).mono ?_; rintro e w' ⟨rfl, rfl⟩)
  have hpw0 : PW ((w.alloc (.cells #[.pointer (some ⟨g, 0, none⟩)] 57)).alloc (.cells #[.int .i64 t.kind, .string ⟨t.text.toArray⟩] 54)) n0 g st := HPW.out.below (boxed.alloc (by simp) _)
  refine (parens_plain n0 g st 36 #[.pointer (some ⟨g, 0, none⟩)] #[] (fun _ _ => by kernel_rfl) (pr f (.bin 1)) (pr_good f _) q Hq.out _ hpw0 hd ?_).mono ?_
  · intro x hx w1 hw1 hf1
    exact whole_step n0 g f HIB.out _ w1 x hx hw1 (by simp only; omega) (by simp only [PSt.m, List.length_tail] at hm ⊢; omega)
  · rintro e w3 ⟨rfl, hw3, hf3⟩
    go_wp2
    go_ret
    exact ⟨rfl, hw3, PM.trans (Frm.any (boxed.alloc (by simp) _)) hf3⟩
end Go.Proofs.Ytchdpjgncojhaaa

namespace Go.Proofs.Ytchdpjgncojhaaa
open Go.RowKit

theorem adv_m {st : PSt} {t : Tok} {rr : List Tok} (h : st.rest = t :: rr) (hm : st.m ≤ 256) : ({ st with rest := rr } : PSt).m + 1 ≤ 256 := by
  simp only [PSt.m, h, List.length_cons] at hm ⊢; omega

set_option maxRecDepth 100000 in
set_option maxHeartbeats 4000000 in
theorem single_load (n0 g : Nat) (st : PSt) (t : Tok) (rr : List Tok) (w : World) (hr : st.rest = t :: rr) (hpw : PW w n0 g st) (hm : st.m ≤ 256) (f : Nat) (ihB : WBin n0 g f) (r : Bool × PSt × Int) (hd : 0 ≤ st.depth) (hk2 : t.kind ≠ 2) (hk3 : t.kind ≠ 3) (hun : t.text = [108, 111, 97, 100]) (hp : pthen (pzero (pparens (pr f (.bin 1)) { st with rest := rr })) 4 [] = some r) :
    Calls Try.prog 76 #[.pointer (some ⟨g, 0, none⟩)] w (PPost n0 g w (r.1, r.2.1)) := by
  have hgz := hpw.lt
  have HPW := Lib.hid hpw
  obtain ⟨hn0, hol, htl, A, n, c, Ao, co, hbk, hsl, hown⟩ := hpw
  have c0 := cell_blk hbk 0
  have z0 := frz_blk hbk 0
  simp only [List.getElem?_toArray, List.getElem?_cons_zero] at c0
  have hn := hsl.len
  subst hn
  have hle := hsl.le
  have hcap := hsl.2.1
  have hcm := hsl.2.2.1
  obtain ⟨bb, oo, hA, hSb, hbs, h1, h2⟩ := hsl.tok (k := 0) (by rw [hr]; simp)
  simp only [hr, List.getElem_cons_zero, Nat.zero_mul, Nat.add_zero] at h1 h2
  subst hA
  have hrl : 1 ≤ st.rest.length := by rw [hr]; simp
  have htt : t.text.length ≤ 9223372036854775807 := htl t (by rw [hr]; simp)
  have hslr := fun wx => run_tail wx (some ⟨bb, oo, none⟩) st.rest.length c hrl hcap hcm
  have HBK := Lib.hid hbk; clear hbk
  have HSL := Lib.hid hsl; clear hsl
  have HOW := Lib.hid hown; clear hown
  have HTL := Lib.hid htl; clear htl
  have Hrr := Lib.hid hr; clear hr
  have hrn0 : (st.rest.length == 0) = false := by rw [beq_eq_false_iff_ne]; omega
  have hk2' : (t.kind == 2) = false := by simpa using hk2
  have hk3' : (t.kind == 3) = false := by simpa using hk3
  clear hk2 hk3
  have hadv := adv_pw (rr := rr) hn0 hol HTL.out HBK.out HSL.out HOW.out hrl (by rw [Hrr.out]; rfl) (.cells #[.pointer (some ⟨g, 0, none⟩)] 57) (.cells #[.int .i64 t.kind, .string ⟨t.text.toArray⟩] 54)
  have hbx := adv_boxes (w := w) (g := g) (v := .slice (tailA (some ⟨bb, oo, none⟩) c) (st.rest.length - 1) (c - 1)) (o1 := .cells #[.pointer (some ⟨g, 0, none⟩)] 57) (o2 := .cells #[.int .i64 t.kind, .string ⟨t.text.toArray⟩] 54)
  have hteq : (t.text == [108, 111, 97, 100]) = true := by rw [hun]; rfl
  clear hun
  obtain ⟨q0, hq0, hrq⟩ := pthen_some hp
  obtain ⟨q, hq, rfl⟩ := pzero_some hq0
  have hqi := pparens_inv (pr_inv f (.bin 1)) hq
  have hm2 : ({ st with rest := rr } : PSt).m + 1 ≤ 256 := adv_m Hrr.out hm
  clear hp hq0
  have Hrq := Lib.hid hrq; clear hrq
  have Hq := Lib.hid hq; clear hq
  have Hqi := Lib.hid hqi; clear hqi
  have HIB := Lib.hid ihB; clear ihB
  have HA := Lib.hid hadv; clear hadv
  have HX := Lib.hid hbx; clear hbx
  go_enter Try.func76, Try.ntmps76
  go_wp2_with (go_at_call 25; refine (unary_any t.text 0 _ (by omega) (by omega)).mono ?_; rintro e w' ⟨rfl, rfl⟩)
  go_region
  go_wp2_with fail
  refine (parens_plain n0 g { st with rest := rr } 36 #[.pointer (some ⟨g, 0, none⟩)] #[] (fun _ _ => by kernel_rfl) (pr f (.bin 1)) (pr_good f _) q Hq.out _ HA.out.1 hd ?_).mono ?_
  · intro x hx w1 hw1 hf1
    exact whole_step n0 g f HIB.out _ w1 x hx hw1 (by simp only; omega) (by simp only [PSt.m, List.length_tail] at hm2 ⊢; omega)
  · rintro e w3 ⟨rfl, hw3, hf3⟩
    have hrq := Hrq.out
    have hone := Hqi.out.inv.m
    obtain ⟨qb, qs, qn⟩ := q
    simp only at hrq hone
    cases qb
    · simp only [Bool.false_eq_true, if_false] at hrq
      go_wp2
      go_ret
      rw [hrq]
      exact ⟨rfl, hw3, PM.trans HA.out.2 hf3⟩
    · simp only [if_true] at hrq
      have hx1 := cell_blk (hf3.blk HX.out.1 (by decide) (by omega)) 0
      simp only [List.getElem?_toArray, List.getElem?_cons_zero] at hx1
      have Hrq2 := Lib.hid hrq; clear hrq Hrq Hq Hqi
      go_wp2_with fail
      refine (put_any n0 g qs 4 [] 0 _ hw3 (by simp only [PSt.m] at hm2 hone; omega)).mono ?_
      rintro e w4 ⟨rfl, hw4, hf4⟩
      simp only [pput]
      go_wp2
      go_ret
      rw [Hrq2.out]
      exact ⟨rfl, hw4, PM.trans (PM.trans HA.out.2 hf3) hf4⟩

set_option maxRecDepth 100000 in
set_option maxHeartbeats 4000000 in
theorem single_in (n0 g : Nat) (st : PSt) (t : Tok) (rr : List Tok) (w : World) (hr : st.rest = t :: rr) (hpw : PW w n0 g st) (hm : st.m ≤ 256) (f : Nat) (hf : ∀ s x, pr f .nothing s = some x → x = (true, s, 0)) (r : Bool × PSt × Int) (hd : 0 ≤ st.depth) (hk2 : t.kind ≠ 2) (hk3 : t.kind ≠ 3) (hun : t.text = [105, 110]) (hp : pthen (pzero (pparens (pr f .nothing) { st with rest := rr })) 5 [] = some r) :
    Calls Try.prog 76 #[.pointer (some ⟨g, 0, none⟩)] w (PPost n0 g w (r.1, r.2.1)) := by
  have hgz := hpw.lt
  have HPW := Lib.hid hpw
  obtain ⟨hn0, hol, htl, A, n, c, Ao, co, hbk, hsl, hown⟩ := hpw
  have c0 := cell_blk hbk 0
  have z0 := frz_blk hbk 0
  simp only [List.getElem?_toArray, List.getElem?_cons_zero] at c0
  have hn := hsl.len
  subst hn
  have hle := hsl.le
  have hcap := hsl.2.1
  have hcm := hsl.2.2.1
  obtain ⟨bb, oo, hA, hSb, hbs, h1, h2⟩ := hsl.tok (k := 0) (by rw [hr]; simp)
  simp only [hr, List.getElem_cons_zero, Nat.zero_mul, Nat.add_zero] at h1 h2
  subst hA
  have hrl : 1 ≤ st.rest.length := by rw [hr]; simp
  have htt : t.text.length ≤ 9223372036854775807 := htl t (by rw [hr]; simp)
  have hslr := fun wx => run_tail wx (some ⟨bb, oo, none⟩) st.rest.length c hrl hcap hcm
  have HBK := Lib.hid hbk; clear hbk
  have HSL := Lib.hid hsl; clear hsl
  have HOW := Lib.hid hown; clear hown
  have HTL := Lib.hid htl; clear htl
  have Hrr := Lib.hid hr; clear hr
  have hrn0 : (st.rest.length == 0) = false := by rw [beq_eq_false_iff_ne]; omega
  have hk2' : (t.kind == 2) = false := by simpa using hk2
  have hk3' : (t.kind == 3) = false := by simpa using hk3
  clear hk2 hk3
  have hadv := adv_pw (rr := rr) hn0 hol HTL.out HBK.out HSL.out HOW.out hrl (by rw [Hrr.out]; rfl) (.cells #[.pointer (some ⟨g, 0, none⟩)] 57) (.cells #[.int .i64 t.kind, .string ⟨t.text.toArray⟩] 54)
  have hbx := adv_boxes (w := w) (g := g) (v := .slice (tailA (some ⟨bb, oo, none⟩) c) (st.rest.length - 1) (c - 1)) (o1 := .cells #[.pointer (some ⟨g, 0, none⟩)] 57) (o2 := .cells #[.int .i64 t.kind, .string ⟨t.text.toArray⟩] 54)
  have hteq : (t.text == [108, 111, 97, 100]) = false := by rw [hun]; rfl
  have hteq2 : (t.text == [105, 110]) = true := by rw [hun]; rfl
  clear hun
  obtain ⟨q0, hq0, hrq⟩ := pthen_some hp
  obtain ⟨q, hq, rfl⟩ := pzero_some hq0
  have hqi := pparens_inv (pr_inv f .nothing) hq
  have hm2 : ({ st with rest := rr } : PSt).m + 1 ≤ 256 := adv_m Hrr.out hm
  clear hp hq0
  have Hrq := Lib.hid hrq; clear hrq
  have Hq := Lib.hid hq; clear hq
  have Hqi := Lib.hid hqi; clear hqi
  have HA := Lib.hid hadv; clear hadv
  have HX := Lib.hid hbx; clear hbx
  have HF := Lib.hid hf; clear hf
  go_enter Try.func76, Try.ntmps76
  go_wp2_with (go_at_call 25; refine (unary_any t.text 0 _ (by omega) (by omega)).mono ?_; rintro e w' ⟨rfl, rfl⟩)
  go_region
  go_wp2_with fail
  refine (parens_plain n0 g { st with rest := rr } 100 #[.pointer (some ⟨g, 0, none⟩)] #[] (fun _ _ => by kernel_rfl) (pr f .nothing) (pr_good f _) q Hq.out _ HA.out.1 hd ?_).mono ?_
  · intro x hx w1 hw1 hf1
    obtain rfl := HF.out _ _ hx
    exact nothing_step n0 g _ w1 hw1
  · rintro e w3 ⟨rfl, hw3, hf3⟩
    have hrq := Hrq.out
    have hone := Hqi.out.inv.m
    obtain ⟨qb, qs, qn⟩ := q
    simp only at hrq hone
    cases qb
    · simp only [Bool.false_eq_true, if_false] at hrq
      go_wp2
      go_ret
      rw [hrq]
      exact ⟨rfl, hw3, PM.trans HA.out.2 hf3⟩
    · simp only [if_true] at hrq
      have hx1 := cell_blk (hf3.blk HX.out.1 (by decide) (by omega)) 0
      simp only [List.getElem?_toArray, List.getElem?_cons_zero] at hx1
      have Hrq2 := Lib.hid hrq; clear hrq Hrq Hq Hqi
      go_wp2_with fail
      refine (put_any n0 g qs 5 [] 0 _ hw3 (by simp only [PSt.m] at hm2 hone; omega)).mono ?_
      rintro e w4 ⟨rfl, hw4, hf4⟩
      simp only [pput]
      go_wp2
      go_ret
      rw [Hrq2.out]
      exact ⟨rfl, hw4, PM.trans (PM.trans HA.out.2 hf3) hf4⟩
end Go.Proofs.Ytchdpjgncojhaaa

namespace Go.Proofs.Ytchdpjgncojhaaa
open Go.RowKit

theorem adv_pw1 {w : World} {n0 g : Nat} {st : PSt} {A : Option Addr} {c : Nat} {Ao : Option Addr} {co : Nat} {rr : List Tok} (hn0 : n0 ≤ g) (hol : st.out.length ≤ 100000) (htl : ∀ t ∈ st.rest, t.text.length ≤ 9223372036854775807)
    (hb : w.heap[g]? = some (.cells #[.slice A st.rest.length c, .int .i64 st.depth, .slice Ao st.out.length co, .int .i64 st.err] 59 (0, 0)))
    (hs : Sl w (fun b => b < n0) A st.rest.length c st.rest) (ho : Own w (fun _ => False) (g + 1) 50 Ao co st.out) (hrl : 1 ≤ st.rest.length) (ht : st.rest.tail = rr) :
    PW ((w.setCell ⟨g, 0, none⟩ (.slice (tailA A c) (st.rest.length - 1) (c - 1))).drew) n0 g { st with rest := rr } ∧
      Frm (PM n0 g w) w ((w.setCell ⟨g, 0, none⟩ (.slice (tailA A c) (st.rest.length - 1) (c - 1))).drew) := by
  have hr : rr.length = st.rest.length - 1 := by rw [← ht, List.length_tail]
  have h0 : PW (w.setCell ⟨g, 0, none⟩ (.slice (tailA A c) (st.rest.length - 1) (c - 1))) n0 g { st with rest := rr } :=
    PW.mk_ hn0 hol (fun t h => htl t (List.mem_of_mem_tail (ht ▸ h))) (by rw [Blk.set w hb 0]; rfl) (ht ▸ hs.tail_ hrl) ho (fun k _ hk => set_other _ _ _ _ _ hk)
  exact ⟨h0.below (Below.refl _ _).drew, ((Frm.refl _ _).setCell (fun _ => ⟨hn0, .inl rfl⟩) _).drew⟩

set_option maxRecDepth 100000 in
set_option maxHeartbeats 4000000 in
theorem single_bad (n0 g : Nat) (st : PSt) (t : Tok) (rr : List Tok) (w : World) (hr : st.rest = t :: rr) (hpw : PW w n0 g st) (hm : st.m ≤ 256) (hk2 : t.kind ≠ 2) (hk3 : t.kind ≠ 3) (hl1 : t.text ≠ [108, 111, 97, 100]) (hl2 : t.text ≠ [105, 110]) (hnm : nameT t.text = false) :
    Calls Try.prog 76 #[.pointer (some ⟨g, 0, none⟩)] w (PPost n0 g w (pfail st 4)) := by
  have hgz := hpw.lt
  have HPW := Lib.hid hpw
  obtain ⟨hn0, hol, htl, A, n, c, Ao, co, hbk, hsl, hown⟩ := hpw
  have c0 := cell_blk hbk 0
  have z0 := frz_blk hbk 0
  simp only [List.getElem?_toArray, List.getElem?_cons_zero] at c0
  have hn := hsl.len
  subst hn
  have hle := hsl.le
  have hcap := hsl.2.1
  have hcm := hsl.2.2.1
  obtain ⟨bb, oo, hA, hSb, hbs, h1, h2⟩ := hsl.tok (k := 0) (by rw [hr]; simp)
  simp only [hr, List.getElem_cons_zero, Nat.zero_mul, Nat.add_zero] at h1 h2
  subst hA
  have hrl : 1 ≤ st.rest.length := by rw [hr]; simp
  have htt : t.text.length ≤ 9223372036854775807 := htl t (by rw [hr]; simp)
  have hslr := fun wx => run_tail wx (some ⟨bb, oo, none⟩) st.rest.length c hrl hcap hcm
  have HBK := Lib.hid hbk; clear hbk
  have HSL := Lib.hid hsl; clear hsl
  have HOW := Lib.hid hown; clear hown
  have HTL := Lib.hid htl; clear htl
  have Hrr := Lib.hid hr; clear hr
  have hrn0 : (st.rest.length == 0) = false := by rw [beq_eq_false_iff_ne]; omega
  have hk2' : (t.kind == 2) = false := by simpa using hk2
  have hk3' : (t.kind == 3) = false := by simpa using hk3
  clear hk2 hk3
  have hteq : (t.text == [108, 111, 97, 100]) = false := by simpa using hl1
  have hteq2 : (t.text == [105, 110]) = false := by simpa using hl2
  clear hl1 hl2
  have hname := fun w => name_any t.text w htt
  rw [hnm] at hname
  have Hname := Lib.hid hname; clear hname hnm
  go_enter Try.func76, Try.ntmps76
  go_wp2_with (go_at_call 25; refine (unary_any t.text 0 _ (by omega) (by omega)).mono ?_; rintro e w' ⟨rfl, rfl⟩)
  have hpw0 : PW ((w.alloc (.cells #[.pointer (some ⟨g, 0, none⟩)] 57)).alloc (.cells #[.int .i64 t.kind, .string ⟨t.text.toArray⟩] 54)) n0 g st := HPW.out.below (boxed.alloc (by simp) _)
  refine (Hname.out _).mono ?_
  rintro e w1 ⟨rfl, hb1⟩
  have hx1 := cell_blk (keptBlk hb1 (blkOld (heap_alloc_new w _) _)) 0
  simp only [List.getElem?_toArray, List.getElem?_cons_zero] at hx1
  go_wp2_with fail
  refine (fail_any n0 g st 4 _ (hpw0.below hb1)).mono ?_
  rintro e w2 ⟨rfl, hw2, hf2⟩
  go_wp2
  go_ret
  exact ⟨rfl, hw2, PM.trans (Frm.any (next (boxed.alloc (by simp) _) hb1 (Nat.le_refl _))) hf2⟩

set_option maxRecDepth 100000 in
set_option maxHeartbeats 4000000 in
theorem single_name (n0 g : Nat) (st : PSt) (t : Tok) (rr : List Tok) (w : World) (hr : st.rest = t :: rr) (hpw : PW w n0 g st) (hm : st.m ≤ 256) (hk2 : t.kind ≠ 2) (hk3 : t.kind ≠ 3) (hl1 : t.text ≠ [108, 111, 97, 100]) (hl2 : t.text ≠ [105, 110]) (hnm : nameT t.text = true) (hnx : pnext { st with rest := rr } [40] = false) :
    Calls Try.prog 76 #[.pointer (some ⟨g, 0, none⟩)] w (PPost n0 g w (pput { st with rest := rr } 2 t.text 0)) := by
  have hgz := hpw.lt
  have HPW := Lib.hid hpw
  obtain ⟨hn0, hol, htl, A, n, c, Ao, co, hbk, hsl, hown⟩ := hpw
  have c0 := cell_blk hbk 0
  have z0 := frz_blk hbk 0
  simp only [List.getElem?_toArray, List.getElem?_cons_zero] at c0
  have hn := hsl.len
  subst hn
  have hle := hsl.le
  have hcap := hsl.2.1
  have hcm := hsl.2.2.1
  obtain ⟨bb, oo, hA, hSb, hbs, h1, h2⟩ := hsl.tok (k := 0) (by rw [hr]; simp)
  simp only [hr, List.getElem_cons_zero, Nat.zero_mul, Nat.add_zero] at h1 h2
  subst hA
  have hrl : 1 ≤ st.rest.length := by rw [hr]; simp
  have htt : t.text.length ≤ 9223372036854775807 := htl t (by rw [hr]; simp)
  have hslr := fun wx => run_tail wx (some ⟨bb, oo, none⟩) st.rest.length c hrl hcap hcm
  have HBK := Lib.hid hbk; clear hbk
  have HSL := Lib.hid hsl; clear hsl
  have HOW := Lib.hid hown; clear hown
  have HTL := Lib.hid htl; clear htl
  have Hrr := Lib.hid hr; clear hr
  have hrn0 : (st.rest.length == 0) = false := by rw [beq_eq_false_iff_ne]; omega
  have hk2' : (t.kind == 2) = false := by simpa using hk2
  have hk3' : (t.kind == 3) = false := by simpa using hk3
  clear hk2 hk3
  have hteq : (t.text == [108, 111, 97, 100]) = false := by simpa using hl1
  have hteq2 : (t.text == [105, 110]) = false := by simpa using hl2
  clear hl1 hl2
  have hname := fun w => name_any t.text w htt
  rw [hnm] at hname
  have Hname := Lib.hid hname; clear hname hnm
  have Hnx := Lib.hid hnx; clear hnx
  have hm2 := adv_m Hrr.out hm
  go_enter Try.func76, Try.ntmps76
  go_wp2_with (go_at_call 25; refine (unary_any t.text 0 _ (by omega) (by omega)).mono ?_; rintro e w' ⟨rfl, rfl⟩)
  have hbel : Below w.heap.size w ((w.alloc (.cells #[.pointer (some ⟨g, 0, none⟩)] 57)).alloc (.cells #[.int .i64 t.kind, .string ⟨t.text.toArray⟩] 54)) := boxed.alloc (by simp) _
  refine (Hname.out _).mono ?_
  rintro e w1 ⟨rfl, hb1⟩
  have hbw : Below w.heap.size w w1 := next hbel hb1 (Nat.le_refl _)
  have hB1 := keptBlk hb1 (blkOld (heap_alloc_new w _) _)
  have hB2 := keptBlk hb1 (blkAt _ _ (k := w.heap.size + 1) (by simp))
  have hx1 := cell_blk hB1 0
  have hx0 := cell_blk (keptBlk hbw HBK.out) 0
  have hz0 := frz_blk (keptBlk hbw HBK.out) 0
  simp only [List.getElem?_toArray, List.getElem?_cons_zero] at hx1 hx0
  have hadv := adv_pw1 (rr := rr) hn0 hol HTL.out (keptBlk hbw HBK.out) (HSL.out.below hbw) (HOW.out.below hbw) hrl (by rw [Hrr.out]; rfl)
  have HA := Lib.hid hadv; clear hadv
  have HB1 := Lib.hid hB1; clear hB1
  have HB2 := Lib.hid hB2; clear hB2
  go_wp2_with fail
  go_region
  go_wp2_with fail
  refine (next_is n0 g _ [40] _ HA.out.1).mono ?_
  rw [Hnx.out]
  rintro e w' ⟨rfl, rfl⟩
  have hy1 := cell_blk (HA.out.2.blk HB1.out (by decide) (by omega)) 0
  have hy2 := cell_blk (HA.out.2.blk HB2.out (by decide) (by omega)) 1
  simp only [List.getElem?_toArray, List.getElem?_cons_succ, List.getElem?_cons_zero] at hy1 hy2
  go_wp2_with fail
  refine (put_any n0 g { st with rest := rr } 2 t.text 0 _ HA.out.1 (by simp only [PSt.m] at hm2; show st.out.length < 100000; omega)).mono ?_
  rintro e w4 ⟨rfl, hw4, hf4⟩
  simp only [pput]
  go_wp2
  go_ret
  exact ⟨rfl, hw4, PM.trans (PM.trans (Frm.any hbw) HA.out.2) hf4⟩
end Go.Proofs.Ytchdpjgncojhaaa

namespace Go.Proofs.Ytchdpjgncojhaaa
open Go.RowKit

theorem PM.transX {X : Nat → Prop} {n0 g : Nat} {a b c : World} (h : Frm (PM n0 g a) a b) (k : Frm (PMX X n0 g b) b c) (hX : ∀ i, i < a.heap.size → ¬ X i) : Frm (PM n0 g a) a c :=
  h.transM k fun i hi hm => by
    refine Classical.byContradiction fun hn => ?_
    rcases hm with ⟨h0, hm⟩ | hm
    · rcases hm with rfl | ⟨cs, fz, hm⟩
      · exact hn ⟨h0, .inl rfl⟩
      · exact hn ⟨h0, .inr ⟨cs, fz, by rw [← h.block i hi hn, hm]⟩⟩
    · exact hX i hi hm

theorem pparens_n {part : PSt → PRes} {st : PSt} {r x : Bool × PSt × Int} (h : pparens part st = some r) (hx : part { st with depth := st.depth + 1, rest := st.rest.tail } = some x) (hn : pnext st [40] = true) (hd : st.depth ≤ 24) : r.2.2 = x.2.2 := by
  unfold pparens pwithin at h
  rw [hn, if_pos rfl, if_neg (by omega)] at h
  unfold pdown pclose at h
  simp only [hx, Option.map_some, Option.some.injEq] at h
  subst h
  obtain ⟨b, s, n⟩ := x
  cases b <;> rfl

theorem drew_both {B : Nat} {a b : World} (h : Below B a b) : Below B a.drew b.drew := ⟨h.os, h.tape, h.output, h.size, h.block⟩

theorem drew_alloc (w : World) (o : Obj) : Below w.drew.heap.size w.drew (w.alloc o).drew := drew_both (B := w.heap.size) ((Below.refl w.heap.size w).alloc (Nat.le_refl _) o)

theorem single1_any (n0 g f : Nat) (ihA : WArgs n0 g f) (st : PSt) (w : World) (r : Bool × PSt × Int) (nb bp : Nat) (h : pr f (.args 0) st = some r) (hpw : PW w n0 g st) (hnb : NB nb 0 w) (hng : nb ≠ g) (hgn : g < nb) (hd : 0 ≤ st.depth) (hm : st.m ≤ 256)
    (hbp : w.heap[bp]? = some (.cells #[.pointer (some ⟨g, 0, none⟩)] 57 (0, 0))) :
    Calls Try.prog 102 #[.pointer (some ⟨bp, 0, none⟩), .pointer (some ⟨nb, 0, none⟩)] w (PPostX (fun b => b = nb) (NB nb r.2.2) n0 g w r.1 r.2.1) := by
  have H := Lib.hid (ihA st w r nb h hpw hnb hng hgn hd hm)
  have c0 := cell_blk hbp 0
  simp only [List.getElem?_toArray, List.getElem?_cons_zero] at c0
  clear h hpw ihA hnb hbp
  go_enter Try.func102, Try.ntmps102
  go_wp2_with fail
  refine H.out.mono ?_
  rintro e w1 ⟨rfl, hw1, hf1⟩
  go_wp2
  go_ret
  exact ⟨rfl, hw1, hf1⟩

set_option maxRecDepth 100000 in
set_option maxHeartbeats 4000000 in
theorem single_call (n0 g : Nat) (st : PSt) (t : Tok) (rr : List Tok) (w : World) (hr : st.rest = t :: rr) (hpw : PW w n0 g st) (hm : st.m ≤ 256) (f : Nat) (ihA : WArgs n0 g f) (r : Bool × PSt × Int) (hd : 0 ≤ st.depth) (hk2 : t.kind ≠ 2) (hk3 : t.kind ≠ 3) (hl1 : t.text ≠ [108, 111, 97, 100]) (hl2 : t.text ≠ [105, 110]) (hnm : nameT t.text = true) (hnx : pnext { st with rest := rr } [40] = true)
    (hp : pthen (pparens (pr f (.args 0)) { st with rest := rr }) 3 t.text = some r) :
    Calls Try.prog 76 #[.pointer (some ⟨g, 0, none⟩)] w (PPost n0 g w (r.1, r.2.1)) := by
  have hgz := hpw.lt
  have HPW := Lib.hid hpw
  obtain ⟨hn0, hol, htl, A, n, c, Ao, co, hbk, hsl, hown⟩ := hpw
  have c0 := cell_blk hbk 0
  have z0 := frz_blk hbk 0
  simp only [List.getElem?_toArray, List.getElem?_cons_zero] at c0
  have hn := hsl.len
  subst hn
  have hle := hsl.le
  have hcap := hsl.2.1
  have hcm := hsl.2.2.1
  obtain ⟨bb, oo, hA, hSb, hbs, h1, h2⟩ := hsl.tok (k := 0) (by rw [hr]; simp)
  simp only [hr, List.getElem_cons_zero, Nat.zero_mul, Nat.add_zero] at h1 h2
  subst hA
  have hrl : 1 ≤ st.rest.length := by rw [hr]; simp
  have htt : t.text.length ≤ 9223372036854775807 := htl t (by rw [hr]; simp)
  have hslr := fun wx => run_tail wx (some ⟨bb, oo, none⟩) st.rest.length c hrl hcap hcm
  have HBK := Lib.hid hbk; clear hbk
  have HSL := Lib.hid hsl; clear hsl
  have HOW := Lib.hid hown; clear hown
  have HTL := Lib.hid htl; clear htl
  have Hrr := Lib.hid hr; clear hr
  have hrn0 : (st.rest.length == 0) = false := by rw [beq_eq_false_iff_ne]; omega
  have hk2' : (t.kind == 2) = false := by simpa using hk2
  have hk3' : (t.kind == 3) = false := by simpa using hk3
  clear hk2 hk3
  have hteq : (t.text == [108, 111, 97, 100]) = false := by simpa using hl1
  have hteq2 : (t.text == [105, 110]) = false := by simpa using hl2
  clear hl1 hl2
  have hname := fun w => name_any t.text w htt
  rw [hnm] at hname
  have Hname := Lib.hid hname; clear hname hnm
  have Hnx := Lib.hid hnx; clear hnx
  have hm2 := adv_m Hrr.out hm
  obtain ⟨q, hq, hrq⟩ := pthen_some hp
  have hqi := pparens_inv (pr_inv f (.args 0)) hq
  clear hp
  have Hrq := Lib.hid hrq; clear hrq
  have Hq := Lib.hid hq; clear hq
  have Hqi := Lib.hid hqi; clear hqi
  have HIA := Lib.hid ihA; clear ihA
  go_enter Try.func76, Try.ntmps76
  go_wp2_with (go_at_call 25; refine (unary_any t.text 0 _ (by omega) (by omega)).mono ?_; rintro e w' ⟨rfl, rfl⟩)
  have hbel : Below w.heap.size w ((w.alloc (.cells #[.pointer (some ⟨g, 0, none⟩)] 57)).alloc (.cells #[.int .i64 t.kind, .string ⟨t.text.toArray⟩] 54)) := boxed.alloc (by simp) _
  refine (Hname.out _).mono ?_
  rintro e w1 ⟨rfl, hb1⟩
  have hbw : Below w.heap.size w w1 := next hbel hb1 (Nat.le_refl _)
  have hsz : w.heap.size + 2 ≤ w1.heap.size := by have := hb1.size; simp at this; omega
  have hB1 := keptBlk hb1 (blkOld (heap_alloc_new w _) _)
  have hB2 := keptBlk hb1 (blkAt _ _ (k := w.heap.size + 1) (by simp))
  have hx1 := cell_blk hB1 0
  have hx0 := cell_blk (keptBlk hbw HBK.out) 0
  have hz0 := frz_blk (keptBlk hbw HBK.out) 0
  simp only [List.getElem?_toArray, List.getElem?_cons_zero] at hx1 hx0
  have hadv := adv_pw1 (rr := rr) hn0 hol HTL.out (keptBlk hbw HBK.out) (HSL.out.below hbw) (HOW.out.below hbw) hrl (by rw [Hrr.out]; rfl)
  have HA := Lib.hid hadv; clear hadv
  have HB1 := Lib.hid hB1; clear hB1
  have HB2 := Lib.hid hB2; clear hB2
  go_wp2_with fail
  go_region
  go_wp2_with fail
  refine (next_is n0 g _ [40] _ HA.out.1).mono ?_
  rw [Hnx.out]
  rintro e w' ⟨rfl, rfl⟩
  have hC1 := HA.out.2.blk HB1.out (by decide) (by omega)
  have hC2 := HA.out.2.blk HB2.out (by decide) (by omega)
  have hy1 := cell_blk hC1 0
  simp only [List.getElem?_toArray, List.getElem?_cons_zero] at hy1
  have HC1 := Lib.hid hC1; clear hC1
  have HC2 := Lib.hid hC2; clear hC2
  have hs2 : ((w1.setCell ⟨g, 0, none⟩ (.slice (tailA (some ⟨bb, oo, none⟩) c) (st.rest.length - 1) (c - 1))).drew).heap.size = w1.heap.size := by simp [World.setCell]
  have hlt1 : w.heap.size < w1.heap.size := by omega
  have hy2 : (w1.setCell ⟨g, 0, none⟩ (.slice (tailA (some ⟨bb, oo, none⟩) c) (st.rest.length - 1) (c - 1))).cell? ⟨w.heap.size, 0, none⟩ = some (.pointer (some ⟨g, 0, none⟩)) := hy1
  go_wp2_with fail
  have hpw3 : PW (((w1.setCell ⟨g, 0, none⟩ (.slice (tailA (some ⟨bb, oo, none⟩) c) (st.rest.length - 1) (c - 1))).alloc (.cells #[.int .u32 0] 37)).drew) n0 g { st with rest := rr } := HA.out.1.below (drew_alloc _ _)
  have hnb3 : NB w1.heap.size 0 (((w1.setCell ⟨g, 0, none⟩ (.slice (tailA (some ⟨bb, oo, none⟩) c) (st.rest.length - 1) (c - 1))).alloc (.cells #[.int .u32 0] 37)).drew) := blkAt _ _ (by simp [World.setCell])
  have hfr3 : Frm (PM n0 g w) w (((w1.setCell ⟨g, 0, none⟩ (.slice (tailA (some ⟨bb, oo, none⟩) c) (st.rest.length - 1) (c - 1))).alloc (.cells #[.int .u32 0] 37)).drew) := PM.trans (PM.trans (Frm.any hbw) HA.out.2) (Frm.any (drew_alloc _ _))
  have hD1 := blkOld (w := (w1.setCell ⟨g, 0, none⟩ (.slice (tailA (some ⟨bb, oo, none⟩) c) (st.rest.length - 1) (c - 1)))) HC1.out (.cells #[.int .u32 0] 37)
  have hD2 := blkOld (w := (w1.setCell ⟨g, 0, none⟩ (.slice (tailA (some ⟨bb, oo, none⟩) c) (st.rest.length - 1) (c - 1)))) HC2.out (.cells #[.int .u32 0] 37)
  refine (parens_all (fun b => b = w1.heap.size) (fun W => ∀ x, pr f (.args 0) { ({ st with rest := rr } : PSt) with depth := ({ st with rest := rr } : PSt).depth + 1, rest := ({ st with rest := rr } : PSt).rest.tail } = some x → NB w1.heap.size x.2.2 W) n0 g { st with rest := rr } 102 #[] #[.pointer (some ⟨w.heap.size, 0, none⟩), .pointer (some ⟨w1.heap.size, 0, none⟩)] (fun _ _ => by kernel_rfl)
    (fun w w' h hf x hx => NB.lasts (by omega) w w' (h x hx) hf) (pr f (.args 0)) (pr_good f _) q Hq.out _ hpw3 hd (fun k hk => by subst hk; simp [World.setCell]) (NB w1.heap.size 0) hnb3 (NB.lasts (by omega)) ?_).mono ?_
  · intro x hx w4 hw4 hnb4 hf4
    refine (single1_any n0 g f HIA.out _ w4 x w1.heap.size w.heap.size hx hw4 hnb4 (by omega) (by omega) (by simp only; omega) (by simp only [PSt.m, List.length_tail] at hm2 ⊢; omega) (hf4.blk hD1 (by decide) (by omega))).mono ?_
    rintro e w' ⟨he, hw, hf, hn⟩
    exact ⟨he, hw, hf, fun x' hx' => by rw [hx] at hx'; injection hx' with hx'; subst hx'; exact hn⟩
  · rintro e w5 ⟨rfl, hw5, hf5, hor⟩
    have hrq := Hrq.out
    have hone := Hqi.out.inv.m
    have hqn := fun x hx hn hd => pparens_n (r := q) (x := x) Hq.out hx hn hd
    obtain ⟨qb, qs, qn⟩ := q
    simp only at hrq hone hor hqn
    have hfin : Frm (PM n0 g w) w w5 := PM.transX hfr3 hf5 (fun i hi => by omega)
    cases qb
    · simp only [Bool.false_eq_true, if_false] at hrq
      go_wp2
      go_ret
      rw [hrq]
      exact ⟨rfl, hw5, hfin⟩
    · simp only [if_true] at hrq
      rcases hor with ⟨x, hx, hn, hdp, hR⟩ | hor
      · have hnb5 := hR x hx
        rw [← hqn x hx hn hdp] at hnb5
        have hy3 := cell_blk (hf5.blkX hD1 (by decide) (by omega) (by omega)) 0
        have hy4 := cell_blk (hf5.blkX hD2 (by decide) (by omega) (by omega)) 1
        have hy5 := cell_blk hnb5 0
        simp only [List.getElem?_toArray, List.getElem?_cons_succ, List.getElem?_cons_zero] at hy3 hy4 hy5
        have Hrq2 := Lib.hid hrq; clear hrq Hrq Hq Hqi hqn hR hx hn hnb5
        go_wp2_with fail
        refine (put_any n0 g qs 3 t.text qn _ hw5 (by simp only [PSt.m] at hm2 hone; omega)).mono ?_
        rintro e w6 ⟨rfl, hw6, hf6⟩
        simp only [pput]
        go_wp2
        go_ret
        rw [Hrq2.out]
        exact ⟨rfl, hw6, PM.trans hfin hf6⟩
      · cases hor

/-- The parser's methods do what the plain parser does. -/
theorem single_step (n0 g f : Nat) (ihB : WBin n0 g f) (ihA : WArgs n0 g f) : WSingle n0 g (f + 1) := by
  intro st w r h hpw hd hm
  rw [pr] at h
  cases hr : st.rest with
  | nil =>
    rw [hr] at h
    injection h with h
    subst h
    exact single_nil n0 g st w hr hpw
  | cons t rr =>
    rw [hr] at h
    simp only at h
    by_cases hk2 : t.kind = 2
    · rw [if_pos hk2] at h
      injection h with h
      subst h
      exact single_num n0 g st t rr w hr hpw hm hk2
    · rw [if_neg hk2] at h
      by_cases hk3 : t.kind = 3
      · rw [if_pos hk3] at h
        cases hu : isUn t.text
        · rw [hu] at h
          exact single_par n0 g st t rr w hr hpw hm f ihB r hd hk3 hu h
        · rw [hu] at h
          exact single_un n0 g st t rr w hr hpw hm f ihB r hd hk3 hu h
      · rw [if_neg hk3] at h
        by_cases hl1 : t.text = [108, 111, 97, 100]
        · rw [if_pos hl1] at h
          exact single_load n0 g st t rr w hr hpw hm f ihB r hd hk2 hk3 hl1 h
        · rw [if_neg hl1] at h
          by_cases hl2 : t.text = [105, 110]
          · rw [if_pos hl2] at h
            refine single_in n0 g st t rr w hr hpw hm f ?_ r hd hk2 hk3 hl2 h
            intro s x hx
            cases f with
            | zero => cases hx
            | succ f => rw [pr] at hx; injection hx with hx; exact hx.symm
          · rw [if_neg hl2] at h
            cases hn : nameT t.text
            · rw [hn] at h
              injection h with h
              subst h
              exact single_bad n0 g st t rr w hr hpw hm hk2 hk3 hl1 hl2 hn
            · rw [hn, if_pos rfl] at h
              cases hx : pnext { st with rest := rr } [40]
              · rw [hx] at h
                injection h with h
                subst h
                exact single_name n0 g st t rr w hr hpw hm hk2 hk3 hl1 hl2 hn hx
              · rw [hx, if_pos rfl] at h
                exact single_call n0 g st t rr w hr hpw hm f ihA r hd hk2 hk3 hl1 hl2 hn hx h

theorem parser_all (n0 g : Nat) : ∀ f, WBin n0 g f ∧ WSingle n0 g f ∧ WArgs n0 g f := by
  intro f
  induction f using Nat.strongRecOn with
  | _ f ih =>
    cases f with
    | zero => exact ⟨fun l li st w r h => (by cases h), fun st w r h => (by cases h), fun st w r nb h => (by cases h)⟩
    | succ f => exact ⟨bin_step n0 g f (fun f' h => (ih f' (by omega)).1) (ih f (by omega)).2.1, single_step n0 g f (ih f (by omega)).1 (ih f (by omega)).2.2, args_step n0 g f (fun f' h => (ih f' (by omega)).1)⟩
end Go.Proofs.Ytchdpjgncojhaaa
