/- Expressions: the walk of the parser's arguments. -/
import Derived.Test.YtchdpjgncojhaaaE7
set_option linter.unusedVariables false
set_option linter.unusedSimpArgs false
namespace Go.Proofs.Ytchdpjgncojhaaa
open Go.RowKit

theorem PW.other {w w' : World} {n0 g : Nat} {st : PSt} (h : PW w n0 g st) {nb : Nat} (hnb : g < nb) {cs : Array Value} {t : TypeId} {fz : Nat × Nat} (ht : w.heap[nb]? = some (.cells cs t fz)) (htt : t ≠ 50)
    (hk : ∀ k, k < w.heap.size → k ≠ nb → w'.heap[k]? = w.heap[k]?) : PW w' n0 g st := by
  have hlt := h.lt
  obtain ⟨hn0, hol, htl, A, n, c, Ao, co, hb, hs, ho⟩ := h
  refine ⟨hn0, hol, htl, A, n, c, Ao, co, by rw [hk g hlt (by omega), hb], hs.keep fun k h1 h2 => hk k h1 (by omega), ho.keep fun k h1 h2 => hk k h1 ?_⟩
  rintro rfl
  rcases h2 with h2 | h2
  · exact h2
  · obtain ⟨cs', fz', h'⟩ := ho.typed h2
    rw [ht] at h'
    injection h' with h'
    injection h' with _ e
    exact htt e

theorem NB.lasts {nb : Nat} {n : Int} {n0 g : Nat} (h : nb ≠ g) : Lasts (NB nb n) n0 g := fun _ _ hb hf => Frm.blk hf hb (by decide) h

set_option maxRecDepth 100000 in
set_option maxHeartbeats 4000000 in
theorem args_step (n0 g f : Nat) (ihB : ∀ f', f' ≤ f → WBin n0 g f') : WArgs n0 g (f + 1) := by
  intro st w r nb h hpw hnb hng hgn hd hm
  rw [pr] at h
  have HPW := Lib.hid hpw; clear hpw
  have HNB := Lib.hid hnb; clear hnb
  cases hnx : pnext st [41]
  · rw [hnx] at h
    have Hnx := Lib.hid hnx; clear hnx
    have h : pr f (.more 0) st = some r := h
    have Hh := Lib.hid h; clear h
    have IHB := Lib.hid ihB; clear ihB
    go_enter Try.func103, Try.ntmps103
    go_wp2_with fail
    refine (next_is n0 g st [41] _ HPW.out).mono ?_
    rw [Hnx.out]
    rintro e w' ⟨rfl, rfl⟩
    go_wp2_with fail
    go_loopg [9] f (fun k o wr => ∃ (s : PSt) (n : Int), k ≤ f ∧ pr k (.more n) s = some r ∧ PW wr n0 g s ∧ NB nb n wr ∧ Frm (PMX (fun b => b = nb) n0 g w) w wr ∧ s.m ≤ 256 ∧ 0 ≤ s.depth ∧ 0 ≤ n ∧ n ≤ 7)
    case atStart => exact ⟨st, 0, Nat.le_refl f, Hh.out, HPW.out, HNB.out, Frm.refl _ _, hm, hd, by omega, by omega⟩
    case round =>
      obtain ⟨s, n, hk, hp, hpw, hnb, hfr, hms, hds, hn0, hn7⟩ := hrel
      obtain ⟨k, rfl⟩ : ∃ k', gk = k' + 1 := by
        cases gk with
        | zero => cases hp
        | succ k' => exact ⟨k', rfl⟩
      rw [pr] at hp
      obtain ⟨x, hx, hp2⟩ := bind_some hp
      clear hp
      have hp := hp2
      clear hp2
      have hIx := pr_inv _ _ _ _ hx
      have hcall := whole_step n0 g k (IHB.out k (by omega)) s wr x hx hpw hds hms
      have hxd : 0 ≤ x.2.1.depth := by rw [hIx.depth]; exact hds
      have hxm : x.2.1.m ≤ 256 := Nat.le_trans hIx.m hms
      clear hx hIx hpw
      obtain ⟨xb, xs, xn⟩ := x
      simp only at hcall hp hxd hxm
      have HC := Lib.hid hcall; clear hcall
      have HN := Lib.hid hnb; clear hnb
      cases xb
      · simp only [Bool.false_eq_true, if_false, Option.some.injEq] at hp
        have Hp := Lib.hid hp; clear hp
        go_wp2_with fail
        refine HC.out.mono ?_
        rintro e w3 ⟨rfl, hw3, hf3⟩
        go_wp2
        go_ret
        rw [← Hp.out]
        exact ⟨rfl, hw3, PMX.trans hfr (PMX.of hf3), Frm.blk hf3 HN.out (by decide) hng⟩
      · simp only [if_true] at hp
        go_wp2_with fail
        refine HC.out.mono ?_
        rintro e w3 ⟨rfl, hw3, hf3⟩
        have hb3 : w3.heap[nb]? = some (.cells #[.int .u32 n] 37 (0, 0)) := Frm.blk hf3 HN.out (by decide) hng
        have d0 := cell_blk hb3 0
        have y0 := frz_blk hb3 0
        simp only [List.getElem?_toArray, List.getElem?_cons_zero] at d0
        have HB3 := Lib.hid hb3; clear hb3
        have hw4 : PW (w3.setCell ⟨nb, 0, none⟩ (.int .u32 (n + 1))) n0 g xs := hw3.other hgn HB3.out (by decide) (fun k _ hk => set_other _ _ _ _ _ hk)
        have hb4 : NB nb (n + 1) (w3.setCell ⟨nb, 0, none⟩ (.int .u32 (n + 1))) := by
          show _ = _
          rw [Blk.set w3 HB3.out 0]; rfl
        have hf4 : Frm (PMX (fun b => b = nb) n0 g w) w (w3.setCell ⟨nb, 0, none⟩ (.int .u32 (n + 1))) :=
          PMX.trans (PMX.trans hfr (PMX.of hf3)) ((Frm.refl _ _).setCell (fun _ => .inr rfl) _)
        have HF4 := Lib.hid hf4; clear hf4
        have HB4 := Lib.hid hb4; clear hb4
        have HW4 := Lib.hid hw4; clear hw4
        cases hnc : pnext xs [44]
        · rw [hnc] at hp
          simp only [Bool.false_eq_true, if_false, Option.some.injEq] at hp
          have Hp := Lib.hid hp; clear hp
          have Hnc := Lib.hid hnc; clear hnc
          go_wp2_with fail
          refine (next_is n0 g xs [44] _ HW4.out).mono ?_
          rw [Hnc.out]
          rintro e w' ⟨rfl, rfl⟩
          go_wp2
          go_ret
          rw [← Hp.out]
          exact ⟨rfl, HW4.out, HF4.out, HB4.out⟩
        · rw [hnc] at hp
          simp only [if_true] at hp
          have Hnc := Lib.hid hnc; clear hnc
          have e0 := cell_blk HB4.out 0
          simp only [List.getElem?_toArray, List.getElem?_cons_zero] at e0
          by_cases h8 : n + 1 = 8
          · rw [if_pos h8] at hp
            simp only [Option.some.injEq] at hp
            have Hp := Lib.hid hp; clear hp
            have h8' : (n + 1 == 8) = true := by simpa using h8
            have H8 := Lib.hid h8; clear h8
            go_wp2_with fail
            refine (next_is n0 g xs [44] _ HW4.out).mono ?_
            rw [Hnc.out]
            rintro e w' ⟨rfl, rfl⟩
            go_wp2_with fail
            refine (fail_any n0 g xs 10 _ HW4.out).mono ?_
            rintro e w5 ⟨rfl, hw5, hf5⟩
            go_wp2
            go_ret
            rw [← Hp.out]
            exact ⟨rfl, hw5, PMX.trans HF4.out (PMX.of hf5), Frm.blk hf5 HB4.out (by decide) hng⟩
          · rw [if_neg h8] at hp
            have Hp := Lib.hid hp; clear hp
            have h8' : (n + 1 == 8) = false := by simpa using h8
            have h87 : n + 1 ≤ 7 := by omega
            clear h8
            obtain ⟨hn0', hol, htl, A, nn, c, Ao, co, hbk, hsl, hown⟩ := HW4.out
            have c0 := cell_blk hbk 0
            have z0 := frz_blk hbk 0
            simp only [List.getElem?_toArray, List.getElem?_cons_zero] at c0
            have hn := hsl.len
            subst hn
            have hrl : 1 ≤ xs.rest.length := by
              have := Hnc.out
              unfold pnext at this
              cases hr : xs.rest with
              | nil => rw [hr] at this; simp at this
              | cons t r => simp
            have hle := hsl.le
            have hslr := fun wx => run_tail wx A xs.rest.length c hrl hsl.2.1 hsl.2.2.1
            have HBK := Lib.hid hbk; clear hbk
            have HSL := Lib.hid hsl; clear hsl
            have HOW := Lib.hid hown; clear hown
            have HTL := Lib.hid htl; clear htl
            go_wp2_with fail
            refine (next_is n0 g xs [44] _ HW4.out).mono ?_
            rw [Hnc.out]
            rintro e w' ⟨rfl, rfl⟩
            go_wp2_with fail
            go_roundg k
            case measure => omega
            case rel =>
              refine ⟨{ xs with rest := xs.rest.tail }, n + 1, by omega, Hp.out, ?_, ?_, ?_, ?_, hxd, by omega, by omega⟩
              · exact PW.mk_ hn0' hol (fun t h => HTL.out t (List.mem_of_mem_tail h)) (by rw [Blk.set _ HBK.out 0]; rfl) (HSL.out.tail_ hrl) HOW.out (fun k _ hk => set_other _ _ _ _ _ hk)
              · show _ = _
                rw [set_other _ _ _ _ _ (by omega)]; exact HB4.out
              · exact PMX.trans HF4.out (PMX.of ((Frm.refl _ _).setCell (fun _ => ⟨hn0', .inl rfl⟩) _))
              · have := (ptail_inv xs).m; omega
  · rw [hnx] at h
    simp only [if_true, Option.some.injEq] at h
    have Hh := Lib.hid h; clear h
    have Hnx := Lib.hid hnx; clear hnx ihB
    go_enter Try.func103, Try.ntmps103
    go_wp2_with fail
    refine (next_is n0 g st [41] _ HPW.out).mono ?_
    rw [Hnx.out]
    rintro e w' ⟨rfl, rfl⟩
    go_wp2
    go_ret
    rw [← Hh.out]
    exact ⟨rfl, HPW.out, Frm.refl _ _, HNB.out⟩
end Go.Proofs.Ytchdpjgncojhaaa
