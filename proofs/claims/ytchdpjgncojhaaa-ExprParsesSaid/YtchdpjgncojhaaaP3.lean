/- licitref08: the parser: arguments. -/
import Derived.Test.YtchdpjgncojhaaaP2
set_option linter.unusedVariables false
set_option linter.unusedSimpArgs false
namespace Go.Proofs.Ytchdpjgncojhaaa
open Go.RowKit

theorem pnext_qsym {L : List Tok} {st : PSt} {pos : Nat} {d : Int} {o : List Opn} {e : Int} (h : st.rest = L.drop pos) (s : Bs) : qsym L ⟨pos, d, o, e⟩ s = pnext st s := by
  unfold qsym pnext
  rw [h]
  rfl
def WArg8 (n0 g : Nat) (L : List Tok) (f : Nat) : Prop := ∀ (st : PSt) (w : World) (x : Bool × PSt × Int), pr f (.args 0) st = some x → PS w n0 g L st → st.err = 0 → 0 ≤ st.depth → st.depth ≤ 25 → st.m ≤ 256 →
  Calls Try.prog 85 #[.pointer (some ⟨g, 0, none⟩)] w (fun e w' => ∃ m : Int, e = .returned (.int .u32 m) ∧ (x.1 = true → m = x.2.2) ∧ PR8 w' n0 g L st x.1 x.2.1 ∧ Frm (PM n0 g w) w w')

def AR (n0 g : Nat) (L : List Tok) (f : Nat) (x : Bool × PSt × Int) (w : World) (st : PSt) (k : Nat) (v : Value) (wr : World) : Prop :=
  Frm (PM n0 g w) w wr ∧ ∃ s m, k ≤ f ∧ v = .int .u32 m ∧ 0 ≤ m ∧ m ≤ 7 ∧ pr k (.more m) s = some x ∧ PS wr n0 g L s ∧ s.err = 0 ∧ s.depth = st.depth ∧ s.m ≤ st.m

set_option maxRecDepth 100000 in
set_option maxHeartbeats 4000000 in
theorem args8_step (n0 g : Nat) (L : List Tok) (f : Nat) (ihL : ∀ f', f' ≤ f → WLevel n0 g L f') : WArg8 n0 g L (f + 1) := by
  intro st w x hx hps he hd hd25 hm
  rw [pr] at hx
  obtain ⟨pos0, hr0, hp0⟩ := hps
  have HSY := Lib.hid (symbol8_any n0 g L _ [41] w hp0)
  rw [pnext_qsym hr0] at HSY
  have HP0 := Lib.hid hp0; have HR0 := Lib.hid hr0; clear hp0 hr0
  have Hhe := Lib.hid he; clear he
  have IHL := Lib.hid ihL; clear ihL
  cases hn : pnext st [41]
  · rw [hn] at hx HSY
    have HX := Lib.hid hx; clear hx hn
    go_enter Try.func85, Try.ntmps85
    go_wp2_with fail
    refine HSY.out.mono ?_
    rintro e w1 ⟨rfl, m1, rfl⟩
    go_wp2_with fail
    go_loopg [3] f (fun k v wr => AR n0 g L f x w st k v wr)
    case atStart => exact ⟨(Frm.refl _ _).drewN _, st, 0, Nat.le_refl f, rfl, by omega, by omega, HX.out, ⟨pos0, HR0.out, HP0.out.drewN _⟩, Hhe.out, rfl, Nat.le_refl _⟩
    case round =>
      obtain ⟨hfr, s, m, hk, hv, hm0, hm7, hp, ⟨pos, hrest, hpw⟩, hes, hds, hms⟩ := hrel
      obtain ⟨k, rfl⟩ : ∃ k', gk = k' + 1 := by
        cases gk with
        | zero => cases hp
        | succ k' => exact ⟨k', rfl⟩
      subst hv
      rw [pr] at hp
      obtain ⟨y, hy, hp⟩ := bind_some hp
      have hIy := pr_inv _ _ _ _ hy
      have hEy := pr_err _ _ _ _ hy hes
      have hmw : IntKind.u32.wrap (m + 1) = m + 1 := by simp [IntKind.wrap, IntKind.signed, IntKind.bits]; omega
      have hlv := fun W h => IHL.out k (by omega) 1 1 s W y rfl (by omega) (by omega) hy (show PS W n0 g L s from ⟨pos, hrest, h⟩) hes (by rw [hds]; exact hd) (by rw [hds]; exact hd25) (by omega)
      have HLV := Lib.hid hlv
      have HK := Lib.hid hk
      have HPW := Lib.hid hpw
      obtain ⟨hn0, hol, hpl, htl, hL, A, c, Ao, co, hb, hsl, hown⟩ := hpw
      have c4 := cell_blk hb 4
      simp only [List.getElem?_toArray, List.getElem?_cons_succ, List.getElem?_cons_zero] at c4
      have he' : (s.err == 0) = true := by rw [hes]; rfl
      have HFr := Lib.hid hfr; have HP := Lib.hid hp; have HIy := Lib.hid hIy; have HEy := Lib.hid hEy; have HES := Lib.hid hes; have HDS := Lib.hid hds; have HMS := Lib.hid hms; have HRest := Lib.hid hrest
      clear hlv hb hsl hown htl hol hpl hfr hp hIy hEy hes hds hms hrest hy HP0 HR0 HSY HX
      go_wp2_with fail
      refine (HLV.out _ HPW.out).mono ?_
      rintro e w3 ⟨rfl, hw3, hf3⟩
      have HF3 := Lib.hid hf3; clear hf3
      cases hyb : y.1
      · have hw3 := hw3.2 hyb
        have HW3 := Lib.hid hw3
        obtain ⟨hen, q, hq, hqe, -⟩ := hw3
        obtain ⟨-, -, -, -, -, A3, c3, Ao3, co3, hb3, -, -⟩ := hq
        have d4 := cell_blk hb3 4
        simp only [List.getElem?_toArray, List.getElem?_cons_succ, List.getElem?_cons_zero] at d4
        have hne : (q.err != 0) = true := by rw [bne_iff_ne, hqe]; exact hen
        have HYB := Lib.hid hyb
        clear hb3 hqe hen hyb
        go_wp2
        go_ret
        have hp := HP.out
        rw [if_neg (by rw [HYB.out]; decide)] at hp
        injection hp with hp
        subst hp
        refine ⟨_, rfl, fun h => (by cases h), ⟨fun h => (by cases h), fun _ => ?_⟩, PM.trans HFr.out HF3.out⟩
        obtain ⟨hen, q, hq, hqe, h1, h2, h3⟩ := HW3.out
        have := HDS.out
        have := HMS.out
        exact ⟨hen, q, hq, hqe, by omega, by omega, by omega⟩
      · obtain ⟨⟨pos3, hr3, hp3⟩, he3⟩ := hw3.1 hyb
        have hsy := symbol8_any n0 g L _ [44] w3 hp3
        rw [pnext_qsym hr3] at hsy
        have HP3 := Lib.hid hp3
        obtain ⟨-, -, hpl3, -, -, A3, c3, Ao3, co3, hb3, -, -⟩ := hp3
        have d4 := cell_blk hb3 4
        have d1 := cell_blk hb3 1
        have y1 := frz_blk hb3 1
        simp only [List.getElem?_toArray, List.getElem?_cons_succ, List.getElem?_cons_zero] at d4 d1
        have hne : (y.2.1.err != 0) = false := by rw [he3]; rfl
        have hp := HP.out
        rw [if_pos hyb] at hp
        have HE3 := Lib.hid he3; have HR3 := Lib.hid hr3; have HYB := Lib.hid hyb
        clear hb3 he3 hr3 hyb hw3
        cases hc : pnext y.2.1 [44]
        · rw [hc] at hsy hp
          have HSC := Lib.hid hsy; have HP2 := Lib.hid hp; clear hsy hp hc
          go_wp2_with fail
          refine HSC.out.mono ?_
          rintro e w4 ⟨rfl, m4, rfl⟩
          go_wp2
          go_ret
          have hp := HP2.out
          injection hp with hp
          subst hp
          exact ⟨_, rfl, fun _ => rfl, ⟨fun _ => ⟨⟨pos3, HR3.out, HP3.out.drewN _⟩, HE3.out⟩, fun h => by cases h⟩, PM.trans HFr.out (HF3.out.drewN _)⟩
        · rw [hc] at hsy hp
          have HSC := Lib.hid hsy; clear hsy
          have hlt3 : pos3 < L.length := qsym_lt ((pnext_qsym (d := 0) (o := []) (e := 0) HR3.out [44]).trans hc)
          clear hc
          by_cases hm8 : m + 1 = 8
          · rw [if_pos rfl, if_pos hm8] at hp
            have HP2 := Lib.hid hp; clear hp
            have hm8' : ((m + 1) == 8) = true := by simpa using hm8
            have Hm8 := Lib.hid hm8; clear hm8
            go_wp2_with fail
            refine HSC.out.mono ?_
            rintro e w4 ⟨rfl, m4, rfl⟩
            go_wp2_with fail
            refine (fail8_any n0 g L _ 10 _ (HP3.out.drewN m4)).mono ?_
            rintro e w5 ⟨rfl, hw5, hf5⟩
            go_wp2
            go_ret
            have hp := HP2.out
            injection hp with hp
            have hq : qfail ⟨pos3, y.2.1.depth, y.2.1.out, y.2.1.err⟩ 10 = ⟨pos3, y.2.1.depth, y.2.1.out, 10⟩ := by unfold qfail; rw [if_pos HE3.out]
            have hpf : (pfail y.2.1 10).2.err = 10 := by unfold pfail; rw [if_pos HE3.out]
            rw [hq] at hw5
            subst hp
            have h1 := HIy.out.depth
            have h2 := HIy.out.m
            have h3 := HDS.out
            have h4 := HMS.out
            have h5 : y.2.1.rest.length = L.length - pos3 := by rw [HR3.out, List.length_drop]
            refine ⟨_, rfl, fun h => (by cases h), ⟨fun h => (by cases h), fun _ => ⟨by rw [hpf]; decide, _, hw5, hpf.symm, ?_, ?_, ?_⟩⟩, PM.trans HFr.out (PM.trans (HF3.out.drewN _) hf5)⟩
            · simp only; omega
            · simp only; omega
            · simp only [PSt.m] at h2 h4 ⊢; omega
          · rw [if_pos rfl, if_neg hm8] at hp
            have HP2 := Lib.hid hp; clear hp
            have hm8' : ((m + 1) == 8) = false := by simpa using hm8
            have hw2 : IntKind.i64.wrap ((pos3 : Int) + 1) = (pos3 : Int) + 1 := by simp [IntKind.wrap, IntKind.signed, IntKind.bits]; omega
            have HPL := Lib.hid (show pos3 + 1 ≤ L.length from hlt3)
            have Hm8 := Lib.hid (show 0 ≤ m + 1 ∧ m + 1 ≤ 7 by omega); clear hm8
            go_wp2_with fail
            refine HSC.out.mono ?_
            rintro e w4 ⟨rfl, m4, rfl⟩
            go_wp2_with fail
            go_roundg k
            case measure => omega
            case rel =>
              have h1 := HIy.out.depth
              have h2 := HIy.out.m
              have h3 := HDS.out
              have h4 := HMS.out
              have h5 : y.2.1.rest.length = L.length - pos3 := by rw [HR3.out, List.length_drop]
              refine ⟨PM.trans HFr.out (HP3.out.frm (HF3.out.drewN _) _ _), _, m + 1, (by have := HK.out; omega), rfl, Hm8.out.1, Hm8.out.2, HP2.out, ⟨pos3 + 1, ?_, (HP3.out.drewN _).set1 (pos3 + 1) HPL.out⟩, HE3.out, h1.trans h3, ?_⟩
              · simp only; rw [HR3.out, List.tail_drop]
              · simp only [PSt.m, List.length_tail] at h2 h4 ⊢; omega
  · rw [hn] at hx HSY
    injection hx with hx
    have HX := Lib.hid hx; clear hx hn
    go_enter Try.func85, Try.ntmps85
    go_wp2_with fail
    refine HSY.out.mono ?_
    rintro e w1 ⟨rfl, m1, rfl⟩
    go_wp2
    go_ret
    rw [← HX.out]
    exact ⟨0, rfl, fun _ => rfl, ⟨fun _ => ⟨⟨pos0, HR0.out, HP0.out.drewN _⟩, Hhe.out⟩, fun h => by cases h⟩, (Frm.refl _ _).drewN _⟩
end Go.Proofs.Ytchdpjgncojhaaa
