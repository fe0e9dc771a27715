/- licitref08: Fold, Value. -/
import Derived.Test.YtchdpjgncojhaaaR3
import Derived.Test.YtchdpjgncojhaaaG9
import Derived.Test.YtchdpjgncojhaaaE13
set_option linter.unusedVariables false
set_option linter.unusedSimpArgs false
namespace Go.Proofs.Ytchdpjgncojhaaa
open Go.RowKit

theorem set_last {out : List Opn} (h : 1 ≤ out.length) (a : Opn) : out.set (out.length - 1) a = out.take (out.length - 1) ++ [a] := by
  apply List.ext_getElem
  · simp; omega
  · intro i h1 h2
    rw [List.getElem_set, List.getElem_append]
    simp only [List.length_set] at h1
    by_cases hi : out.length - 1 = i
    · rw [if_pos hi, dif_neg (by simp; omega)]; simp
    · rw [if_neg hi, dif_pos (by simp; omega)]; simp
theorem set_last2 {out : List Opn} (h : 2 ≤ out.length) (a : Opn) : (out.set (out.length - 2) a).take (out.length - 1) = out.take (out.length - 2) ++ [a] := by
  apply List.ext_getElem
  · simp; omega
  · intro i h1 h2
    rw [List.getElem_take, List.getElem_set, List.getElem_append]
    simp only [List.length_take, List.length_set] at h1
    by_cases hi : out.length - 2 = i
    · rw [if_pos hi, dif_neg (by simp; omega)]; simp
    · rw [if_neg hi, dif_pos (by simp; omega)]; simp
/-- Numbers in a formula bear no text. -/
def PlainN (out : List Opn) : Prop := ∀ o ∈ out, o.kind = 1 → o.text = []
theorem PlainN.take {out : List Opn} (h : PlainN out) (k : Nat) : PlainN (out.take k) := fun o ho => h o (List.mem_of_mem_take ho)
theorem PlainN.push {out : List Opn} (h : PlainN out) {o : Opn} (ho : o.kind = 1 → o.text = []) : PlainN (out ++ [o]) := by
  intro x hx
  rcases List.mem_append.1 hx with hx | hx
  · exact h x hx
  · simp only [List.mem_cons, List.not_mem_nil, or_false] at hx; subst hx; exact ho
theorem needs_plain {o : Opn} (h : 0 ≤ needsS o) : o.kind = 1 → o.text = [] := by
  intro hk
  unfold needsS at h
  rw [if_pos hk] at h
  split at h
  · rename_i hh; simpa using hh
  · omega

def FoldRel8 (w : World) (f v : List Opn) (k : Nat) (A : Option Addr) (n c : Nat) (wr : World) : Prop :=
  ∃ (out : List Opn) (m : Int), n = out.length ∧ Own wr (fun _ => False) w.heap.size 50 A c out ∧ Below w.heap.size w wr ∧ out.length ≤ k ∧ OkN out ∧ v = foldGo (f.drop k) out ∧ checkGo (f.drop k) m = 0 ∧ m ≤ out.length ∧ PlainN out

set_option maxRecDepth 100000 in
set_option maxHeartbeats 8000000 in
theorem fold8_any (A : Option Addr) (n c : Nat) (w : World) (S : Nat → Prop) (f : List Opn) (hl : Sl w S A n c f) (hf : OkF f) :
    Calls Try.prog 22 #[.slice A n c] w fun e w' => ∃ A' n' c', e = .returned (.tuple #[.slice A' n' c', .int .i64 (foldS f).2]) ∧ Sl w' (fun b => w.heap.size ≤ b) A' n' c' (foldS f).1 ∧ Below w.heap.size w w' := by
  have hn := hl.le
  have hlen := hl.len
  subst hlen
  have hck := check8_any A f.length c w S f hl hf
  have HL := Lib.hid hl; clear hl
  have HF := Lib.hid hf; clear hf
  obtain ⟨v, hv⟩ : ∃ v, v = foldS f := ⟨_, rfl⟩
  rw [← hv]
  unfold foldS at hv
  by_cases hc : checkS f = 0
  · rw [if_neg (fun h => h hc)] at hv
    rw [hc] at hck
    have hcg : checkGo (f.drop 0) 0 = 0 ∧ f.length ≤ 256 := by
      unfold checkS at hc
      split at hc
      · cases hc
      · exact ⟨hc, by omega⟩
    obtain ⟨hcg, hlen⟩ := hcg
    have Hck := Lib.hid hck; clear hck
    obtain ⟨v1, v2⟩ := v
    injection hv with hv1 hv2
    subst hv2
    have Hv := Lib.hid hv1; have HCG := Lib.hid hcg; clear hv1 hc hcg
    go_enter Try.func22, Try.ntmps22
    go_wp2_with fail
    refine Hck.out.mono ?_
    rintro e w1 ⟨rfl, hb1⟩
    go_wp2_with fail
    go_loopw [5, 20] (fun s i wr => ∃ (k : Nat) (A2 : Option Addr) (n2 c2 : Nat), k ≤ f.length ∧ i = .int .i64 k ∧ s = .slice A2 n2 c2 ∧ Hid (FoldRel8 w f v1 k A2 n2 c2 wr)) (fun _ i _ => f.length - (intOf i).toNat)
    case atStart => exact ⟨0, none, 0, 0, by omega, rfl, rfl, [], 0, rfl, Own.nil _ _ _ _, hb1, by simp, (fun o h => by simp at h), Hv.out, HCG.out, by simp, (fun o h => by simp at h)⟩
    case round =>
      obtain ⟨k, A2, n2, c2, hk, rfl, rfl, hrel⟩ := hrel
      obtain ⟨out, m, hn2, ho, hb, hol, hon, hfd, hcg, hmo, hpl⟩ := hrel.out
      clear hrel
      have hcap := ho.cap
      by_cases hlt : k < f.length
      · obtain ⟨bb, oo, rfl, -, hbs, h1, h2, h3⟩ := (HL.out.below hb).opn hlt
        rw [drop_get hlt] at hfd hcg
        obtain ⟨ho1, ho2, ho3⟩ := HF.out f[k] (List.getElem_mem hlt)
        generalize f[k] = op at *
        obtain ⟨hg0, hg1, hg2⟩ := checkGo_cons hcg
        have hplo := needs_plain hg0
        obtain ⟨ok, ot, on⟩ := op
        simp only at h1 h2 h3 ho1 ho2 ho3 hplo
        have hnb : n2 ≤ 256 := by omega
        have hcc : n2 ≤ c2 := by omega
        have hk256 : c2 ≤ 9223372036854775807 := hcap.2
        have hplo' : PlainN [(⟨ok, ot, on⟩ : Opn)] := fun o ho => by simp only [List.mem_cons, List.not_mem_nil, or_false] at ho; subst ho; exact hplo
        -- what a push leaves
        have hpush : ∀ (W w3 : World) (A3 : Option Addr) (c3 : Nat), Own w3 (fun _ => False) w.heap.size 50 A3 c3 (out ++ [⟨ok, ot, on⟩]) → Below w.heap.size w w3 → v1 = foldGo (f.drop (k + 1)) (out ++ [⟨ok, ot, on⟩]) → FoldRel8 w f v1 (k + 1) A3 (n2 + 1) c3 w3 := fun W w3 A3 c3 h1 h2 h3 =>
          ⟨out ++ [⟨ok, ot, on⟩], _, by rw [List.length_append, hn2]; rfl, h1, h2, by simp; omega, hon.push ho2 ho3, h3, hg2, by simp; omega, hpl.push hplo⟩
        have hfoldN : ∀ (w3 : World) (A3 : Option Addr) (c3 j : Nat) (u : Int), needsS ⟨ok, ot, on⟩ = j → j ≤ out.length → 1 ≤ j → 0 ≤ u ∧ u ≤ 4294967295 → Own w3 (fun _ => False) w.heap.size 50 A3 c3 (out.take (out.length - j) ++ [⟨1, [], u⟩]) → Below w.heap.size w w3 → v1 = foldGo (f.drop (k + 1)) (out.take (out.length - j) ++ [⟨1, [], u⟩]) → FoldRel8 w f v1 (k + 1) A3 (n2 - j + 1) c3 w3 := fun w3 A3 c3 j u hj1 hj2 hj0 hu h1 h2 h3 =>
          ⟨out.take (out.length - j) ++ [⟨1, [], u⟩], _, by rw [List.length_append, List.length_take, hn2]; show _ = _ + 1; omega, h1, h2, by rw [List.length_append, List.length_take]; show _ + 1 ≤ _; omega, (hon.take _).push hu.1 hu.2, h3, hg2, by rw [hj1, List.length_append, List.length_take]; show _ ≤ ((_ + 1 : Nat) : Int); omega, (hpl.take _).push (fun _ => rfl)⟩
        have HPUSH := Lib.hid hpush; have HFN := Lib.hid hfoldN; clear hpush hfoldN hplo' hplo
        by_cases h6 : ok = 6
        · subst h6
          obtain ⟨q, hq⟩ := Int.eq_ofNat_of_zero_le hg0
          obtain rfl := needs_6 hq
          have hl1 : 1 ≤ out.length := by rw [hq] at hg1; omega
          have hk1 : out.length - 1 < out.length := by omega
          have hgd : out.getD (out.length - 1) default = out[out.length - 1] := by simp [hk1]
          obtain ⟨g, rfl, -, hgl, -, k0, k1, k2⟩ := ho.opn hk1
          have hXt := hpl _ (List.getElem_mem hk1)
          have hXn := hon _ (List.getElem_mem hk1)
          generalize hX : out[out.length - 1] = X at *
          rw [← hn2] at k0 k2
          have HN2 := Lib.hid hn2; have HO := Lib.hid ho; have HQ := Lib.hid hq
          have hw4 : ((n2 : Int) - 1).toNat = n2 - 1 := by omega
          have hw5 : (1 : Int) ≤ (n2 : Int) := by omega
          have k0' := k0; have k2' := k2
          rw [← hw4] at k0' k2'
          clear hw4
          by_cases hx1 : X.kind = 1
          · have q1 : (X.kind == 1) = true := by simpa using hx1
            have hXe : X = ⟨1, [], X.n⟩ := by
              have := hXt hx1
              obtain ⟨a, b, c⟩ := X
              simp only at hx1 this
              rw [hx1, this]
            have hn1 : isNum out 1 = true := by unfold isNum; rw [hgd]; simp [hl1, hx1]
            rw [foldGo_6 rfl hn1, hgd, set_last hl1] at hfd
            have hXs : ({ X with n := (unS ot X.n).1 } : Opn) = ⟨1, [], (unS ot X.n).1⟩ := by rw [hXe]
            rw [hXs] at hfd
            have hur := unS_rng ot X.n
            have hu8 := fun w => (unary8_any ot X.n w hXn.1 hXn.2).mono (R' := fun e w' => e = .returned (.tuple #[.int .u32 (unS ot X.n).1, .bool (unS ot X.n).2]) ∧ w' = w) fun e w' h => ⟨h.1, h.2.symm⟩
            generalize unS ot X.n = U at *
            obtain ⟨U1, U2⟩ := U
            simp only at hfd hur hu8
            have HU8 := Lib.hid hu8; have HFD := Lib.hid hfd; have HXE := Lib.hid hXe
            clear hu8 hfd hXe hXs hX hgd hn1 hx1 hXt hcg hg2 ho hn2 hq
            go_wp2_with fail
            go_quiet ((go_at_call 26; exact Calls.quiet_of_same (HU8.out _)))
            go_wp2_with (at_builtin; refine wpList_app1 (xs := out.take (out.length - 1)) rfl (.tmp 58) (.tmp 61) eltOpn rfl (by decide) rfl rfl (by have := HN2.out; rw [List.length_take]; omega) ((((HO.out.alloc _).drewN _).alloc _).take _) rfl [.int .i64 1, .string ⟨[].toArray⟩, .int .u32 U1] ⟨1, [], U1⟩ (blkAt _ _ (by simp)) rfl ⟨rfl, rfl, rfl⟩ (by rw [List.length_take]; omega) (by rw [List.length_take]; omega) (by have := hb.size; simp; omega) ?_; intro A3 c3 w3 hown3 hg3 hat3)
            go_roundw
            case rel => exact ⟨k + 1, A3, _, c3, by omega, by go_num, rfl, Lib.hid (HFN.out w3 A3 c3 1 U1 HQ.out hl1 (by omega) hur hown3 (((dN (hb.alloc hb.size _) _).alloc (by have := hb.size; simp; omega) _).grown hg3 (by have := hb.size; simp; omega) (fun q hq => (HO.out.lt q hq).1)) HFD.out)⟩
            case measure => simp [intOf]; omega
          · have q1 : (X.kind == 1) = false := by simpa using hx1
            have hn1 : ¬ (isNum out 1 = true) := by unfold isNum; rw [hgd]; simp [hl1, hx1]
            rw [foldGo_else (fun h => hn1 h.2) (fun h => by simp at h)] at hfd
            have HFD := Lib.hid hfd
            clear hfd hX hgd hn1 hx1 hXt hcg hg2 ho hn2 hq
            go_wp2_with (at_builtin; refine wpList_app1 rfl (.tmp 26) (.tmp 28) eltOpn rfl (by decide) rfl rfl HN2.out ((HO.out.alloc _).alloc _) rfl [.int .i64 6, .string ⟨ot.toArray⟩, .int .u32 on] ⟨6, ot, on⟩ (blkAt _ _ (by simp)) rfl ⟨rfl, rfl, rfl⟩ (by have := HN2.out; omega) (by have := HN2.out; omega) (by have := hb.size; simp; omega) ?_; intro A3 c3 w3 hown3 hg3 hat3)
            go_roundw
            case rel => exact ⟨k + 1, A3, _, c3, by omega, by go_num, rfl, Lib.hid (HPUSH.out w3 w3 A3 c3 hown3 (((hb.alloc hb.size _).alloc (by have := hb.size; simp; omega) _).grown hg3 (by have := hb.size; simp; omega) (fun q hq => (HO.out.lt q hq).1)) HFD.out)⟩
            case measure => simp [intOf]; omega
        · by_cases h7 : ok = 7
          · subst h7
            obtain ⟨q, hq⟩ := Int.eq_ofNat_of_zero_le hg0
            obtain rfl := needs_7 hq
            have hl1 : 2 ≤ out.length := by rw [hq] at hg1; omega
            have hk1 : out.length - 1 < out.length := by omega
            have hk2 : out.length - 2 < out.length := by omega
            have hgd : out.getD (out.length - 1) default = out[out.length - 1] := by simp [hk1]
            have hgd2 : out.getD (out.length - 2) default = out[out.length - 2] := by simp [hk2]
            obtain ⟨g, rfl, -, hgl, -, k0, k1, k2⟩ := ho.opn hk1
            obtain ⟨g', hgg, -, -, -, j0, j1, j2⟩ := ho.opn hk2
            injection hgg with hgg; injection hgg with hgg; subst hgg
            have hXt := hpl _ (List.getElem_mem hk1)
            have hYt := hpl _ (List.getElem_mem hk2)
            have hXn := hon _ (List.getElem_mem hk1)
            have hYn := hon _ (List.getElem_mem hk2)
            generalize hX : out[out.length - 1] = X at *
            generalize hY : out[out.length - 2] = Y at *
            rw [← hn2] at k0 k2 j0 j2
            have HN2 := Lib.hid hn2; have HO := Lib.hid ho; have HQ := Lib.hid hq
            have hw4 : ((n2 : Int) - 1).toNat = n2 - 1 := by omega
            have hw5 : (1 : Int) ≤ (n2 : Int) := by omega
            have hw6 : ((n2 : Int) - 2).toNat = n2 - 2 := by omega
            have hw7 : (2 : Int) ≤ (n2 : Int) := by omega
            have k0' := k0; have k2' := k2; have j0' := j0; have j2' := j2
            rw [← hw4] at k0' k2'
            rw [← hw6] at j0' j2'
            clear hw4 hw6
            have hi1 : isNum out 1 = decide (X.kind = 1) := by unfold isNum; rw [hgd, decide_eq_true (by omega), Bool.true_and, Bool.eq_iff_iff]; simp
            have hi2 : isNum out 2 = decide (Y.kind = 1) := by unfold isNum; rw [hgd2, decide_eq_true (by omega), Bool.true_and, Bool.eq_iff_iff]; simp
            by_cases hx1 : X.kind = 1
            · have q1 : (X.kind == 1) = true := by simpa using hx1
              by_cases hy1 : Y.kind = 1
              · have q2 : (Y.kind == 1) = true := by simpa using hy1
                have hYe : Y = ⟨1, [], Y.n⟩ := by
                  have := hYt hy1
                  obtain ⟨a, b, c⟩ := Y
                  simp only at hy1 this
                  rw [hy1, this]
                rw [foldGo_7 rfl (by rw [hi1]; simpa using hx1) (by rw [hi2]; simpa using hy1), hgd, hgd2, set_last2 hl1] at hfd
                have hYs : ({ Y with n := (binS ot Y.n X.n).1 } : Opn) = ⟨1, [], (binS ot Y.n X.n).1⟩ := by rw [hYe]
                rw [hYs] at hfd
                have hur := binS_rng ot Y.n X.n hYn.1 hYn.2
                have hu8 := fun w => (binary8_any ot Y.n X.n w hYn.1 hYn.2 hXn.1 hXn.2).mono (R' := fun e w' => e = .returned (.tuple #[.int .u32 (binS ot Y.n X.n).1, .bool (binS ot Y.n X.n).2]) ∧ w' = w) fun e w' h => ⟨h.1, h.2.symm⟩
                generalize binS ot Y.n X.n = U at *
                obtain ⟨U1, U2⟩ := U
                simp only at hfd hur hu8
                have HU8 := Lib.hid hu8; have HFD := Lib.hid hfd; have HYE := Lib.hid hYe
                clear hu8 hfd hYe hYs hX hY hgd hgd2 hi1 hi2 hx1 hy1 hXt hYt hcg hg2 ho hn2 hq
                go_wp2_with fail
                go_quiet ((go_at_call 28; exact Calls.quiet_of_same (HU8.out _)))
                go_wp2_with (at_builtin; refine wpList_app1 (xs := out.take (out.length - 2)) rfl (.tmp 106) (.tmp 109) eltOpn rfl (by decide) rfl rfl (by have := HN2.out; rw [List.length_take]; omega) ((((HO.out.alloc _).drewN _).alloc _).take _) rfl [.int .i64 1, .string ⟨[].toArray⟩, .int .u32 U1] ⟨1, [], U1⟩ (blkAt _ _ (by simp)) rfl ⟨rfl, rfl, rfl⟩ (by rw [List.length_take]; omega) (by rw [List.length_take]; omega) (by have := hb.size; simp; omega) ?_; intro A3 c3 w3 hown3 hg3 hat3)
                go_roundw
                case rel => exact ⟨k + 1, A3, _, c3, by omega, by go_num, rfl, Lib.hid (HFN.out w3 A3 c3 2 U1 HQ.out hl1 (by omega) hur hown3 (((dN (hb.alloc hb.size _) _).alloc (by have := hb.size; simp; omega) _).grown hg3 (by have := hb.size; simp; omega) (fun q hq => (HO.out.lt q hq).1)) HFD.out)⟩
                case measure => simp [intOf]; omega
              · have q2 : (Y.kind == 1) = false := by simpa using hy1
                rw [foldGo_else (fun h => by simp at h) (fun h => by rw [hi2] at h; simp [hy1] at h)] at hfd
                have HFD := Lib.hid hfd
                clear hfd hX hY hgd hgd2 hi1 hi2 hx1 hy1 hXt hYt hcg hg2 ho hn2 hq
                go_wp2_with (at_builtin; refine wpList_app1 rfl (.tmp 26) (.tmp 28) eltOpn rfl (by decide) rfl rfl HN2.out ((HO.out.alloc _).alloc _) rfl [.int .i64 7, .string ⟨ot.toArray⟩, .int .u32 on] ⟨7, ot, on⟩ (blkAt _ _ (by simp)) rfl ⟨rfl, rfl, rfl⟩ (by have := HN2.out; omega) (by have := HN2.out; omega) (by have := hb.size; simp; omega) ?_; intro A3 c3 w3 hown3 hg3 hat3)
                go_roundw
                case rel => exact ⟨k + 1, A3, _, c3, by omega, by go_num, rfl, Lib.hid (HPUSH.out w3 w3 A3 c3 hown3 (((hb.alloc hb.size _).alloc (by have := hb.size; simp; omega) _).grown hg3 (by have := hb.size; simp; omega) (fun q hq => (HO.out.lt q hq).1)) HFD.out)⟩
                case measure => simp [intOf]; omega
            · have q1 : (X.kind == 1) = false := by simpa using hx1
              rw [foldGo_else (fun h => by simp at h) (fun h => by rw [hi1] at h; simp [hx1] at h)] at hfd
              have HFD := Lib.hid hfd
              clear hfd hX hY hgd hgd2 hi1 hi2 hx1 hXt hYt hcg hg2 ho hn2 hq
              go_wp2_with (at_builtin; refine wpList_app1 rfl (.tmp 26) (.tmp 28) eltOpn rfl (by decide) rfl rfl HN2.out ((HO.out.alloc _).alloc _) rfl [.int .i64 7, .string ⟨ot.toArray⟩, .int .u32 on] ⟨7, ot, on⟩ (blkAt _ _ (by simp)) rfl ⟨rfl, rfl, rfl⟩ (by have := HN2.out; omega) (by have := HN2.out; omega) (by have := hb.size; simp; omega) ?_; intro A3 c3 w3 hown3 hg3 hat3)
              go_roundw
              case rel => exact ⟨k + 1, A3, _, c3, by omega, by go_num, rfl, Lib.hid (HPUSH.out w3 w3 A3 c3 hown3 (((hb.alloc hb.size _).alloc (by have := hb.size; simp; omega) _).grown hg3 (by have := hb.size; simp; omega) (fun q hq => (HO.out.lt q hq).1)) HFD.out)⟩
              case measure => simp [intOf]; omega
          · have q6 : (ok == 6) = false := by simpa using h6
            have q7 : (ok == 7) = false := by simpa using h7
            rw [foldGo_else (fun h => h6 h.1) (fun h => h7 h.1)] at hfd
            have HFD := Lib.hid hfd; have HN2 := Lib.hid hn2; have HO := Lib.hid ho
            clear hfd hcg hg2 ho hn2
            go_wp2_with (at_builtin; refine wpList_app1 rfl (.tmp 26) (.tmp 28) eltOpn rfl (by decide) rfl rfl HN2.out ((HO.out.alloc _).alloc _) rfl [.int .i64 ok, .string ⟨ot.toArray⟩, .int .u32 on] ⟨ok, ot, on⟩ (blkAt _ _ (by simp)) rfl ⟨rfl, rfl, rfl⟩ (by have := HN2.out; omega) (by have := HN2.out; omega) (by have := hb.size; simp; omega) ?_; intro A3 c3 w3 hown3 hg3 hat3)
            go_roundw
            case rel => exact ⟨k + 1, A3, _, c3, by omega, by go_num, rfl, Lib.hid (HPUSH.out w3 w3 A3 c3 hown3 (((hb.alloc hb.size _).alloc (by have := hb.size; simp; omega) _).grown hg3 (by have := hb.size; simp; omega) (fun q hq => (HO.out.lt q hq).1)) HFD.out)⟩
            case measure => simp [intOf]; omega
      · have hd2 : v1 = out := by rw [hfd, drop_end hlt]; rfl
        have Hd := Lib.hid hd2; have HN2 := Lib.hid hn2; have HO := Lib.hid ho; clear hd2 hfd hn2 ho hcg
        go_wp2
        go_ret2
        rw [Hd.out, HN2.out]
        exact ⟨A2, _, c2, rfl, (HO.out.sl (by decide)).wide (fun k _ hk => by rcases hk with hk | hk; exact hk.elim; exact (HO.out.lt k hk).1) (by decide), hb⟩
  · rw [if_pos hc] at hv
    have Hck := Lib.hid hck; clear hck
    have hc' : (checkS f != 0) = true := by rw [bne_iff_ne]; exact hc
    have Hv := Lib.hid hv; clear hv hc
    go_enter Try.func22, Try.ntmps22
    go_wp2_with fail
    refine Hck.out.mono ?_
    rintro e w1 ⟨rfl, hb1⟩
    go_wp2
    go_ret2
    rw [Hv.out]
    exact ⟨none, 0, 0, rfl, Sl.nil _ _ _ _ (by decide), hb1⟩
end Go.Proofs.Ytchdpjgncojhaaa
