/- Tokens: the walks of licitref05.Tokens and Text. -/
import Derived.Test.YtchdpjgncojhaaaTokW3
set_option linter.unusedVariables false
set_option linter.unusedSimpArgs false
namespace Go.Proofs.Ytchdpjgncojhaaa
open Go.RowKit

set_option maxRecDepth 100000 in
set_option maxHeartbeats 2000000 in
theorem tokens5_any (s : Bs) (w : World) (hl : s.length ≤ 9223372036854775807) :
    Calls Try.prog 60 #[.string ⟨s.toArray⟩] w fun e w' => ∃ A n c, e = .returned (.tuple #[.slice A n c, .int .i64 (tokens5 s).2]) ∧ Sl w' (fun b => w.heap.size ≤ b) A n c (tokens5 s).1 ∧ Below w.heap.size w w' := by
  obtain ⟨v, hv⟩ : ∃ v, v = tokens5 s := ⟨_, rfl⟩
  rw [← hv]
  by_cases h1 : 65536 < s.length
  · have Hv : Hid (v = ([], 10)) := by show v = _; rw [hv, tokens5, if_pos h1]
    clear hv
    go_enter Try.func60, Try.ntmps60
    go_wp2
    go_ret2
    rw [Hv.out]
    exact ⟨none, 0, 0, rfl, Sl.nil _ _ _ _ (by decide), Below.refl _ _⟩
  · have Hv : Hid (v = toks5 (s.length + 1) (s.drop 0) []) := by show v = _; rw [hv, tokens5, if_neg h1]; rfl
    clear hv
    go_enter Try.func60, Try.ntmps60
    go_wp2
    go_loopw [4, 5] (fun o i wr => ∃ (k f c : Nat) (A : Option Addr) (out : List Tok), k ≤ s.length ∧ s.length < f + k ∧ out.length ≤ 256 ∧ i = .int .i64 k ∧ o = .slice A out.length c ∧ Below w.heap.size w wr ∧ Own wr (fun b => w.heap.size ≤ b) w.heap.size 54 A c out ∧ Hid (v = toks5 f (s.drop k) out)) (fun _ i _ => s.length - (intOf i).toNat)
    case atStart => exact ⟨0, s.length + 1, 0, none, [], by omega, by omega, by simp, rfl, rfl, Below.refl _ _, Own.nil _ _ _ _, Hv⟩
    case round =>
      obtain ⟨k, f, c, A, out, hk, hfu, hol, rfl, rfl, hb, hown, hf⟩ := hrel
      by_cases hlt : k < s.length
      · obtain ⟨f, rfl⟩ : ∃ g, f = g + 1 := ⟨f - 1, by omega⟩
        have hd : v = _ := hf.out
        rw [drop_get hlt, toks5, ← drop_get hlt] at hd
        clear hf
        by_cases hsp : s[k] = 32
        · rw [if_pos hsp] at hd
          have Hd := Lib.hid hd; clear hd
          have hs2 : ((s[k].toNat : Int) == 32) = true := by rw [hsp]; rfl
          clear hsp
          have Hown := Lib.hid hown; clear hown
          go_wp2
          go_roundw
          case rel => exact ⟨k + 1, f, c, A, out, by omega, by omega, hol, by go_num, rfl, hb, Hown.out, Hd⟩
          case measure => simp [intOf]; omega
        · rw [if_neg hsp] at hd
          have hs2 : ((s[k].toNat : Int) == 32) = false := by rw [beq_eq_false_iff_ne]; exact fun e => hsp (UInt8.toNat_inj.1 (by rw [show (32 : UInt8).toNat = 32 from rfl]; omega))
          clear hsp
          have Hown := Lib.hid hown; clear hown
          by_cases hfull : out.length = 256
          · rw [if_pos hfull] at hd
            have Hd := Lib.hid hd; clear hd
            have hfb : ((out.length : Int) == 256) = true := by rw [hfull]; rfl
            clear hfull
            go_wp2
            go_ret2
            rw [Hd.out]
            exact ⟨none, 0, 0, rfl, Sl.nil _ _ _ _ (by decide), hb⟩
          · rw [if_neg hfull] at hd
            have hfb : ((out.length : Int) == 256) = false := by rw [beq_eq_false_iff_ne]; omega
            have hol2 : out.length < 256 := by omega
            clear hfull
            have hdl : 0 < (s.drop k).length := by rw [List.length_drop]; omega
            have hnl := next_len (s.drop k) hdl
            generalize hnx : nextOf sym5 (s.drop k) = nx at *
            obtain ⟨⟨tk, tt⟩, te⟩ := nx
            have Hnx := Lib.hid hnx; clear hnx
            have Hd := Lib.hid hd; clear hd
            have Hnl := Lib.hid hnl; clear hnl
            by_cases hte : te = 0
            · subst hte
              obtain ⟨hn1, hn2⟩ := Hnl.out rfl
              simp only [List.length_drop] at hn1 hn2
              clear Hnl
              go_wp2_with fail
              refine (next5_any _ _ (by assumption) (by rw [List.length_drop]; omega)).mono ?_
              rw [Hnx.out]
              rintro e w1 ⟨rfl, hb1⟩
              unfold TokRes
              go_wp2_with (at_builtin; refine wpList_app1 rfl (.tmp 34) (.tmp 36) eltTok rfl (by decide) rfl rfl rfl (((Hown.out.below hb1).alloc _).alloc _) rfl [.int .i64 tk, .string ⟨tt.toArray⟩] ⟨tk, tt⟩ (blkAt _ _ (by simp)) rfl ⟨rfl, rfl⟩ (by omega) (by omega) (by have := hb.size; have := hb1.size; simp; omega) ?_; intro A' c' w2 hown' hg hat; have hcc := grownCell hg (blkOld (heap_alloc_new w1 _) _) (Hown.out.ne hb1.size) 1; simp only [List.getElem?_toArray, List.getElem?_cons_succ, List.getElem?_cons_zero] at hcc)
              have hbb : Below w.heap.size w w2 := Own.gr (((next hb hb1 (Nat.le_refl _)).alloc (by have := hb.size; have := hb1.size; omega) _).alloc (by have := hb.size; have := hb1.size; simp; omega) _) (((Hown.out.below hb1).alloc _).alloc _) hg (Nat.le_refl _) (by have := hb.size; have := hb1.size; simp; omega)
              go_roundw
              case rel => exact ⟨k + tt.length, f, c', A', out ++ [⟨tk, tt⟩], by omega, by omega, by simp; omega, by go_num, by simp, hbb, hown', by show v = _; rw [Hd.out, if_neg (by simp), List.drop_drop]⟩
              case measure => simp [intOf]; omega
            · have hte2 : (te != 0) = true := by rw [bne_iff_ne]; exact hte
              have hv2 : v = ([], te) := by rw [Hd.out, if_pos hte]
              have Hv2 := Lib.hid hv2; clear hv2 Hd Hnl hte
              go_wp2_with fail
              refine (next5_any _ _ (by assumption) (by rw [List.length_drop]; omega)).mono ?_
              rw [Hnx.out]
              rintro e w1 ⟨rfl, hb1⟩
              unfold TokRes
              go_wp2
              go_ret2
              rw [Hv2.out]
              exact ⟨none, 0, 0, rfl, Sl.nil _ _ _ _ (by decide), (next hb hb1 (Nat.le_refl _)).alloc (by have := hb.size; have := hb1.size; omega) _⟩
      · have hv2 : v = (out, 0) := by
          rw [hf.out, drop_end hlt]
          cases f <;> rfl
        have Hv2 := Lib.hid hv2; clear hv2 hf
        have Hown := Lib.hid hown; clear hown
        go_wp2
        go_ret2
        rw [Hv2.out]
        exact ⟨A, _, c, rfl, Hown.out.res, hb⟩


set_option maxRecDepth 100000 in
set_option maxHeartbeats 1000000 in
theorem text5_any (A : Option Addr) (n c : Nat) (w : World) (S : Nat → Prop) (l : List Tok) (hl : Sl w S A n c l) (hs : (text5 l).length ≤ 9223372036854775807) :
    Calls Try.prog 61 #[.slice A n c] w fun e w' => e = .returned (.string ⟨(text5 l).toArray⟩) ∧ Below w.heap.size w w' := by
  have hn := hl.le
  have hlen := hl.len
  subst hlen
  have HL := Lib.hid hl; clear hl
  obtain ⟨v, hv⟩ : ∃ v, v = text5 l := ⟨_, rfl⟩
  rw [← hv] at hs ⊢
  have Hf : Hid (v = textGo (l.drop 0) true []) := hv
  clear hv
  go_enter Try.func61, Try.ntmps61
  go_wp2
  go_loopw [3, 8] (fun o i wr => ∃ (k : Nat) (out : Bs), k ≤ l.length ∧ i = .int .i64 k ∧ o = .string ⟨out.toArray⟩ ∧ Below w.heap.size w wr ∧ Hid (v = textGo (l.drop k) (decide (k = 0)) out)) (fun _ i _ => l.length - (intOf i).toNat)
  case atStart => exact ⟨0, [], by omega, rfl, rfl, Below.refl _ _, Hf⟩
  case round =>
    obtain ⟨k, out, hk, rfl, rfl, hb, hf⟩ := hrel
    by_cases hlt : k < l.length
    · obtain ⟨b, o, rfl, -, hbs, h1, h2⟩ := (HL.out.below hb).tok hlt
      have hd := hf.out
      rw [drop_get hlt, textGo] at hd
      have hle := textGo_le (l.drop (k + 1)) false ((if decide (k = 0) = true then out else out ++ [32]) ++ l[k].text)
      rw [← hd] at hle
      have Hd := Lib.hid hd; clear hd hf
      generalize hT : l[k] = t at *
      clear hT
      by_cases hk0 : k = 0
      · simp [hk0] at hle
        have Hk0 := Lib.hid hk0
        have hk1 : k ≤ 0 := by omega
        clear hk0
        go_wp2
        go_roundw
        case rel => exact ⟨k + 1, out ++ t.text, by omega, by go_num, rfl, hb.alloc hb.size _, by show v = _; rw [Hd.out]; simp [Hk0.out]⟩
        case measure => simp [intOf]; omega
      · simp [hk0] at hle
        have Hk0 := Lib.hid hk0
        have hk1 : 0 < k := by omega
        clear hk0
        go_wp2
        go_roundw
        case rel => exact ⟨k + 1, (out ++ [32]) ++ t.text, by omega, by go_num, by simp, hb.alloc hb.size _, by show v = _; rw [Hd.out]; simp [Hk0.out]⟩
        case measure => simp [intOf]; omega
    · have hv2 : v = out := by rw [hf.out, drop_end hlt]; rfl
      have Hv2 := Lib.hid hv2; clear hv2 hf
      go_wp2
      go_ret
      exact ⟨ret_str Hv2.out, hb⟩
end Go.Proofs.Ytchdpjgncojhaaa
