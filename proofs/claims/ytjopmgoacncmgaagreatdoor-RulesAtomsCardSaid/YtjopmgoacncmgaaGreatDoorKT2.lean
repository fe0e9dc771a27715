/- Rules: tokens of a line. -/
import Derived.Test.YtjopmgoacncmgaaGreatDoorK6
import Derived.Test.YtjopmgoacncmgaaGreatDoorShelf
import Derived.Test.YtjopmgoacncmgaaGreatDoorRfSpl
import Derived.Test.YtjopmgoacncmgaaGreatDoorKP2
set_option linter.unusedVariables false
set_option linter.unusedSimpArgs false
namespace Go.Proofs.YtjopmgoacncmgaaGreatDoor
open Go.RowKit

theorem wrd_any (c : Int) (w : World) :
    Calls Tryz.prog 136 #[.int .u8 c] w fun e w' => e = .returned (.bool (varI c)) ∧ w = w' := by
  go_enter Tryz.func136, Tryz.ntmps136
  go_wp2_with (first | (go_at_call 134; refine (lower_any _ _).mono ?_; rintro e w' ⟨rfl, rfl⟩) | (go_at_call 135; refine (upper_any _ _).mono ?_; rintro e w' ⟨rfl, rfl⟩) | (go_at_call 137; refine (digit_any _ _).mono ?_; rintro e w' ⟨rfl, rfl⟩))
  all_goals go_ret
  all_goals (simp_all [varI])
theorem quo_any (c : Int) (w : World) :
    Calls Tryz.prog 138 #[.int .u8 c] w fun e w' => e = .returned (.bool (c != 34)) ∧ w = w' := by
  go_enter Tryz.func138, Tryz.ntmps138
  go_wp2
  all_goals go_ret
  all_goals (simp_all)
theorem span_drop (p : UInt8 → Bool) (s : Bs) {k : Nat} (h : k < s.length) : spanS p (s.drop k) = if p s[k] then 1 + spanS p (s.drop (k + 1)) else 0 := by
  unfold spanS
  rw [drop_get h, List.takeWhile_cons]
  split
  · rw [List.length_cons]; omega
  · rfl

set_option maxHeartbeats 1000000 in
theorem span_any (s : Bs) (F : Nat) (hF : ∀ (args : Array Value) (w : World), (callFunc F args).run Tryz.prog w = .ok (.enter F args) w) (o : Int → Bool) (ho : ∀ c w, Calls Tryz.prog F #[.int .u8 c] w fun e w' => e = .returned (.bool (o c)) ∧ w = w')
    (b : Nat) (w : World) (hc : w.cell? ⟨b, 0, none⟩ = some (.string ⟨s.toArray⟩)) (hl : s.length ≤ 4294967000) (f0 : Nat) (hf0 : f0 ≤ s.length) :
    Calls Tryz.prog 133 (#[.int .i64 f0, .func (.func F) #[] #[]] ++ #[.pointer (some ⟨b, 0, none⟩)]) w fun e w' => e = .returned (.int .i64 (f0 + spanS (fun c => o c.toNat) (s.drop f0) : Nat)) ∧ w = w' := by
  obtain ⟨v, hv⟩ : ∃ v : Nat, v = f0 + spanS (fun c => o c.toNat) (s.drop f0) := ⟨_, rfl⟩
  rw [← hv]
  have Hv := Lib.hid hv; clear hv
  have HO := Lib.hid ho; clear ho
  go_enter Tryz.func133, Tryz.ntmps133
  go_wp2_with fail
  go_loop [0] (fun i => ∃ k : Nat, k ≤ s.length ∧ i = .int .i64 k ∧ Hid (v = k + spanS (fun c => o c.toNat) (s.drop k))) (fun i => s.length - (intOf i).toNat)
  case atStart => exact ⟨f0, hf0, rfl, Hv⟩
  case round =>
    obtain ⟨k, hk, rfl, hf⟩ := hrel
    by_cases hlt : k < s.length
    · have hd := hf.out
      rw [span_drop _ s hlt] at hd
      have hcc := HO.out s[k].toNat w
      (try simp only at hd)
      generalize o s[k].toNat = q at *
      have HD := Lib.hid hd; have HC := Lib.hid hcc; clear hd hcc hf
      go_wp2_with fail
      refine HC.out.mono ?_
      rintro e w' ⟨rfl, rfl⟩
      cases q
      · go_wp2_with fail
        go_ret
        exact ⟨ret_int (by have := HD.out; simp at this; omega), rfl⟩
      · go_wp2_with fail
        go_round
        case rel => exact ⟨k + 1, by omega, by go_num, by show v = _; rw [HD.out]; simp; omega⟩
        case measure => simp [intOf]; omega
    · have hd := hf.out
      rw [drop_end hlt] at hd
      have HD := Lib.hid hd; clear hd hf
      go_wp2_with fail
      go_ret
      exact ⟨ret_int (by have := HD.out; simp [spanS] at this; omega), rfl⟩

theorem hasP (s p : Bs) : Lib.hasPrefix s p = p.isPrefixOf s := rfl
theorem sym_drop {k : Nat} (h : k < syms.length) (s : Bs) : symS (syms.drop k) s = if syms[k].isPrefixOf s then syms[k].length else symS (syms.drop (k + 1)) s := by
  rw [drop_get h, symS]

set_option maxRecDepth 100000 in
set_option maxHeartbeats 4000000 in
theorem length_any (x : UInt8) (r : Bs) (w : World) (hl : (x :: r).length ≤ 4294967000) :
    Calls Tryz.prog 87 #[.string ⟨(x :: r).toArray⟩] w fun e w' => e = .returned (.int .i64 (lenS (x :: r) : Nat)) ∧ Below w.heap.size w w' := by
  obtain ⟨v, hv⟩ : ∃ v : Nat, v = lenS (x :: r) := ⟨_, rfl⟩
  rw [← hv]
  unfold lenS at hv
  simp only [List.headD_cons, List.drop_one, List.tail_cons] at hv
  have hlr : r.length ≤ 4294966999 := by simp only [List.length_cons] at hl; omega
  have hlw := fun w => lower_any x.toNat w
  have hup := fun w => upper_any x.toNat w
  have hdg := fun w => digit_any x.toNat w
  have e1 : lowI x.toNat = lowB x := rfl
  have e2 : uppI x.toNat = uppB x := rfl
  have e3 : digI x.toNat = digB x := rfl
  rw [e1] at hlw; rw [e2] at hup; rw [e3] at hdg
  have hsp := fun F hF o ho w b hc => span_any (x :: r) F hF o ho b w hc hl 1 (by simp)
  have HSP := Lib.hid hsp; have HLW := Lib.hid hlw; have HUP := Lib.hid hup; have HDG := Lib.hid hdg
  have hc0 : (w.alloc (.cells #[.string ⟨(x :: r).toArray⟩] 9)).cell? ⟨w.heap.size, 0, none⟩ = some (.string ⟨(x :: r).toArray⟩) := (cell_blk (blkAt w _ rfl) 0).trans rfl
  have HC0 := Lib.hid hc0
  clear hsp hlw hup hdg e1 e2 e3 hc0
  obtain ⟨nb, hnb⟩ : ∃ nb, nb = (digB x || (x == 45 && decide (1 < (x :: r).length) && digB (r.headD 0))) := ⟨_, rfl⟩
  rw [← hnb] at hv
  cases hw1 : lowB x
  · rw [hw1] at HLW
    cases hw2 : uppB x
    · rw [hw2] at HUP
      rw [hw1, hw2] at hv
      simp only [Bool.or_false, Bool.false_eq_true, if_false] at hv
      have HV := Lib.hid hv; have HNB := Lib.hid hnb; clear hv hnb hw1 hw2
      go_enter Tryz.func87, Tryz.ntmps87
      go_wp2_with fail
      refine (HLW.out _).mono ?_
      rintro e w1 ⟨rfl, rfl⟩
      go_wp2_with fail
      refine (HUP.out _).mono ?_
      rintro e w1 ⟨rfl, rfl⟩
      go_upto_region 5 with fail
      go_cut [20] from 21 to 37 (fun v5 wx => v5 = .bool nb ∧ wx = w.alloc (.cells #[.string ⟨(x :: r).toArray⟩] 9))
      case first =>
        have hnb := HNB.out
        cases hd1 : digB x
        · rw [hd1] at HDG hnb
          simp only [Bool.false_or] at hnb
          by_cases h45 : x = 45
          · subst h45
            cases r with
            | nil =>
              have HN2 := Lib.hid (show nb = false by rw [hnb]; rfl); clear hnb hd1
              go_wp2_with fail
              refine (HDG.out _).mono ?_
              rintro e w1 ⟨rfl, rfl⟩
              go_wp2_with fail
              go_meet
              exact ⟨by rw [HN2.out], rfl⟩
            | cons y t =>
              have hdy := fun w => digit_any y.toNat w
              rw [show digI y.toNat = digB y from rfl] at hdy
              have HN2 := Lib.hid (show nb = digB y by rw [hnb]; simp)
              have HDY := Lib.hid hdy; clear hnb hd1 hdy
              generalize digB y = dy at *
              go_wp2_with fail
              refine (HDG.out _).mono ?_
              rintro e w1 ⟨rfl, rfl⟩
              go_wp2_with fail
              refine (HDY.out _).mono ?_
              rintro e w1 ⟨rfl, rfl⟩
              go_wp2_with fail
              go_meet
              exact ⟨by rw [HN2.out], rfl⟩
          · have h45n : ((x.toNat : Int) == 45) = false := by rw [beq_eq_false_iff_ne]; exact fun e => h45 (UInt8.toNat_inj.1 (by have : (45 : UInt8).toNat = 45 := rfl; omega))
            have h45b : (x == 45) = false := by simpa using h45
            rw [h45b] at hnb
            have HN2 := Lib.hid (show nb = false by rw [hnb]; rfl); clear hnb hd1 h45 h45b
            go_wp2_with fail
            refine (HDG.out _).mono ?_
            rintro e w1 ⟨rfl, rfl⟩
            go_wp2_with fail
            go_meet
            exact ⟨by rw [HN2.out], rfl⟩
        · rw [hd1] at HDG hnb
          have HN2 := Lib.hid (show nb = true by rw [hnb]; rfl); clear hnb hd1
          go_wp2_with fail
          refine (HDG.out _).mono ?_
          rintro e w1 ⟨rfl, rfl⟩
          go_wp2_with fail
          go_meet
          exact ⟨by rw [HN2.out], rfl⟩
      case rest =>
        obtain ⟨rfl, rfl⟩ := hcut
        cases nb
        · have hv := HV.out
          simp only [Bool.false_eq_true, if_false] at hv
          by_cases h34 : x = 34
          · subst h34
            have hfn : (fun c : UInt8 => ((c.toNat : Int) != 34)) = fun c : UInt8 => c != 34 := by
              funext c
              rw [Bool.eq_iff_iff, bne_iff_ne, bne_iff_ne]
              constructor
              · intro h e; exact h (by rw [e]; rfl)
              · intro h e; exact h (UInt8.toNat_inj.1 (by have : (34 : UInt8).toNat = 34 := rfl; omega))
            have hsq := fun w b hc => HSP.out 138 (fun _ _ => by kernel_rfl) (fun c => c != 34) quo_any w b hc
            simp only [hfn] at hsq
            rw [if_pos (by rfl)] at hv
            have hsl : spanS (fun c : UInt8 => c != 34) r ≤ r.length := span_le _ _
            have hdr : ((34 :: r : Bs).drop 1) = r := rfl
            rw [hdr] at hsq
            generalize spanS (fun c : UInt8 => c != 34) r = sp at *
            have HSQ := Lib.hid hsq; clear hsq hfn HSP hdr
            by_cases hsp : 1 + sp = (34 :: r : Bs).length
            · rw [if_pos hsp] at hv
              have hspI : (((1 + sp : Nat) : Int) == ((34 :: r : Bs).length : Int)) = true := by rw [beq_iff_eq, hsp]
              have hsp2 : 1 + sp = r.length + 1 := by simpa using hsp
              have HSI := Lib.hid hspI
              clear hsp hspI
              go_wp2_with fail
              refine (HSQ.out _ _ HC0.out).mono ?_
              rintro e w1 ⟨rfl, rfl⟩
              go_wp2_with fail
              go_ret
              exact ⟨ret_int (by rw [hv]; rfl), boxed⟩
            · rw [if_neg hsp] at hv
              have hsp2 : ¬ (1 + sp = r.length + 1) := by simpa using hsp
              clear hsp
              go_wp2_with fail
              refine (HSQ.out _ _ HC0.out).mono ?_
              rintro e w1 ⟨rfl, rfl⟩
              go_wp2_with fail
              go_ret
              exact ⟨ret_int (by omega), boxed⟩
          · have h34n : ((x.toNat : Int) == 34) = false := by rw [beq_eq_false_iff_ne]; exact fun e => h34 (UInt8.toNat_inj.1 (by have : (34 : UInt8).toNat = 34 := rfl; omega))
            have h34b : (x == 34) = false := by simpa using h34
            rw [h34b] at hv
            simp only [Bool.false_eq_true, if_false] at hv
            have Hf : Hid (v = symS (syms.drop 0) (x :: r)) := hv
            clear hv h34 h34b HSP
            have hlit : Sl ((w.alloc (.cells #[.string ⟨(x :: r).toArray⟩] 9)).alloc (.cells #[.string ⟨#[58, 45]⟩, .string ⟨#[33, 61]⟩, .string ⟨#[60, 61]⟩, .string ⟨#[40]⟩, .string ⟨#[41]⟩, .string ⟨#[44]⟩, .string ⟨#[46]⟩, .string ⟨#[61]⟩, .string ⟨#[60]⟩] 9)) (fun _ => True) (some ⟨w.heap.size + 1, 0, none⟩) 9 9 syms :=
              Sl.lits (xs := syms) (blkAt _ _ (by simp)) trivial (by decide)
            have HL := Lib.hid hlit; clear hlit
            have hc1 := cell_alloc' HC0.out (.cells #[.string ⟨#[58, 45]⟩, .string ⟨#[33, 61]⟩, .string ⟨#[60, 61]⟩, .string ⟨#[40]⟩, .string ⟨#[41]⟩, .string ⟨#[44]⟩, .string ⟨#[46]⟩, .string ⟨#[61]⟩, .string ⟨#[60]⟩] 9)
            go_wp2_with fail
            go_loop [52] (fun i => ∃ k : Nat, k ≤ 9 ∧ i = .int .i64 k ∧ Hid (v = symS (syms.drop k) (x :: r))) (fun i => 9 - (intOf i).toNat)
            case atStart => exact ⟨0, by omega, rfl, Hf⟩
            case round =>
              obtain ⟨k, hk, rfl, hf⟩ := hrel
              by_cases hlt : k < 9
              · have hlt2 : k < syms.length := hlt
                obtain ⟨b9, o9, hA9, -, -, h1⟩ := HL.out.str hlt2
                injection hA9 with hA9
                injection hA9 with hb9 ho9
                subst hb9 ho9
                rw [Nat.zero_add] at h1
                have hd := hf.out
                rw [sym_drop hlt2] at hd
                generalize syms[k] = t at *
                have hpx := fun w => Tryz.strings_HasPrefix ⟨(x :: r).toArray⟩ ⟨t.toArray⟩ w
                simp only [hasP] at hpx
                have hpx2 : ∀ w, Calls Tryz.prog 139 #[.string ⟨(x :: r).toArray⟩, .string ⟨t.toArray⟩] w fun e w' => e = .returned (.bool (t.isPrefixOf (x :: r))) ∧ w' = w := hpx
                clear hpx
                generalize t.isPrefixOf (x :: r) = pf at *
                have HD := Lib.hid hd; have HPX := Lib.hid hpx2; clear hd hpx2 hf
                go_wp2_with fail
                refine (HPX.out _).mono ?_
                rintro e w1 ⟨rfl, rfl⟩
                cases pf
                · go_wp2_with fail
                  go_round
                  case rel => exact ⟨k + 1, by omega, by go_num, HD.out⟩
                  case measure => simp [intOf]; omega
                · go_wp2_with fail
                  go_ret
                  exact ⟨ret_int (by rw [HD.out]; rfl), boxed.alloc (by simp) _⟩
              · have hd := hf.out
                have hk9 : k = 9 := by omega
                subst hk9
                have HD := Lib.hid (show v = 0 from hd); clear hd hf
                go_wp2_with fail
                go_ret
                exact ⟨ret_int (by rw [HD.out]; rfl), boxed.alloc (by simp) _⟩
        · have hv := HV.out
          (try simp only [if_true] at hv)
          go_wp2_with fail
          refine (HSP.out 137 (fun _ _ => by kernel_rfl) digI digit_any _ _ HC0.out).mono ?_
          rintro e w1 ⟨rfl, rfl⟩
          go_wp2_with fail
          go_ret
          exact ⟨ret_int (by rw [hv]; rfl), boxed⟩
    · rw [hw2] at HUP
      rw [hw1, hw2] at hv
      simp only [Bool.or_true, if_true] at hv
      have HV := Lib.hid hv; clear hv hnb hw1 hw2
      go_enter Tryz.func87, Tryz.ntmps87
      go_wp2_with fail
      refine (HLW.out _).mono ?_
      rintro e w1 ⟨rfl, rfl⟩
      go_wp2_with fail
      refine (HUP.out _).mono ?_
      rintro e w1 ⟨rfl, rfl⟩
      go_wp2_with fail
      refine (HSP.out 136 (fun _ _ => by kernel_rfl) varI wrd_any _ _ HC0.out).mono ?_
      rintro e w1 ⟨rfl, rfl⟩
      go_wp2_with fail
      go_ret
      exact ⟨ret_int (by rw [HV.out]; rfl), boxed⟩
  · rw [hw1] at HLW hv
    simp only [Bool.true_or, if_true] at hv
    have HV := Lib.hid hv; clear hv hnb hw1
    go_enter Tryz.func87, Tryz.ntmps87
    go_wp2_with fail
    refine (HLW.out _).mono ?_
    rintro e w1 ⟨rfl, rfl⟩
    go_wp2_with fail
    refine (HSP.out 136 (fun _ _ => by kernel_rfl) varI wrd_any _ _ HC0.out).mono ?_
    rintro e w1 ⟨rfl, rfl⟩
    go_wp2_with fail
    go_ret
    exact ⟨ret_int (by rw [HV.out]; rfl), boxed⟩
end Go.Proofs.YtjopmgoacncmgaaGreatDoor

namespace Go.Proofs.YtjopmgoacncmgaaGreatDoor
open Go.RowKit

theorem trimL_any (s : Bs) (w : World) : Calls Tryz.prog 41 #[.string ⟨s.toArray⟩, .string ⟨#[32]⟩] w fun e w' => e = .returned (.string ⟨(trimS s).toArray⟩) ∧ w' = w := by
  have h := Tryz.strings_TrimLeft_one ⟨s.toArray⟩ 32 (by decide) w
  exact h
theorem symS_le (l : List Bs) (s : Bs) : symS l s ≤ s.length := by
  induction l with
  | nil => exact Nat.zero_le _
  | cons t r ih =>
    rw [symS]
    split
    · rename_i h
      exact (List.isPrefixOf_iff_prefix.1 h).length_le
    · exact ih
theorem lenS_le (x : UInt8) (r : Bs) : lenS (x :: r) ≤ (x :: r).length := by
  unfold lenS
  simp only [List.headD_cons, List.drop_one, List.tail_cons]
  have h1 := span_le varB r
  have h2 := span_le digB r
  have h3 := span_le (fun c => c != 34) r
  split
  · rw [List.length_cons]; omega
  · split
    · rw [List.length_cons]; omega
    · split
      · split
        · omega
        · rw [List.length_cons] at *; omega
      · exact symS_le _ _
def TPost (w : World) (r : List Bs × Bool) (e : Ending) (w' : World) : Prop :=
  ∃ A c, e = .returned (.tuple #[.slice A r.1.length c, .bool r.2]) ∧ Sl w' (fun b => w.heap.size ≤ b) A r.1.length c r.1 ∧ Below w.heap.size w w'

set_option maxRecDepth 100000 in
set_option maxHeartbeats 4000000 in
theorem tokens_any (s : Bs) (w : World) (hl : s.length ≤ 4294967000) :
    Calls Tryz.prog 42 #[.string ⟨s.toArray⟩] w (TPost w (tokensS s)) := by
  obtain ⟨V, hV⟩ : ∃ V, V = tokensS s := ⟨_, rfl⟩
  rw [← hV]
  unfold tokensS at hV
  have HV : Hid (V = tokGo (s.length + 1) (trimS s) []) := hV
  clear hV
  have htl := trim_len s
  go_enter Tryz.func42, Tryz.ntmps42
  go_wp2_with fail
  refine (trimL_any s _).mono ?_
  rintro e w1 ⟨rfl, rfl⟩
  go_wp2_with fail
  have hown0 : Own w1 (fun _ => False) w1.heap.size 9 none 0 ([] : List Bs) := Own.nil _ _ _ _
  go_loopg [0, 4] (s.length + 1) (fun f sv o wx => ∃ (t : Bs) (out : List Bs) (A : Option Addr) (c : Nat), sv = .string ⟨t.toArray⟩ ∧ o = .slice A out.length c ∧ Own wx (fun _ => False) w1.heap.size 9 A c out ∧ Below w1.heap.size w1 wx ∧ t.length < f ∧ t.length + out.length ≤ s.length ∧ Hid (V = tokGo f t out))
  case atStart => exact ⟨trimS s, [], none, 0, rfl, rfl, hown0, Below.refl _ _, by omega, by simpa using htl, HV⟩
  case round =>
    obtain ⟨t, out, A, c, rfl, rfl, hown, hb, hlt, hsum, hf⟩ := hrel
    have hsz := hb.size
    obtain ⟨f, rfl⟩ : ∃ f, gk = f + 1 := ⟨gk - 1, by omega⟩
    have hd := hf.out
    rw [tokGo] at hd
    cases t with
    | nil =>
      have hd : V = (out, true) := hd
      have HD := Lib.hid hd; have HO := Lib.hid hown; have HB := Lib.hid hb; clear hd hown hf hb
      go_wp2_with fail
      refine bodyPost_ret (v := .tuple #[.slice A out.length c, .bool true]) (by simp [results, Tryz.results42, go_sem]) rfl ?_
      rw [HD.out]
      exact ⟨A, c, rfl, (HO.out.sl (by decide)).wide (fun k _ hk => hk.elim False.elim (fun hk => (HO.out.lt k hk).1)) (by decide), HB.out⟩
    | cons x r =>
      have hlen := length_any x r
      have hle := lenS_le x r
      rw [if_neg (by simp)] at hd
      generalize lenS (x :: r) = n at *
      have hlx : (x :: r).length ≤ 4294967000 := by omega
      have hlen := fun w => hlen w hlx
      have HLEN := Lib.hid hlen; have HO := Lib.hid hown; have HB := Lib.hid hb; clear hlen hown hf hb
      by_cases hn : n = 0
      · rw [if_pos hn] at hd
        subst hn
        have HD := Lib.hid hd; clear hd
        go_wp2_with fail
        refine (HLEN.out _).mono ?_
        rintro e w2 ⟨rfl, hb2⟩
        go_wp2_with fail
        refine bodyPost_ret (v := .tuple #[.slice none 0 0, .bool false]) (by simp [results, Tryz.results42, go_sem]) rfl ?_
        rw [HD.out]
        exact ⟨none, 0, rfl, Sl.nil _ _ _ _ (by omega), next HB.out hb2 (Nat.le_refl _)⟩
      · rw [if_neg hn] at hd
        have hnI : ((n : Int) == 0) = false := by rw [beq_eq_false_iff_ne]; omega
        have HD := Lib.hid hd; clear hd
        have htl2 := trim_len ((x :: r).drop n)
        rw [List.length_drop] at htl2
        have hle2 : n ≤ r.length + 1 := hle
        have hlx2 : r.length + 1 ≤ 4294967000 := hlx
        have hsum2 : r.length + 1 + out.length ≤ s.length := hsum
        have hlt2 : r.length + 1 < f + 1 := hlt
        have htl3 : (trimS ((x :: r).drop n)).length ≤ r.length + 1 - n := htl2
        clear hle hlx hsum hlt htl2 hlen
        go_wp2_with fail
        refine (HLEN.out _).mono ?_
        rintro e w2 ⟨rfl, hb2⟩
        have hsz2 := hb2.size
        have HO2 := Lib.hid (HO.out.below hb2); have HB2 := Lib.hid (next HB.out hb2 (Nat.le_refl _)); clear hb2
        go_wp2_with (first | (at_builtin; go_loud (refine wpList_app1 rfl _ _ eltStr rfl (by decide) rfl rfl rfl (HO2.out.alloc _) rfl [.string ⟨((x :: r).take n).toArray⟩] ((x :: r).take n) (blkAt _ _ (by simp)) rfl rfl (by omega) (by omega) (by simp; omega) ?_); intro A' c' w3 hown' hg hat))
        refine (trimL_any ((x :: r).drop n) _).mono ?_
        rintro e w4 ⟨rfl, rfl⟩
        go_wp2_with fail
        have hsz3 := hg.size
        simp at hsz3
        go_roundg f
        case measure => omega
        case rel => exact ⟨trimS ((x :: r).drop n), out ++ [(x :: r).take n], A', c', rfl, by simp, hown', (HB2.out.alloc (by omega) _).grown hg (by simp; omega) (fun k hk => (HO2.out.lt k hk).1), by omega, by simp; omega, HD.out⟩
end Go.Proofs.YtjopmgoacncmgaaGreatDoor
