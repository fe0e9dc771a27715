/- Rules: Parse. -/
import Derived.Test.YtjopmgoacncmgaaGreatDoorKP6
import Derived.Test.YtjopmgoacncmgaaGreatDoorKT2
set_option linter.unusedVariables false
set_option linter.unusedSimpArgs false
namespace Go.Proofs.YtjopmgoacncmgaaGreatDoor
open Go.RowKit

theorem len_quote (r : Bs) (h : lenS (34 :: r) ≠ 0) : 2 ≤ lenS (34 :: r) := by
  have h0 : lenS (34 :: r) = if 1 + spanS (fun c => c != 34) r = (34 :: r : Bs).length then 0 else 1 + spanS (fun c => c != 34) r + 1 := by
    unfold lenS
    simp only [List.headD_cons, List.drop_one, List.tail_cons]
    rw [if_neg (by decide), if_neg (by intro h; simp [show digB 34 = false by decide, show ((34 : UInt8) == 45) = false by decide] at h), if_pos (by decide)]
  rw [h0] at h ⊢
  split at h
  · exact absurd rfl h
  · rename_i hn
    rw [if_neg hn]
    omega
theorem tokGo_ok (f : Nat) : ∀ (s : Bs) (out : List Bs), s.length ≤ 4294967000 → (∀ t ∈ out, TokOk t) → (∀ t ∈ (tokGo f s out).1, TokOk t) ∧ (tokGo f s out).1.length ≤ out.length + s.length := by
  induction f with
  | zero => intro s out hs ho; exact ⟨ho, Nat.le_add_right _ _⟩
  | succ f ih =>
    intro s out hs ho
    rw [tokGo]
    cases s with
    | nil => exact ⟨ho, Nat.le_refl _⟩
    | cons x r =>
      rw [if_neg (by simp)]
      by_cases hn : lenS (x :: r) = 0
      · rw [if_pos hn]
        exact ⟨fun t ht => (by cases ht), Nat.zero_le _⟩
      · rw [if_neg hn]
        have hle := lenS_le x r
        have htl := trim_len ((x :: r).drop (lenS (x :: r)))
        rw [List.length_drop] at htl
        have hok : TokOk ((x :: r).take (lenS (x :: r))) := by
          constructor
          · rw [List.length_take]; omega
          · intro h
            have hx : x = 34 := by
              obtain ⟨m, hm⟩ : ∃ m, lenS (x :: r) = m + 1 := ⟨lenS (x :: r) - 1, by omega⟩
              rw [hm] at h
              exact h
            subst hx
            have := len_quote r hn
            rw [List.length_take]; omega
        have h := ih (trimS ((x :: r).drop (lenS (x :: r)))) (out ++ [(x :: r).take (lenS (x :: r))]) (by omega) (fun t ht => by
          rcases List.mem_append.1 ht with ht | ht
          · exact ho t ht
          · rw [List.mem_singleton.1 ht]; exact hok)
        refine ⟨h.1, ?_⟩
        have h2 := h.2
        rw [List.length_append] at h2
        simp only [List.length_cons, List.length_nil] at h2 htl hle ⊢
        omega
theorem tokens_ok (s : Bs) (hs : s.length ≤ 4294967000) : (∀ t ∈ (tokensS s).1, TokOk t) ∧ (tokensS s).1.length ≤ s.length := by
  unfold tokensS
  have h1 := trim_len s
  have h := tokGo_ok (s.length + 1) (trimS s) [] (by omega) (fun t ht => by cases ht)
  refine ⟨h.1, ?_⟩
  have h2 := h.2
  simp only [List.length_nil] at h2
  omega
theorem split_lens (s : Bs) : ∀ cur, (∀ t ∈ splitGo cur s, t.length ≤ cur.length + s.length) ∧ (splitGo cur s).length ≤ s.length + 1 := by
  induction s with
  | nil => intro cur; exact ⟨fun t ht => by rw [splitGo] at ht; rw [List.mem_singleton.1 ht]; exact Nat.le_refl _, Nat.le_refl _⟩
  | cons c r ih =>
    intro cur
    rw [splitGo]
    split
    · have h := ih []
      refine ⟨fun t ht => ?_, ?_⟩
      · rcases List.mem_cons.1 ht with rfl | ht
        · exact Nat.le_add_right _ _
        · have := h.1 t ht
          simp only [List.length_nil, List.length_cons] at this ⊢
          omega
      · simp only [List.length_cons]; have := h.2; omega
    · have h := ih (cur ++ [c])
      refine ⟨fun t ht => ?_, ?_⟩
      · have := h.1 t ht
        simp only [List.length_append, List.length_cons, List.length_nil] at this ⊢
        omega
      · simp only [List.length_cons]; have := h.2; omega
def PaPost (w : World) (r : List Rul × Int × Int) (e : Ending) (w' : World) : Prop :=
  ∃ A c, e = .returned (.tuple #[.slice A r.1.length c, .int .i64 r.2.1, .int .i64 r.2.2]) ∧ Sl w' (fun b => w.heap.size ≤ b) A r.1.length c r.1 ∧ Below w.heap.size w w' ∧ ∀ x ∈ r.1, OkR x
theorem split_any (s : Bs) (w : World) (hL : LD w) (hs : s.length ≤ 4294967000) :
    Calls Tryz.prog 40 #[.string ⟨s.toArray⟩, .string ⟨#[10]⟩] w fun e w' => ∃ A c, e = .returned (.slice A (splitS s).length c) ∧ Sl w' (fun b => w.heap.size ≤ b) A (splitS s).length c (splitS s) ∧ Below w.heap.size w w' := by
  obtain ⟨m, hm⟩ := hL.mxl
  refine (Tryz.strings_Split ⟨s.toArray⟩ ⟨#[10]⟩ m w (by simp [ByteArray.size]; omega) hm (by decide)).mono ?_
  rintro e w' ⟨rfl, rfl⟩
  rw [splitB_len, splitB_vals]
  refine ⟨_, _, rfl, Sl.lits (xs := splitS s) (blkAt w _ rfl) (Nat.le_refl _) ?_, boxed⟩
  have := (split_lens s []).2
  unfold splitS
  omega
/-- A parser over the tokens of a line, in a new block. -/
theorem PW.new {w : World} {A : Option Addr} {c : Nat} {l : List Bs} (hL : LD w) (hs : Sl w (fun _ => True) A l.length c l) (ht : ∀ t ∈ l, TokOk t) : PW (w.alloc (.cells #[.slice A l.length c, .bool false] 71)) w.heap.size (l, false) :=
  ⟨A, c, blkAt w _ rfl, (hs.wide (S' := fun k => k < w.heap.size) (fun k hk _ => hk) (by decide)).alloc _, hL.lg, hL.alloc _, ht⟩

set_option maxRecDepth 100000 in
set_option maxHeartbeats 4000000 in
theorem Parse_any (s : Bs) (w : World) (hL : LD w) (hl : s.length ≤ 9223372036854775807) :
    Calls Tryz.prog 13 #[.string ⟨s.toArray⟩] w (PaPost w (parseS s)) := by
  obtain ⟨V, hV⟩ : ∃ V, V = parseS s := ⟨_, rfl⟩
  rw [← hV]
  unfold parseS at hV
  by_cases h64 : 65536 < s.length
  · rw [if_pos h64] at hV
    have HV := Lib.hid hV; clear hV hL
    have h64I : (65536 : Int) < (s.length : Int) := by omega
    go_enter Tryz.func13, Tryz.ntmps13
    go_wp2_with fail
    refine bodyPost_ret (v := .tuple #[.slice none 0 0, .int .i64 0, .int .i64 10]) (by simp [results, Tryz.results13, go_sem]) rfl ?_
    rw [HV.out]
    exact ⟨none, 0, rfl, Sl.nil _ _ _ _ (by omega), Below.refl _ _, fun x hx => by cases hx⟩
  · rw [if_neg h64] at hV
    have hsp := split_any s w hL (by omega)
    have hll := (split_lens s []).1
    have hln := (split_lens s []).2
    have e0 : splitGo [] s = splitS s := rfl
    rw [e0] at hll hln
    generalize splitS s = lines at *
    have HV := Lib.hid hV; have HSP := Lib.hid hsp; have HLL := Lib.hid hll; have HLD := Lib.hid hL; clear hV hsp hll hL e0
    have h64I : ¬ (65536 : Int) < (s.length : Int) := by omega
    go_enter Tryz.func13, Tryz.ntmps13
    go_wp2_with fail
    refine HSP.out.mono ?_
    rintro e w1 ⟨A1, c1, rfl, hs1, hb1⟩
    have HLD1 := Lib.hid (HLD.out.below hb1); have HS1 := Lib.hid (hs1.wide (S' := fun b => b < w1.heap.size) (fun k hk _ => hk) (by decide)); have HB1 := Lib.hid hb1; clear hs1 hb1
    go_wp2_with fail
    have hown0 : Own w1 (fun b => w1.heap.size ≤ b) w1.heap.size 48 none 0 ([] : List Rul) := Own.nil _ _ _ _
    have Hf : Hid (V = parseGo (lines.drop 0) 0 []) := HV
    go_loopw [5, 20] (fun o i wx => ∃ k : Nat, k ≤ lines.length ∧ i = .int .i64 k ∧ ∃ (out : List Rul) (A : Option Addr) (c : Nat), o = .slice A out.length c ∧ Own wx (fun b => w1.heap.size ≤ b) w1.heap.size 48 A c out ∧ Below w1.heap.size w1 wx ∧ out.length ≤ 64 ∧ Hid (∀ x ∈ out, OkR x) ∧ Hid (V = parseGo (lines.drop k) k out)) (fun _ i _ => lines.length - (intOf i).toNat)
    case atStart => exact ⟨0, by omega, rfl, [], none, 0, rfl, hown0, Below.refl _ _, by simp, fun x hx => (by cases hx), Hf⟩
    case round =>
      obtain ⟨k, hk, rfl, out, A, c, rfl, hown, hb, hol, hok, hf⟩ := hrel
      have hsz := hb.size
      by_cases hlt : k < lines.length
      · obtain ⟨b, o, rfl, -, hbs, h1⟩ := (HS1.out.keep (fun z hz hs => hb.block z hs)).str hlt
        have hd := hf.out
        rw [drop_get hlt, parseGo] at hd
        have hlx := HLL.out _ (List.getElem_mem hlt)
        simp only [List.length_nil, Nat.zero_add] at hlx
        generalize lines[k] = line at *
        have htr := fun w => trimL_any line w
        have HO := Lib.hid hown; have HB := Lib.hid hb; have HTR := Lib.hid htr; have HOK := hok
        clear hown hb htr hf hok
        obtain ⟨tl, htl⟩ : ∃ tl, tl = trimS line := ⟨_, rfl⟩
        rw [← htl] at HTR hd
        clear htl
        cases tl with
        | nil =>
          simp only [List.isEmpty_nil, Bool.true_or, if_true] at hd
          have HD := Lib.hid hd; clear hd
          go_wp2_with fail
          refine (HTR.out _).mono ?_
          rintro e w2 ⟨rfl, rfl⟩
          go_wp2_with fail
          go_roundw
          case rel => exact ⟨k + 1, by omega, by go_num, out, A, c, rfl, HO.out, HB.out, hol, HOK, HD.out⟩
          case measure => simp [intOf]; omega
        | cons x r =>
          by_cases h37 : x = 37
          · subst h37
            rw [if_pos (by rfl)] at hd
            have HD := Lib.hid hd; clear hd
            go_wp2_with fail
            refine (HTR.out _).mono ?_
            rintro e w2 ⟨rfl, rfl⟩
            go_wp2_with fail
            go_roundw
            case rel => exact ⟨k + 1, by omega, by go_num, out, A, c, rfl, HO.out, HB.out, hol, HOK, HD.out⟩
            case measure => simp [intOf]; omega
          · have h37b : ((x :: r : Bs).isEmpty || (x :: r : Bs).headD 0 == 37) = false := by simpa using h37
            have h37n : ((x.toNat : Int) == 37) = false := by rw [beq_eq_false_iff_ne]; exact fun e => h37 (UInt8.toNat_inj.1 (by have : (37 : UInt8).toNat = 37 := rfl; omega))
            rw [h37b] at hd
            simp only [Bool.false_eq_true, if_false] at hd
            have htk := fun w => tokens_any line w (by omega)
            have hto := tokens_ok line (by omega)
            generalize tokensS line = tk at *
            obtain ⟨toks, tok⟩ := tk
            simp only at hto hd
            have hru := fun g w h => rule_any g (toks, false) w h (by simp only; omega)
            generalize ruleP (toks, false) = rp at *
            obtain ⟨rr, rok⟩ := rp
            simp only at hd
            have HD := Lib.hid hd; have HTK := Lib.hid htk; have HTO := Lib.hid hto.1; have HRU := Lib.hid hru
            clear hd htk hto hru h37 h37b
            go_wp2_with fail
            refine (HTR.out _).mono ?_
            rintro e w2 ⟨rfl, rfl⟩
            go_wp2_with fail
            refine (HTK.out _).mono ?_
            rintro e w2 ⟨At, ct, rfl, hst, hbt⟩
            have hb2 := next HB.out hbt (Nat.le_refl _)
            have hpw := PW.new (HLD1.out.below hb2) (hst.any) HTO.out
            have HO2 := Lib.hid (HO.out.below hbt); have HB2 := Lib.hid hb2; have HPW := Lib.hid hpw
            simp only at hst
            clear hst hbt hb2 hpw
            go_wp2_with fail
            refine (HRU.out _ _ HPW.out).mono ?_
            rintro e w3 ⟨⟨B1, m1, d1, B2, m2, d2, rfl, hq1, hq2⟩, hf3, hokr⟩
            have hb3 : Below w2.heap.size w2 w3 := boxed.trans (hf3.below (by simp) (fun i hi e => by have : i = w2.heap.size := e; omega))
            have HO3 := Lib.hid (HO2.out.below hb3); have HB3 := Lib.hid (next HB2.out hb3 (Nat.le_refl _))
            have HQ1 := Lib.hid hq1; have HQ2 := Lib.hid hq2; have HOKR := Lib.hid hokr
            have hs23 := hb3.size
            have hs12 := HB2.out.size
            clear hf3 hb3 hq1 hq2 hokr
            cases tok
            · go_wp2_with fail
              refine bodyPost_ret (v := .tuple #[.slice none 0 0, .int .i64 ((k : Int) + 1), .int .i64 4]) (by simp [results, Tryz.results13, go_sem]) rfl ?_
              have hd := HD.out
              rw [if_pos (by rfl)] at hd
              rw [hd]
              exact ⟨none, 0, rfl, Sl.nil _ _ _ _ (by omega), (next HB1.out HB3.out (Nat.le_refl _)).alloc (by have := HB1.out.size; have := HB3.out.size; omega) _, fun x hx => by cases hx⟩
            · cases rok
              · go_wp2_with fail
                refine bodyPost_ret (v := .tuple #[.slice none 0 0, .int .i64 ((k : Int) + 1), .int .i64 4]) (by simp [results, Tryz.results13, go_sem]) rfl ?_
                have hd := HD.out
                rw [if_pos (by rfl)] at hd
                rw [hd]
                exact ⟨none, 0, rfl, Sl.nil _ _ _ _ (by omega), (next HB1.out HB3.out (Nat.le_refl _)).alloc (by have := HB1.out.size; have := HB3.out.size; omega) _, fun x hx => by cases hx⟩
              · by_cases h64o : out.length = 64
                · have h64b : ((out.length : Int) == 64) = true := by rw [beq_iff_eq]; omega
                  have H64 := Lib.hid h64o; clear h64o
                  go_wp2_with fail
                  refine bodyPost_ret (v := .tuple #[.slice none 0 0, .int .i64 ((k : Int) + 1), .int .i64 10]) (by simp [results, Tryz.results13, go_sem]) rfl ?_
                  have hd := HD.out
                  rw [if_neg (by simp), if_pos H64.out] at hd
                  rw [hd]
                  exact ⟨none, 0, rfl, Sl.nil _ _ _ _ (by omega), (next HB1.out HB3.out (Nat.le_refl _)).alloc (by have := HB1.out.size; have := HB3.out.size; omega) _, fun x hx => by cases hx⟩
                · have h64b : ((out.length : Int) == 64) = false := by rw [beq_eq_false_iff_ne]; omega
                  have hwid : ∀ {α : Type} [GoT α] (B : Option Addr) (m d : Nat) (l : List α) (h0 : 0 < GoT.size α) (X Y : Obj), Sl w3 (fun b => (w2.alloc (.cells #[.slice At toks.length ct, .bool false] 71)).heap.size ≤ b) B m d l → Sl ((w3.alloc X).alloc Y) (fun b => w1.heap.size ≤ b ∧ A.map Addr.block ≠ some b) B m d l := fun B m d l h0 X Y h => ((h.alloc _).alloc _).wide (fun q _ hq => by
                    have hq' : w2.heap.size + 1 ≤ q := by simpa using hq
                    exact ⟨by omega, fun e => by have h1 := (HO2.out.lt q e).2; omega⟩) h0
                  have HW1 := Lib.hid (fun X Y => hwid B1 m1 d1 _ (by decide) X Y HQ1.out); have HW2 := Lib.hid (fun X Y => hwid B2 m2 d2 _ (by decide) X Y HQ2.out); clear hwid
                  go_wp2_with (first | (at_builtin; go_loud (refine wpList_app1 rfl _ _ eltRul rfl (by decide) rfl rfl rfl ((HO3.out.alloc _).alloc _) rfl [.string ⟨rr.head.name.toArray⟩, .slice B1 m1 d1, .slice B2 m2 d2] rr (blkAt _ _ (by simp)) rfl ⟨rfl, ⟨B1, m1, d1, rfl, HW1.out _ _⟩, B2, m2, d2, rfl, HW2.out _ _⟩ (by omega) (by omega) (by simp; omega) ?_); intro A' c' w5 hown' hg hat))
                  have hsz5 := hg.size
                  simp at hsz5
                  refine ⟨⟨k + 1, by omega, by go_num, out ++ [rr], A', c', by simp, hown', ((HB3.out.alloc (by omega) _).alloc (by simp; omega) _).grown hg (by simp; omega) (fun z hz => (HO3.out.lt z hz).1), by simp; omega, ?_, ?_⟩, by simp [intOf]; omega⟩
                  · show ∀ x ∈ out ++ [rr], OkR x
                    intro x hx
                    rcases List.mem_append.1 hx with hx | hx
                    · exact HOK.out x hx
                    · rw [List.mem_singleton.1 hx]; exact HOKR.out
                  · have hd := HD.out
                    rw [if_neg (by simp), if_neg h64o] at hd
                    exact hd
      · have hd := hf.out
        rw [drop_end hlt] at hd
        have hd : V = (out, 0, 0) := hd
        have HD := Lib.hid hd; have HO := Lib.hid hown; have HB := Lib.hid hb; clear hd hown hb hf
        go_wp2_with fail
        refine bodyPost_ret (v := .tuple #[.slice A out.length c, .int .i64 0, .int .i64 0]) (by simp [results, Tryz.results13, go_sem]) rfl ?_
        rw [HD.out]
        exact ⟨A, c, rfl, (HO.out.sl (by decide)).wide (fun k _ hk => by have := HB1.out.size; rcases hk with hk | hk; omega; have := (HO.out.lt k hk).1; omega) (by decide), next HB1.out HB.out (Nat.le_refl _), hok.out⟩
end Go.Proofs.YtjopmgoacncmgaaGreatDoor
