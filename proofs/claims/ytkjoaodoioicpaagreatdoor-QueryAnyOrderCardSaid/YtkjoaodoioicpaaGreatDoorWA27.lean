/- Query (package licitlaw54): a part of the proofs of its laws; see the law's own text, which comes last in 'order'. No conditions of its own. -/
import Derived.Test.YtkjoaodoioicpaaGreatDoorWA26
set_option linter.unusedVariables false
set_option linter.unusedSimpArgs false
namespace Go.Proofs.YtkjoaodoioicpaaGreatDoor
open Go.RowKit
def MdP (w : World) (V : List Atm × Int × Int) (e : Ending) (w' : World) : Prop :=
  Below w.heap.size w w' ∧ if V.2.2 ≠ 0 then e = .returned (.tuple #[.pointer none, .int .i64 V.2.1, .int .i64 V.2.2])
    else ∃ p F I, e = .returned (.tuple #[.pointer (some ⟨p, 0, none⟩), .int .i64 V.2.1, .int .i64 V.2.2]) ∧ BaseR w' F I p V.1 ∧ (∀ k, F k ∨ I k → w.heap.size ≤ k ∧ k < w'.heap.size) ∧ w.heap.size ≤ p
theorem strata_nil : (strataS []).1 = [] := by decide +kernel
theorem chkF_err : ∀ (facts : List Atm) (m : KMap) (i : Nat), (chkF m facts i).2 = 0 → ∀ a ∈ facts, groundP a = true
  | [], _, _, _ => fun _ h => nomatch h
  | a :: r, m, i, h => by
    rw [chkF] at h
    cases hg : groundP a
    · rw [hg] at h; simp at h
    · rw [hg] at h
      simp only [Bool.not_true, Bool.false_eq_true, if_false] at h
      intro x hx
      rcases List.mem_cons.1 hx with rfl | hx
      · exact hg
      · cases hk : getK m a.name with
        | none => rw [hk] at h; exact chkF_err r _ _ h x hx
        | some n =>
          rw [hk] at h
          simp only at h
          split at h
          · cases h
          · exact chkF_err r _ _ h x hx
theorem checkQ_zero {l : List Rul} {facts : List Atm} (h : (checkQ l facts).2 = 0) : (checkS53 l).2 = 0 ∧ facts.length ≤ 1024 ∧ Gr facts := by
  unfold checkQ at h
  by_cases h1 : (checkS53 l).2 = 0
  · rw [if_neg (by simpa using h1)] at h
    by_cases h2 : 1024 < facts.length
    · rw [if_pos h2] at h; cases h
    · rw [if_neg h2] at h
      exact ⟨h1, by omega, chkF_err facts _ _ h⟩
  · rw [if_pos h1] at h; exact absurd h h1
theorem Sl.lst {α : Type} [GoT α] {w : World} {S : Nat → Prop} {A : Option Addr} {n c k : Nat} {xs : List (List α)} (h : Sl w S A n c xs) (hk : k < xs.length) : ∃ b o, A = some ⟨b, o, none⟩ ∧ S b ∧ b < w.heap.size ∧ ∃ A1 n1 c1, w.cell? ⟨b, o + k, none⟩ = some (.slice A1 n1 c1) ∧ Sl w S A1 n1 c1 xs[k] := by
  have hz : 0 < GoT.size (List α) := Nat.one_pos
  obtain ⟨b, o, hA, hS, hb, g, hc, A1, n1, c1, e, hs, -⟩ := h.plain hz hk
  have c0 := hc 0 hz
  rw [e] at c0
  have e2 : o + (k * GoT.size (List α) + 0) = o + k := by show o + (k * 1 + 0) = o + k; omega
  rw [e2] at c0
  exact ⟨b, o, hA, hS, hb, A1, n1, c1, c0, hs⟩
theorem modGo_cons (most : Nat) (l : List Rul) (names : List Bs) (t : List (List Bs)) (b : List Atm) : modGo most l (names :: t) b = match satGo most (ownS l names) (most + 2) b with
    | none => none
    | some b' => modGo most l t b' := rfl
set_option maxRecDepth 100000 in
set_option maxHeartbeats 16000000 in
theorem modelQ_any (A : Option Addr) (n c : Nat) (l : List Rul) (B : Option Addr) (m d : Nat) (facts : List Atm) (w : World) (S T : Nat → Prop) (hl : Sl w S A n c l) (hf : Sl w T B m d facts) (ho : ∀ r ∈ l, OkR r) (hof : ∀ a ∈ facts, OkT a) (hL : LD w) :
    Calls Tryz.prog 27 #[.slice A n c, .slice B m d] w (MdP w (modelS l facts)) := by
  have hn := hl.len; have hm := hf.len
  subst hn hm
  have hle := hl.le; have hle2 := hf.le
  have hck := checkQ_any A l.length c l B facts.length d facts w S T hl hf ho hof hL
  obtain ⟨V, hV⟩ : ∃ V, V = modelS l facts := ⟨_, rfl⟩
  rw [← hV]
  unfold modelS at hV
  have hz := @checkQ_zero l facts
  by_cases hce : (checkQ l facts).2 = 0
  · obtain ⟨hc, hfl, hgr⟩ := hz hce
    rw [if_neg (by simpa using hce)] at hV
    rw [hce] at hck
    generalize (checkQ l facts).1 = ci at *
    obtain ⟨h64, hrs, -⟩ := (checkS_ok l).1 hc
    have hstr := fun w' (hb' : Below w.heap.size w w') => Strata_any A l.length c l w' S (hl.below hb') ho (hL.below hb')
    have hgv := fun w' (hb' : Below w.heap.size w w') => givenQ_any B facts.length d facts w' T (hf.below hb') hgr (by omega) (hL.below hb')
    have hgl : (givenS facts).length ≤ 1024 := by have := given_len facts; omega
    have hsn : l = [] → (strataS l).1 = [] := fun e => by rw [e]; exact strata_nil
    generalize givenS facts = gf at *
    generalize strataS l = st at *
    obtain ⟨R, ri, re⟩ := st
    simp only at hsn hV hstr
    have HCK := Lib.hid hck; have HSTR := Lib.hid hstr; have HGV := Lib.hid hgv; have HRS := Lib.hid hrs; have HSL := Lib.hid (hl.wide (S' := fun k => k < w.heap.size) (fun k hk _ => hk) (by decide)); have HL := Lib.hid hL; have HSN := Lib.hid hsn
    have HV : Hid (V = match modGo (gf.length + 1024) l (R.drop 0) gf with | none => ([], -1, 10) | some b => (b, -1, 0)) := Lib.hid hV
    clear hck hstr hgv hrs hl hf hL hV hof ho hz hce hc hgr hsn
    go_enter Tryz.func27, Tryz.ntmps27
    go_wp2_with fail
    refine HCK.out.mono ?_
    rintro e w1 ⟨rfl, hb1⟩
    have HB1 := Lib.hid hb1; clear hb1 HCK
    go_wp2_with fail
    refine (HSTR.out w1 HB1.out).mono ?_
    rintro e w2 ⟨A2, c2, rfl, hs2, hb2⟩
    have HB2 := Lib.hid (HB1.out.trans (hb2.mono HB1.out.size)); have HR2 := Lib.hid hs2; clear hb2 hs2 HSTR
    go_wp2_with fail
    refine (HGV.out w2 HB2.out).mono ?_
    rintro e w3 ⟨p, F, I, rfl, hbr, hbd, hp, hb3⟩
    have hr3 := (HR2.out.wide (S' := fun k => w.heap.size ≤ k ∧ k < w2.heap.size) (fun k hk h => ⟨Nat.le_trans HB1.out.size h, hk⟩) (by decide)).below hb3
    have hb23 := hb3
    have hb3' := HB2.out.trans (hb3.mono HB2.out.size)
    obtain ⟨fb, fm, q0, -, hmv, hfll⟩ := hbr.len
    have hlm := hmv.len Tryz.underlying88 3
    have HBR := Lib.hid hbr; have HB3 := Lib.hid hb3'; have HR3 := Lib.hid hr3; have HB23 := Lib.hid hb23; have HBD := Lib.hid hbd
    have hw2 := HB2.out.size
    clear hbr hb3 hb3' hr3 hbd hmv HR2 HGV hb23
    have hRl := HR3.out.le
    go_wp2_with fail
    clear q0 hlm
    obtain ⟨wy, rfl⟩ : ∃ wy, wy = w3 := ⟨_, rfl⟩
    go_loopw [43] (fun i wr => ∃ k : Nat, k ≤ R.length ∧ i = .int .i64 k ∧ Hid (∃ F I b, BaseR wr F I p b ∧ (∀ k, F k ∨ I k → w2.heap.size ≤ k ∧ k < wr.heap.size) ∧ Below w2.heap.size w2 wr ∧ b.length ≤ gf.length + 1024 ∧ V = match modGo (gf.length + 1024) l (R.drop k) b with | none => ([], -1, 10) | some b => (b, -1, 0))) (fun i _ => R.length - (intOf i).toNat)
    case atStart => exact ⟨0, by omega, rfl, Lib.hid ⟨F, I, gf, HBR.out, HBD.out, HB23.out, by omega, HV.out⟩⟩
    case round =>
      obtain ⟨k, hk, rfl, hq⟩ := hrel
      obtain ⟨F1, I1, b, h1, h2, h3, h4, h5⟩ := hq.out
      clear hq
      have hw2r := h3.size
      by_cases hlt : k < R.length
      · have hlpos : 0 < l.length := by
          rcases Nat.eq_zero_or_pos l.length with h0 | h0
          · have := HSN.out (List.eq_nil_of_length_eq_zero h0)
            rw [this] at hlt
            exact absurd hlt (Nat.not_lt_zero _)
          · exact h0
        obtain ⟨ad, hAd, -⟩ := HSL.out.at_ hlpos
        subst hAd
        have hbwr : Below w.heap.size w wr := HB2.out.trans (h3.mono hw2)
        have hR : Sl wr (fun k => w.heap.size ≤ k ∧ k < w2.heap.size) A2 R.length c2 R := HR3.out.keep fun k _ hk => (h3.block k hk.2).trans (HB23.out.block k hk.2).symm
        obtain ⟨b1, o1, rfl, -, hbs1, An, nn, cn, g1, hsn⟩ := hR.lst hlt
        rw [drop_get hlt, modGo_cons] at h5
        generalize R[k] = names at *
        have hbox := blkAt wr (.cells #[.slice An nn cn] 71) rfl
        have hbA : Below wr.heap.size wr (wr.alloc (.cells #[.slice An nn cn] 71)) := boxed
        have hsA : (wr.alloc (.cells #[.slice An nn cn] 71)).heap.size = wr.heap.size + 1 := by simp
        have H1 := Lib.hid h1; have H2 := Lib.hid h2; have H3 := Lib.hid h3; have H5 := Lib.hid h5; have HBWR := Lib.hid hbwr; have HSNm := Lib.hid hsn; have HBOX := Lib.hid hbox; have HBA := Lib.hid hbA; have HSA := Lib.hid hsA
        clear h1 h2 h3 h5 hbwr hR hsn hbox hbA hsA
        go_wp2_with fail
        have hbA := HBA.out; have hbox := HBOX.out; have hsA := HSA.out
        generalize wr.alloc (.cells #[.slice An nn cn] 71) = W4 at *
        clear HBA HBOX HSA
        refine (cloneRulO_any ad l.length c W4 (fun k => k < w.heap.size) l (HSL.out.below (HBWR.out.trans (hbA.mono HBWR.out.size))) (by omega)).mono ?_
        rintro e w5 ⟨g, cap, rfl, hg1, hg2, hcap, hrow, hb5⟩
        have hbox5 := keptBlk hb5 hbox
        have hb5r : Below wr.heap.size wr w5 := hbA.trans (hb5.mono hbA.size)
        have hn5 := HSNm.out.below hb5r
        have hwr := HBWR.out.size
        have hdel := delR_any g cap l w5 (fun k => k < w.heap.size ∧ k < W4.heap.size) (fun k hk => ⟨by omega, by omega⟩) hg2 hrow hcap 59 #[.pointer (some ⟨wr.heap.size, 0, none⟩)] (fun _ _ => by kernel_rfl) (fun x => !names.contains x.head.name) (fun x hx w6 hg6 S6 v hv => by
          obtain ⟨B1, m1, d1, B2, m2, d2, rfl, -, -⟩ := hv
          exact mod1_any names x wr.heap.size An nn cn B1 m1 d1 B2 m2 d2 w6 _ (grownBlk hg6 hbox5 (fun e => by injection e with e; omega)) (hn5.keep fun k hk h => hg6.block k hk (fun e => by injection e with e; have := h.2; omega)))
        have hown : (l.filter fun x => !!names.contains x.head.name) = ownS l names := by unfold ownS; simp
        rw [hown] at hdel
        have HDEL := Lib.hid hdel; have HB5 := Lib.hid hb5r; have HZ := Lib.hid (And.intro hsA (And.intro hg1 hg2))
        clear hdel hbox hbox5 hb5 hb5r hn5 hrow hown hbA hsA hg1 hg2
        go_wp2_with fail
        refine HDEL.out.mono ?_
        rintro e w6 ⟨m6, c6, rfl, hs6, hgr6⟩
        obtain ⟨hsA, hg1, hg2⟩ := HZ.out
        have hz6 := hgr6.size
        have hb6 : Below wr.heap.size wr w6 := HB5.out.grown hgr6 HB5.out.size (fun k hk => by injection hk with hk; omega)
        have hbw6 := HBWR.out.trans (hb6.mono hwr)
        have hsat := satQ_any w HL.out F1 I1 p b (some ⟨g, 0, none⟩) m6 c6 (ownS l names) (gf.length + 1024) w6 _ (H1.out.below hb6) (fun k hk => Nat.lt_of_lt_of_le (H2.out k hk).2 hb6.size) hbw6 (fun k hk => by have := (H2.out k (.inl hk)).1; omega) hs6 (fun k hk => by
          rcases hk with hk | hk
          · exact ⟨fun h => by have := (H2.out k (.inl h)).1; have := hk.1; omega, by have := hk.1; omega⟩
          · exact ⟨fun h => by have := (H2.out k (.inl h)).2; omega, by omega⟩) (fun r hr => HRS.out r ((mem_own.1 hr).1)) (by omega) h4
        simp only [Int.natCast_add, Int.cast_ofNat_Int] at hsat
        have HSAT := Lib.hid hsat; have HB6 := Lib.hid hb6
        have HBW6 := Lib.hid hbw6
        clear hsat hs6 hgr6 hb6 hbw6 HDEL HZ
        go_wp2_with fail
        refine HSAT.out.mono ?_
        rintro e w7 ⟨F7, I7, hgw, hsp⟩
        have hbw7 : Below w.heap.size w w7 := HBW6.out.trans (hgw.frm.below HBW6.out.size fun i hi hF => by have := (H2.out i (.inl hF)).1; omega)
        have hb27 : Below w2.heap.size w2 w7 := (H3.out.trans (HB6.out.mono H3.out.size)).trans (hgw.frm.below (by have := HB6.out.size; omega) fun i hi hF => by have := (H2.out i (.inl hF)).1; omega)
        have h5 := H5.out
        have hsl := satGo_le (gf.length + 1024) (ownS l names) (gf.length + 1024 + 2) b
        unfold SatP at hsp
        cases hsg : satGo (gf.length + 1024) (ownS l names) (gf.length + 1024 + 2) b with
        | none =>
          rw [hsg] at hsp h5
          simp only at hsp h5
          subst hsp
          have HV5 := Lib.hid h5; have HB7 := Lib.hid hbw7
          clear h5 hbw7 hb27 hgw hsl hsg
          go_wp2_with fail
          refine bodyPost_ret (v := .tuple #[.pointer none, .int .i64 (-1), .int .i64 10]) (by simp [results, Tryz.results27, go_sem]) rfl ?_
          rw [HV5.out]
          exact ⟨HB7.out, by rw [if_pos (by decide)]⟩
        | some b' =>
          rw [hsg] at hsp h5
          simp only at hsp h5
          obtain ⟨rfl, hbr7⟩ := hsp
          have hbl := hsl b' hsg h4
          have hw6w := HB6.out.size
          have HQ := Lib.hid (show ∃ F I b, BaseR w7 F I p b ∧ (∀ k, F k ∨ I k → w2.heap.size ≤ k ∧ k < w7.heap.size) ∧ Below w2.heap.size w2 w7 ∧ b.length ≤ gf.length + 1024 ∧ V = match modGo (gf.length + 1024) l (R.drop (k + 1)) b with | none => ([], -1, 10) | some b => (b, -1, 0) from
            ⟨F7, I7, b', hbr7, fun k hk => ⟨by
              rcases hk with hk | hk
              · rcases hgw.f2 k hk with h | h
                · exact (H2.out k (.inl h)).1
                · omega
              · rcases hgw.i2 k hk with h | h
                · exact (H2.out k (.inr h)).1
                · omega, hgw.b k hk⟩, hb27, hbl, h5⟩)
          clear h5 hbw7 hb27 hgw hsl hsg hbr7
          go_wp2_with fail
          go_roundw
          case rel => exact ⟨k + 1, by omega, by go_num, HQ⟩
          case measure => simp [intOf]; omega
      · have hke : k = R.length := by omega
        subst hke
        rw [List.drop_length, modGo] at h5
        simp only at h5
        have H1 := Lib.hid h1; have H2 := Lib.hid h2; have H3 := Lib.hid h3; have HV5 := Lib.hid h5
        clear h1 h2 h3 h5
        go_wp2_with fail
        refine bodyPost_ret (v := .tuple #[.pointer (some ⟨p, 0, none⟩), .int .i64 (-1), .int .i64 0]) (by simp [results, Tryz.results27, go_sem]) rfl ?_
        rw [HV5.out]
        refine ⟨HB2.out.trans (H3.out.mono hw2), ?_⟩
        rw [if_neg (by simp)]
        exact ⟨p, F1, I1, rfl, H1.out, fun k hk => ⟨by have := (H2.out k hk).1; omega, (H2.out k hk).2⟩, by omega⟩
  · rw [if_pos (by simpa using hce)] at hV
    have hcb : ((checkQ l facts).2 == 0) = false := by simpa using hce
    have HV := Lib.hid hV; have HCE := Lib.hid hce
    clear hV hce hz
    generalize checkQ l facts = ck at *
    obtain ⟨ci, ce⟩ := ck
    simp only at hck hcb
    have HCK := Lib.hid hck; clear hck hl hf hL ho hof
    go_enter Tryz.func27, Tryz.ntmps27
    go_wp2_with fail
    refine HCK.out.mono ?_
    rintro e w1 ⟨rfl, hb1⟩
    go_wp2_with fail
    refine bodyPost_ret (v := .tuple #[.pointer none, .int .i64 ci, .int .i64 ce]) (by simp [results, Tryz.results27, go_sem]) rfl ?_
    rw [HV.out]
    refine ⟨hb1, ?_⟩
    rw [if_pos HCE.out]
end Go.Proofs.YtkjoaodoioicpaaGreatDoor
namespace Go.Proofs.YtkjoaodoioicpaaGreatDoor
open Go.RowKit
theorem model_len {l : List Rul} {facts : List Atm} (h : (modelS l facts).2.2 = 0) : (modelS l facts).1.length ≤ 2048 := by
  have hm := modelS_ok h
  obtain ⟨h1, h2⟩ := hm
  have hg : (givenS facts).length ≤ 1024 := by have := given_len facts; have := (checkQ_zero h1).2.1; omega
  have hgo : ∀ (R : List (List Bs)) (b b' : List Atm), modGo ((givenS facts).length + 1024) l R b = some b' → b.length ≤ (givenS facts).length + 1024 → b'.length ≤ (givenS facts).length + 1024 := by
    intro R
    induction R with
    | nil => intro b b' h hb; rw [modGo] at h; injection h with h; rw [← h]; exact hb
    | cons names t ih =>
      intro b b' h hb
      rw [modGo_cons] at h
      cases hs : satGo ((givenS facts).length + 1024) (ownS l names) ((givenS facts).length + 1024 + 2) b with
      | none => rw [hs] at h; cases h
      | some q =>
        rw [hs] at h
        exact ih q b' h (satGo_le _ _ _ _ _ hs hb)
  have := hgo _ _ _ h2 (by omega)
  omega
def EvP (w : World) (V : List Atm × Int × Int) (e : Ending) (w' : World) : Prop :=
  ∃ A n c, e = .returned (.tuple #[.slice A n c, .int .i64 V.2.1, .int .i64 V.2.2]) ∧ Sl w' (fun k => w.heap.size ≤ k) A n c V.1 ∧ Below w.heap.size w w'
set_option maxHeartbeats 4000000 in
theorem EvalQ_any (A : Option Addr) (n c : Nat) (l : List Rul) (B : Option Addr) (m d : Nat) (facts : List Atm) (w : World) (S T : Nat → Prop) (hl : Sl w S A n c l) (hf : Sl w T B m d facts) (ho : ∀ r ∈ l, OkR r) (hof : ∀ a ∈ facts, OkT a) (hL : LD w) :
    Calls Tryz.prog 11 #[.slice A n c, .slice B m d] w (EvP w (evalS l facts)) := by
  have hmd := modelQ_any A n c l B m d facts w S T hl hf ho hof hL
  obtain ⟨V, hV⟩ : ∃ V, V = evalS l facts := ⟨_, rfl⟩
  rw [← hV]
  unfold evalS at hV
  have hlen := @model_len l facts
  generalize modelS l facts = M at *
  obtain ⟨mb, mi, me⟩ := M
  simp only at hV hlen
  by_cases he : me = 0
  · rw [if_neg (by simpa using he)] at hV
    have hl2 := hlen he
    subst he
    have HMD := Lib.hid hmd; have HV := Lib.hid hV; clear hmd hV hl hf ho hof hL hlen
    go_enter Tryz.func11, Tryz.ntmps11
    go_wp2_with fail
    refine HMD.out.mono ?_
    rintro e w1 ⟨hb1, h1⟩
    rw [if_neg (by simp)] at h1
    obtain ⟨p, F, I, rfl, hbr, hbd, hp⟩ := h1
    have hso := sortedQ_any F I p mb w1 hbr (by omega)
    have HSO := Lib.hid hso; have HB1 := Lib.hid hb1
    clear hso hbr hbd hb1
    go_wp2_with fail
    refine HSO.out.mono ?_
    rintro e w2 ⟨A2, n2, c2, rfl, hs2, hb2⟩
    have HS2 := Lib.hid hs2; have HB2 := Lib.hid (HB1.out.trans (hb2.mono HB1.out.size)); clear hs2 hb2
    go_wp2_with fail
    refine bodyPost_ret (v := .tuple #[.slice A2 n2 c2, .int .i64 (-1), .int .i64 0]) (by simp [results, Tryz.results11, go_sem]) rfl ?_
    rw [HV.out]
    exact ⟨A2, n2, c2, rfl, HS2.out.wide (fun k _ hk => Nat.le_trans HB1.out.size hk) (by decide), HB2.out⟩
  · rw [if_pos (by simpa using he)] at hV
    have heb : (me == 0) = false := by simpa using he
    have HMD := Lib.hid hmd; have HV := Lib.hid hV; have HE := Lib.hid he; clear hmd hV hl hf ho hof hL hlen he
    go_enter Tryz.func11, Tryz.ntmps11
    go_wp2_with fail
    refine HMD.out.mono ?_
    rintro e w1 ⟨hb1, h1⟩
    rw [if_pos HE.out] at h1
    simp only at h1
    subst h1
    have HB1 := Lib.hid hb1; clear hb1
    go_wp2_with fail
    refine bodyPost_ret (v := .tuple #[.slice none 0 0, .int .i64 mi, .int .i64 me]) (by simp [results, Tryz.results11, go_sem]) rfl ?_
    rw [HV.out]
    exact ⟨none, 0, 0, rfl, Sl.nil _ _ _ _ (by decide), HB1.out⟩
end Go.Proofs.YtkjoaodoioicpaaGreatDoor
