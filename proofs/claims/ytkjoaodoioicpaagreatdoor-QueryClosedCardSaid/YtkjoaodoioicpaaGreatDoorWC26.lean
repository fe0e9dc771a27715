/- Query (package licitlaw54): a part of the proofs of its laws; see the law's own text, which comes last in 'order'. No conditions of its own. -/
import Derived.Test.YtkjoaodoioicpaaGreatDoorWC03
import Derived.Test.YtkjoaodoioicpaaGreatDoorWC25
set_option linter.unusedVariables false
set_option linter.unusedSimpArgs false
namespace Go.Proofs.YtkjoaodoioicpaaGreatDoor
open Go.RowKit
def MdP (w : World) (V : List Atm × Int × Int) (e : Ending) (w' : World) : Prop :=
  Below w.heap.size w w' ∧ if V.2.2 ≠ 0 then e = .returned (.tuple #[.pointer none, .int .i64 V.2.1, .int .i64 V.2.2])
    else ∃ p F I, e = .returned (.tuple #[.pointer (some ⟨p, 0, none⟩), .int .i64 V.2.1, .int .i64 V.2.2]) ∧ BaseR w' F I p V.1 ∧ (∀ k, F k ∨ I k → w.heap.size ≤ k ∧ k < w'.heap.size) ∧ w.heap.size ≤ p
theorem strata_nil : (strataS []).1 = [] := by decide +kernel
theorem chkF_err : ∀ (facts : List Atm) (m : KMap) (i : Nat), (chkF m facts i).2 = 0 → ∀ a ∈ facts, groundP a = true
  | [], _, _, _ => fun _ h => nomatch h
  | a :: r, m, i, h => by
    rw [chkF] at h
    cases hg : groundP a
    · rw [hg] at h; simp at h
    · rw [hg] at h
      simp only [Bool.not_true, Bool.false_eq_true, if_false] at h
      intro x hx
      rcases List.mem_cons.1 hx with rfl | hx
      · exact hg
      · cases hk : getK m a.name with
        | none => rw [hk] at h; exact chkF_err r _ _ h x hx
        | some n =>
          rw [hk] at h
          simp only at h
          split at h
          · cases h
          · exact chkF_err r _ _ h x hx
theorem checkQ_zero {l : List Rul} {facts : List Atm} (h : (checkQ l facts).2 = 0) : (checkS53 l).2 = 0 ∧ facts.length ≤ 1024 ∧ Gr facts := by
  unfold checkQ at h
  by_cases h1 : (checkS53 l).2 = 0
  · rw [if_neg (by simpa using h1)] at h
    by_cases h2 : 1024 < facts.length
    · rw [if_pos h2] at h; cases h
    · rw [if_neg h2] at h
      exact ⟨h1, by omega, chkF_err facts _ _ h⟩
  · rw [if_pos h1] at h; exact absurd h h1
theorem Sl.lst {α : Type} [GoT α] {w : World} {S : Nat → Prop} {A : Option Addr} {n c k : Nat} {xs : List (List α)} (h : Sl w S A n c xs) (hk : k < xs.length) : ∃ b o, A = some ⟨b, o, none⟩ ∧ S b ∧ b < w.heap.size ∧ ∃ A1 n1 c1, w.cell? ⟨b, o + k, none⟩ = some (.slice A1 n1 c1) ∧ Sl w S A1 n1 c1 xs[k] := by
  have hz : 0 < GoT.size (List α) := Nat.one_pos
  obtain ⟨b, o, hA, hS, hb, g, hc, A1, n1, c1, e, hs, -⟩ := h.plain hz hk
  have c0 := hc 0 hz
  rw [e] at c0
  have e2 : o + (k * GoT.size (List α) + 0) = o + k := by show o + (k * 1 + 0) = o + k; omega
  rw [e2] at c0
  exact ⟨b, o, hA, hS, hb, A1, n1, c1, c0, hs⟩
theorem modGo_cons (most : Nat) (l : List Rul) (names : List Bs) (t : List (List Bs)) (b : List Atm) : modGo most l (names :: t) b = match satGo most (ownS l names) (most + 2) b with
    | none => none
    | some b' => modGo most l t b' := rfl
set_option maxRecDepth 100000 in
set_option maxHeartbeats 16000000 in
theorem modelQ_any (A : Option Addr) (n c : Nat) (l : List Rul) (B : Option Addr) (m d : Nat) (facts : List Atm) (w : World) (S T : Nat → Prop) (hl : Sl w S A n c l) (hf : Sl w T B m d facts) (ho : ∀ r ∈ l, OkR r) (hof : ∀ a ∈ facts, OkT a) (hL : LD w) :
    Calls Tryz.prog 27 #[.slice A n c, .slice B m d] w (MdP w (modelS l facts)) := by
  have hn := hl.len; have hm := hf.len
  subst hn hm
  have hle := hl.le; have hle2 := hf.le
  have hck := checkQ_any A l.length c l B facts.length d facts w S T hl hf ho hof hL
  obtain ⟨V, hV⟩ : ∃ V, V = modelS l facts := ⟨_, rfl⟩
  rw [← hV]
  unfold modelS at hV
  have hz := @checkQ_zero l facts
  by_cases hce : (checkQ l facts).2 = 0
  · obtain ⟨hc, hfl, hgr⟩ := hz hce
    rw [if_neg (by simpa using hce)] at hV
    rw [hce] at hck
    generalize (checkQ l facts).1 = ci at *
    obtain ⟨h64, hrs, -⟩ := (checkS_ok l).1 hc
    have hstr := fun w' (hb' : Below w.heap.size w w') => Strata_any A l.length c l w' S (hl.below hb') ho (hL.below hb')
    have hgv := fun w' (hb' : Below w.heap.size w w') => givenQ_any B facts.length d facts w' T (hf.below hb') hgr (by omega) (hL.below hb')
    have hgl : (givenS facts).length ≤ 1024 := by have := given_len facts; omega
    have hsn : l = [] → (strataS l).1 = [] := fun e => by rw [e]; exact strata_nil
    generalize givenS facts = gf at *
    generalize strataS l = st at *
    obtain ⟨R, ri, re⟩ := st
    simp only at hsn hV hstr
    have HCK := Lib.hid hck; have HSTR := Lib.hid hstr; have HGV := Lib.hid hgv; have HRS := Lib.hid hrs; have HSL := Lib.hid (hl.wide (S' := fun k => k < w.heap.size) (fun k hk _ => hk) (by decide)); have HL := Lib.hid hL; have HSN := Lib.hid hsn
    have HV : Hid (V = match modGo (gf.length + 1024) l (R.drop 0) gf with | none => ([], -1, 10) | some b => (b, -1, 0)) := Lib.hid hV
    clear hck hstr hgv hrs hl hf hL hV hof ho hz hce hc hgr hsn
    go_enter Tryz.func27, Tryz.ntmps27
    go_wp2_with fail
    refine HCK.out.mono ?_
    rintro e w1 ⟨rfl, hb1⟩
    have HB1 := Lib.hid hb1; clear hb1 HCK
    go_wp2_with fail
    refine (HSTR.out w1 HB1.out).mono ?_
    rintro e w2 ⟨A2, c2, rfl, hs2, hb2⟩
    have HB2 := Lib.hid (HB1.out.trans (hb2.mono HB1.out.size)); have HR2 := Lib.hid hs2; clear hb2 hs2 HSTR
    go_wp2_with fail
    refine (HGV.out w2 HB2.out).mono ?_
    rintro e w3 ⟨p, F, I, rfl, hbr, hbd, hp, hb3⟩
    have hr3 := (HR2.out.wide (S' := fun k => w.heap.size ≤ k ∧ k < w2.heap.size) (fun k hk h => ⟨Nat.le_trans HB1.out.size h, hk⟩) (by decide)).below hb3
    have hb23 := hb3
    have hb3' := HB2.out.trans (hb3.mono HB2.out.size)
    obtain ⟨fb, fm, q0, -, hmv, hfll⟩ := hbr.len
    have hlm := hmv.len Tryz.underlying88 3
    have HBR := Lib.hid hbr; have HB3 := Lib.hid hb3'; have HR3 := Lib.hid hr3; have HB23 := Lib.hid hb23; have HBD := Lib.hid hbd
    have hw2 := HB2.out.size
    clear hbr hb3 hb3' hr3 hbd hmv HR2 HGV hb23
    have hRl := HR3.out.le
    go_wp2_with fail
    clear q0 hlm
    obtain ⟨wy, rfl⟩ : ∃ wy, wy = w3 := ⟨_, rfl⟩
    go_loopw [43] (fun i wr => ∃ k : Nat, k ≤ R.length ∧ i = .int .i64 k ∧ Hid (∃ F I b, BaseR wr F I p b ∧ (∀ k, F k ∨ I k → w2.heap.size ≤ k ∧ k < wr.heap.size) ∧ Below w2.heap.size w2 wr ∧ b.length ≤ gf.length + 1024 ∧ V = match modGo (gf.length + 1024) l (R.drop k) b with | none => ([], -1, 10) | some b => (b, -1, 0))) (fun i _ => R.length - (intOf i).toNat)
    case atStart => exact ⟨0, by omega, rfl, Lib.hid ⟨F, I, gf, HBR.out, HBD.out, HB23.out, by omega, HV.out⟩⟩
    case round =>
      obtain ⟨k, hk, rfl, hq⟩ := hrel
      obtain ⟨F1, I1, b, h1, h2, h3, h4, h5⟩ := hq.out
      clear hq
      have hw2r := h3.size
      by_cases hlt : k < R.length
      · have hlpos : 0 < l.length := by
          rcases Nat.eq_zero_or_pos l.length with h0 | h0
          · have := HSN.out (List.eq_nil_of_length_eq_zero h0)
            rw [this] at hlt
            exact absurd hlt (Nat.not_lt_zero _)
          · exact h0
        obtain ⟨ad, hAd, -⟩ := HSL.out.at_ hlpos
        subst hAd
        have hbwr : Below w.heap.size w wr := HB2.out.trans (h3.mono hw2)
        have hR : Sl wr (fun k => w.heap.size ≤ k ∧ k < w2.heap.size) A2 R.length c2 R := HR3.out.keep fun k _ hk => (h3.block k hk.2).trans (HB23.out.block k hk.2).symm
        obtain ⟨b1, o1, rfl, -, hbs1, An, nn, cn, g1, hsn⟩ := hR.lst hlt
        rw [drop_get hlt, modGo_cons] at h5
        generalize R[k] = names at *
        have hbox := blkAt wr (.cells #[.slice An nn cn] 71) rfl
        have hbA : Below wr.heap.size wr (wr.alloc (.cells #[.slice An nn cn] 71)) := boxed
        have hsA : (wr.alloc (.cells #[.slice An nn cn] 71)).heap.size = wr.heap.size + 1 := by simp
        have H1 := Lib.hid h1; have H2 := Lib.hid h2; have H3 := Lib.hid h3; have H5 := Lib.hid h5; have HBWR := Lib.hid hbwr; have HSNm := Lib.hid hsn; have HBOX := Lib.hid hbox; have HBA := Lib.hid hbA; have HSA := Lib.hid hsA
        clear h1 h2 h3 h5 hbwr hR hsn hbox hbA hsA
        go_wp2_with fail
        have hbA := HBA.out; have hbox := HBOX.out; have hsA := HSA.out
        generalize wr.alloc (.cells #[.slice An nn cn] 71) = W4 at *
        clear HBA HBOX HSA
        refine (cloneRulO_any ad l.length c W4 (fun k => k < w.heap.size) l (HSL.out.below (HBWR.out.trans (hbA.mono HBWR.out.size))) (by omega)).mono ?_
        rintro e w5 ⟨g, cap, rfl, hg1, hg2, hcap, hrow, hb5⟩
        have hbox5 := keptBlk hb5 hbox
        have hb5r : Below wr.heap.size wr w5 := hbA.trans (hb5.mono hbA.size)
        have hn5 := HSNm.out.below hb5r
        have hwr := HBWR.out.size
        have hdel := delR_any g cap l w5 (fun k => k < w.heap.size ∧ k < W4.heap.size) (fun k hk => ⟨by omega, by omega⟩) hg2 hrow hcap 59 #[.pointer (some ⟨wr.heap.size, 0, none⟩)] (fun _ _ => by kernel_rfl) (fun x => !names.contains x.head.name) (fun x hx w6 hg6 S6 v hv => by
          obtain ⟨B1, m1, d1, B2, m2, d2, rfl, -, -⟩ := hv
          exact mod1_any names x wr.heap.size An nn cn B1 m1 d1 B2 m2 d2 w6 _ (grownBlk hg6 hbox5 (fun e => by injection e with e; omega)) (hn5.keep fun k hk h => hg6.block k hk (fun e => by injection e with e; have := h.2; omega)))
        have hown : (l.filter fun x => !!names.contains x.head.name) = ownS l names := by unfold ownS; simp
        rw [hown] at hdel
        have HDEL := Lib.hid hdel; have HB5 := Lib.hid hb5r; have HZ := Lib.hid (And.intro hsA (And.intro hg1 hg2))
        clear hdel hbox hbox5 hb5 hb5r hn5 hrow hown hbA hsA hg1 hg2
        go_wp2_with fail
        refine HDEL.out.mono ?_
        rintro e w6 ⟨m6, c6, rfl, hs6, hgr6⟩
        obtain ⟨hsA, hg1, hg2⟩ := HZ.out
        have hz6 := hgr6.size
        have hb6 : Below wr.heap.size wr w6 := HB5.out.grown hgr6 HB5.out.size (fun k hk => by injection hk with hk; omega)
        have hbw6 := HBWR.out.trans (hb6.mono hwr)
        have hsat := satQ_any w HL.out F1 I1 p b (some ⟨g, 0, none⟩) m6 c6 (ownS l names) (gf.length + 1024) w6 _ (H1.out.below hb6) (fun k hk => Nat.lt_of_lt_of_le (H2.out k hk).2 hb6.size) hbw6 (fun k hk => by have := (H2.out k (.inl hk)).1; omega) hs6 (fun k hk => by
          rcases hk with hk | hk
          · exact ⟨fun h => by have := (H2.out k (.inl h)).1; have := hk.1; omega, by have := hk.1; omega⟩
          · exact ⟨fun h => by have := (H2.out k (.inl h)).2; omega, by omega⟩) (fun r hr => HRS.out r ((mem_own.1 hr).1)) (by omega) h4
        simp only [Int.natCast_add, Int.cast_ofNat_Int] at hsat
        have HSAT := Lib.hid hsat; have HB6 := Lib.hid hb6
        have HBW6 := Lib.hid hbw6
        clear hsat hs6 hgr6 hb6 hbw6 HDEL HZ
        go_wp2_with fail
        refine HSAT.out.mono ?_
        rintro e w7 ⟨F7, I7, hgw, hsp⟩
        have hbw7 : Below w.heap.size w w7 := HBW6.out.trans (hgw.frm.below HBW6.out.size fun i hi hF => by have := (H2.out i (.inl hF)).1; omega)
        have hb27 : Below w2.heap.size w2 w7 := (H3.out.trans (HB6.out.mono H3.out.size)).trans (hgw.frm.below (by have := HB6.out.size; omega) fun i hi hF => by have := (H2.out i (.inl hF)).1; omega)
        have h5 := H5.out
        have hsl := satGo_le (gf.length + 1024) (ownS l names) (gf.length + 1024 + 2) b
        unfold SatP at hsp
        cases hsg : satGo (gf.length + 1024) (ownS l names) (gf.length + 1024 + 2) b with
        | none =>
          rw [hsg] at hsp h5
          simp only at hsp h5
          subst hsp
          have HV5 := Lib.hid h5; have HB7 := Lib.hid hbw7
          clear h5 hbw7 hb27 hgw hsl hsg
          go_wp2_with fail
          refine bodyPost_ret (v := .tuple #[.pointer none, .int .i64 (-1), .int .i64 10]) (by simp [results, Tryz.results27, go_sem]) rfl ?_
          rw [HV5.out]
          exact ⟨HB7.out, by rw [if_pos (by decide)]⟩
        | some b' =>
          rw [hsg] at hsp h5
          simp only at hsp h5
          obtain ⟨rfl, hbr7⟩ := hsp
          have hbl := hsl b' hsg h4
          have hw6w := HB6.out.size
          have HQ := Lib.hid (show ∃ F I b, BaseR w7 F I p b ∧ (∀ k, F k ∨ I k → w2.heap.size ≤ k ∧ k < w7.heap.size) ∧ Below w2.heap.size w2 w7 ∧ b.length ≤ gf.length + 1024 ∧ V = match modGo (gf.length + 1024) l (R.drop (k + 1)) b with | none => ([], -1, 10) | some b => (b, -1, 0) from
            ⟨F7, I7, b', hbr7, fun k hk => ⟨by
              rcases hk with hk | hk
              · rcases hgw.f2 k hk with h | h
                · exact (H2.out k (.inl h)).1
                · omega
              · rcases hgw.i2 k hk with h | h
                · exact (H2.out k (.inr h)).1
                · omega, hgw.b k hk⟩, hb27, hbl, h5⟩)
          clear h5 hbw7 hb27 hgw hsl hsg hbr7
          go_wp2_with fail
          go_roundw
          case rel => exact ⟨k + 1, by omega, by go_num, HQ⟩
          case measure => simp [intOf]; omega
      · have hke : k = R.length := by omega
        subst hke
        rw [List.drop_length, modGo] at h5
        simp only at h5
        have H1 := Lib.hid h1; have H2 := Lib.hid h2; have H3 := Lib.hid h3; have HV5 := Lib.hid h5
        clear h1 h2 h3 h5
        go_wp2_with fail
        refine bodyPost_ret (v := .tuple #[.pointer (some ⟨p, 0, none⟩), .int .i64 (-1), .int .i64 0]) (by simp [results, Tryz.results27, go_sem]) rfl ?_
        rw [HV5.out]
        refine ⟨HB2.out.trans (H3.out.mono hw2), ?_⟩
        rw [if_neg (by simp)]
        exact ⟨p, F1, I1, rfl, H1.out, fun k hk => ⟨by have := (H2.out k hk).1; omega, (H2.out k hk).2⟩, by omega⟩
  · rw [if_pos (by simpa using hce)] at hV
    have hcb : ((checkQ l facts).2 == 0) = false := by simpa using hce
    have HV := Lib.hid hV; have HCE := Lib.hid hce
    clear hV hce hz
    generalize checkQ l facts = ck at *
    obtain ⟨ci, ce⟩ := ck
    simp only at hck hcb
    have HCK := Lib.hid hck; clear hck hl hf hL ho hof
    go_enter Tryz.func27, Tryz.ntmps27
    go_wp2_with fail
    refine HCK.out.mono ?_
    rintro e w1 ⟨rfl, hb1⟩
    go_wp2_with fail
    refine bodyPost_ret (v := .tuple #[.pointer none, .int .i64 ci, .int .i64 ce]) (by simp [results, Tryz.results27, go_sem]) rfl ?_
    rw [HV.out]
    refine ⟨hb1, ?_⟩
    rw [if_pos HCE.out]
end Go.Proofs.YtkjoaodoioicpaaGreatDoor
namespace Go.Proofs.YtkjoaodoioicpaaGreatDoor
open Go.RowKit
theorem model_len {l : List Rul} {facts : List Atm} (h : (modelS l facts).2.2 = 0) : (modelS l facts).1.length ≤ 2048 := by
  have hm := modelS_ok h
  obtain ⟨h1, h2⟩ := hm
  have hg : (givenS facts).length ≤ 1024 := by have := given_len facts; have := (checkQ_zero h1).2.1; omega
  have hgo : ∀ (R : List (List Bs)) (b b' : List Atm), modGo ((givenS facts).length + 1024) l R b = some b' → b.length ≤ (givenS facts).length + 1024 → b'.length ≤ (givenS facts).length + 1024 := by
    intro R
    induction R with
    | nil => intro b b' h hb; rw [modGo] at h; injection h with h; rw [← h]; exact hb
    | cons names t ih =>
      intro b b' h hb
      rw [modGo_cons] at h
      cases hs : satGo ((givenS facts).length + 1024) (ownS l names) ((givenS facts).length + 1024 + 2) b with
      | none => rw [hs] at h; cases h
      | some q =>
        rw [hs] at h
        exact ih q b' h (satGo_le _ _ _ _ _ hs hb)
  have := hgo _ _ _ h2 (by omega)
  omega
def EvP (w : World) (V : List Atm × Int × Int) (e : Ending) (w' : World) : Prop :=
  ∃ A n c, e = .returned (.tuple #[.slice A n c, .int .i64 V.2.1, .int .i64 V.2.2]) ∧ Sl w' (fun k => w.heap.size ≤ k) A n c V.1 ∧ Below w.heap.size w w'
set_option maxHeartbeats 4000000 in
theorem EvalQ_any (A : Option Addr) (n c : Nat) (l : List Rul) (B : Option Addr) (m d : Nat) (facts : List Atm) (w : World) (S T : Nat → Prop) (hl : Sl w S A n c l) (hf : Sl w T B m d facts) (ho : ∀ r ∈ l, OkR r) (hof : ∀ a ∈ facts, OkT a) (hL : LD w) :
    Calls Tryz.prog 11 #[.slice A n c, .slice B m d] w (EvP w (evalS l facts)) := by
  have hmd := modelQ_any A n c l B m d facts w S T hl hf ho hof hL
  obtain ⟨V, hV⟩ : ∃ V, V = evalS l facts := ⟨_, rfl⟩
  rw [← hV]
  unfold evalS at hV
  have hlen := @model_len l facts
  generalize modelS l facts = M at *
  obtain ⟨mb, mi, me⟩ := M
  simp only at hV hlen
  by_cases he : me = 0
  · rw [if_neg (by simpa using he)] at hV
    have hl2 := hlen he
    subst he
    have HMD := Lib.hid hmd; have HV := Lib.hid hV; clear hmd hV hl hf ho hof hL hlen
    go_enter Tryz.func11, Tryz.ntmps11
    go_wp2_with fail
    refine HMD.out.mono ?_
    rintro e w1 ⟨hb1, h1⟩
    rw [if_neg (by simp)] at h1
    obtain ⟨p, F, I, rfl, hbr, hbd, hp⟩ := h1
    have hso := sortedQ_any F I p mb w1 hbr (by omega)
    have HSO := Lib.hid hso; have HB1 := Lib.hid hb1
    clear hso hbr hbd hb1
    go_wp2_with fail
    refine HSO.out.mono ?_
    rintro e w2 ⟨A2, n2, c2, rfl, hs2, hb2⟩
    have HS2 := Lib.hid hs2; have HB2 := Lib.hid (HB1.out.trans (hb2.mono HB1.out.size)); clear hs2 hb2
    go_wp2_with fail
    refine bodyPost_ret (v := .tuple #[.slice A2 n2 c2, .int .i64 (-1), .int .i64 0]) (by simp [results, Tryz.results11, go_sem]) rfl ?_
    rw [HV.out]
    exact ⟨A2, n2, c2, rfl, HS2.out.wide (fun k _ hk => Nat.le_trans HB1.out.size hk) (by decide), HB2.out⟩
  · rw [if_pos (by simpa using he)] at hV
    have heb : (me == 0) = false := by simpa using he
    have HMD := Lib.hid hmd; have HV := Lib.hid hV; have HE := Lib.hid he; clear hmd hV hl hf ho hof hL hlen he
    go_enter Tryz.func11, Tryz.ntmps11
    go_wp2_with fail
    refine HMD.out.mono ?_
    rintro e w1 ⟨hb1, h1⟩
    rw [if_pos HE.out] at h1
    simp only at h1
    subst h1
    have HB1 := Lib.hid hb1; clear hb1
    go_wp2_with fail
    refine bodyPost_ret (v := .tuple #[.slice none 0 0, .int .i64 mi, .int .i64 me]) (by simp [results, Tryz.results11, go_sem]) rfl ?_
    rw [HV.out]
    exact ⟨none, 0, 0, rfl, Sl.nil _ _ _ _ (by decide), HB1.out⟩
end Go.Proofs.YtkjoaodoioicpaaGreatDoor
namespace Go.Proofs.YtkjoaodoioicpaaGreatDoor
open Go.RowKit
theorem eltArgs : Elt 56 29 1 24 := .mk' (z := .slice none 0 0) (by kernel_rfl) (by kernel_rfl) rfl
def mkV (s : Bs) : Arg := ⟨1, s, 0⟩
set_option maxRecDepth 100000 in
set_option maxHeartbeats 16000000 in
theorem AskQ_any (question : List Ltl) (model : List Atm) (A2 : Option Addr) (n2 c2 : Nat) (A : Option Addr) (n c : Nat) (w : World) (S T : Nat → Prop) (h2 : Sl w S A2 n2 c2 question) (hm : Sl w T A n c model) (hq : ∀ l ∈ question, OkL l) (hom : ∀ a ∈ model, OkT a) (hL : LD w) (hcnt : cntB question ≤ 1000)
    (hr : readyS ⟨⟨sAsk, []⟩, question⟩ model = 0 → ruleS ⟨⟨sAsk, (varsS ⟨⟨sAsk, []⟩, question⟩).map mkV⟩, question⟩ = true ∧ safeS ⟨⟨sAsk, (varsS ⟨⟨sAsk, []⟩, question⟩).map mkV⟩, question⟩ = true) :
    Calls Tryz.prog 20 #[.slice A n c, .slice A2 n2 c2] w fun e w' => ∃ A' n' c', e = .returned (.tuple #[.slice A' n' c', .int .i64 (askS model question).2]) ∧ Sl w' (fun k => w.heap.size ≤ k) A' n' c' (askS model question).1 ∧ Below w.heap.size w w' := by
  obtain ⟨V, hV⟩ : ∃ V, V = askS model question := ⟨_, rfl⟩
  rw [← hV]
  unfold askS at hV
  simp only at hV
  have hb1 : Below w.heap.size w (w.alloc (.cells #[.string ⟨sAsk.toArray⟩, .slice none 0 0, .slice A2 n2 c2] 34)) := boxed
  have hx1 := blkAt w (.cells #[.string ⟨sAsk.toArray⟩, .slice none 0 0, .slice A2 n2 c2] 34) rfl
  have hrd := readyQ_any ⟨⟨sAsk, []⟩, question⟩ model none 0 0 A2 n2 c2 A n c _ S T (Sl.nil _ _ _ _ (by decide)) (h2.below hb1) (hm.below hb1) ⟨⟨by show sAsk.length ≤ _; decide, fun x hx => by cases hx⟩, hq⟩ hom (hL.below hb1)
  by_cases he : readyS ⟨⟨sAsk, []⟩, question⟩ model = 0
  · rw [if_neg (by rw [he]; decide)] at hV
    rw [he] at hrd
    obtain ⟨hlen, hgr⟩ := readyS_zero he
    obtain ⟨hr1, hr2⟩ := hr he
    have hvs := fun w' (hb' : Below w.heap.size w w') => variables_any ⟨⟨sAsk, []⟩, question⟩ none 0 0 A2 n2 c2 w' S (Sl.nil _ _ _ _ (by decide)) (h2.below hb') (by show 0 + cntB question ≤ _; omega)
    generalize varsS ⟨⟨sAsk, []⟩, question⟩ = vs at *
    have hV : V = if 1024 < (outS ⟨⟨sAsk, vs.map mkV⟩, question⟩ model).length then ([], 10) else ((sortT (outS ⟨⟨sAsk, vs.map mkV⟩, question⟩ model)).map (·.args), 0) := hV
    obtain ⟨r, hrdef⟩ : ∃ r : Rul, r = ⟨⟨sAsk, vs.map mkV⟩, question⟩ := ⟨_, rfl⟩
    rw [← hrdef] at hV hr1 hr2
    obtain ⟨hok, hbo, hkd, hh6, hhd⟩ := ruleS_ok hr1
    have hrok : RuleOk r := ⟨safe_safe hr2, hhd⟩
    have hgg := gr_given hgr
    have hpr := heads_ground hrok (nb := givenS model) hgg
    have hgv := fun w' (hb' : Below w.heap.size w w') => givenQ_any A n c model w' T (hm.below hb') hgr (by omega) (hL.below hb')
    have hvl : vs.length ≤ 6 := by have h := hh6; rw [hrdef] at h; simpa using h
    have HRD := Lib.hid hrd; have HGV := Lib.hid hgv; have HV := Lib.hid hV; have HB1 := Lib.hid hb1; have HX1 := Lib.hid hx1; have HBO := Lib.hid hbo; have HKD := Lib.hid hkd; have HPR := Lib.hid hpr; have HL := Lib.hid hL; have HOK := Lib.hid hok; have HVS := Lib.hid hvs; have HRDEF := Lib.hid hrdef; have HH2 := Lib.hid (show Sl w S A2 n2 c2 r.body by rw [hrdef]; exact h2)
    have hhn : r.head.name = sAsk := by rw [hrdef]
    have hha : r.head.args = vs.map mkV := by rw [hrdef]
    have HHN := Lib.hid hhn; have HHA := Lib.hid hha
    clear hrd hgv hV hb1 hx1 hbo hkd hpr h2 hL hok hm hq hom hr he hlen hgr hr1 hr2 hhd hrok hgg hvs hrdef hhn hha
    go_enter Tryz.func20, Tryz.ntmps20
    go_wp2_with fail
    refine HRD.out.mono ?_
    rintro e w1 ⟨rfl, hb1⟩
    have hb1' := HB1.out.trans (hb1.mono HB1.out.size)
    have hx1 := keptBlk hb1 HX1.out
    have c0 := (cell_blk hx1 0).trans rfl; have c1 := (cell_blk hx1 1).trans rfl; have c2' := (cell_blk hx1 2).trans rfl
    have HBx := Lib.hid hb1'; have HXx := Lib.hid hx1; clear hb1 hb1' hx1 HB1 HX1 HRD
    go_wp2_with fail
    clear c0 c1 c2'
    refine (HVS.out w1 HBx.out).mono ?_
    rintro e wv ⟨Av, cv, rfl, hsv, hbv⟩
    have hbv' := HBx.out.trans (hbv.mono HBx.out.size)
    have hxv := keptBlk hbv HXx.out
    have hsv' := hsv.wide (S' := fun k => w.heap.size ≤ k ∧ k < wv.heap.size ∧ k ≠ w.heap.size) (fun k hk h => ⟨Nat.le_trans HBx.out.size h, hk, by have := (Array.getElem?_eq_some_iff.1 HXx.out).1; omega⟩) (by decide)
    have hlv := hsv.le
    have HSV := Lib.hid hsv'; have HBV := Lib.hid hbv'; have HXV := Lib.hid hxv
    clear hsv hsv' hbv hbv' hxv HVS HXx HBx
    go_wp2_with fail
    go_loopw [27] (fun i wr => ∃ k : Nat, k ≤ vs.length ∧ i = .int .i64 k ∧ Hid (Below w.heap.size w wr ∧ wv.heap.size ≤ wr.heap.size ∧ (∀ k, k < wv.heap.size → k ≠ w.heap.size → wr.heap[k]? = wv.heap[k]?) ∧ ∃ A c, wr.heap[w.heap.size]? = some (.cells #[.string ⟨sAsk.toArray⟩, .slice A k c, .slice A2 n2 c2] 34 (0, 0)) ∧ Own wr (fun _ => False) wv.heap.size 46 A c ((vs.take k).map mkV))) (fun i _ => vs.length - (intOf i).toNat)
    case atStart => exact ⟨0, by omega, rfl, Lib.hid ⟨HBV.out, Nat.le_refl _, fun _ _ _ => rfl, none, 0, HXV.out, Own.nil _ _ _ _⟩⟩
    case round =>
      obtain ⟨k, hk, rfl, hqq⟩ := hrel
      obtain ⟨hb, hwsz, hkeep, A3, c3, hbox, hown⟩ := hqq.out
      clear hqq
      by_cases hlt : k < vs.length
      · obtain ⟨b1, o1, rfl, -, hbs1, g1⟩ := (HSV.out.keep (w' := wr) fun k _ hk => hkeep k hk.2.1 hk.2.2).str hlt
        have htk : (vs.take (k + 1)).map mkV = (vs.take k).map mkV ++ [mkV vs[k]] := by rw [List.take_succ_eq_append_getElem hlt, List.map_append]; rfl
        generalize vs[k] = s at *
        have hxl : ((vs.take k).map mkV).length = k := by rw [List.length_map, List.length_take]; omega
        have e1 := (cell_blk hbox 1).trans rfl
        have hwl : w.heap.size < wr.heap.size := (Array.getElem?_eq_some_iff.1 hbox).1
        have hwv : w.heap.size < wv.heap.size := (Array.getElem?_eq_some_iff.1 HXV.out).1
        have hkb : ∀ w5, (wr.alloc (.cells #[.int .i64 1, .string ⟨s.toArray⟩, .int .i64 0] 46)).grownBy w5 (A3.map Addr.block) → w5.heap[w.heap.size]? = some (.cells #[.string ⟨sAsk.toArray⟩, .slice A3 k c3, .slice A2 n2 c2] 34 (0, 0)) := fun w5 hg5 => grownBlk hg5 (blkOld hbox _) (fun e => by have := (hown.lt _ e).1; omega)
        have HB := Lib.hid hb; have HKP := Lib.hid hkeep; have HOWN := Lib.hid hown; have HTK := Lib.hid htk; have HKB := Lib.hid hkb; have HXL := Lib.hid hxl
        clear hb hkeep hown htk hkb hbox hxl
        go_wp2_with (at_builtin; go_loud (refine wpList_app1 rfl _ _ eltArg rfl (by decide) rfl rfl HXL.out.symm (HOWN.out.alloc _) rfl [.int .i64 1, .string ⟨s.toArray⟩, .int .i64 0] (mkV s) (blkAt _ _ rfl) rfl ⟨rfl, rfl, rfl⟩ (by rw [HXL.out]; omega) (by rw [HXL.out]; omega) (Nat.le_trans hwsz (Nat.le_of_lt (lt_alloc _ _))) ?_); intro A5 c5 w5 hown5 hg5 hat5; have k5 := (cell_blk (HKB.out w5 hg5) 1).trans rfl; have z5 := frz_blk (HKB.out w5 hg5) 1; have HX5 := Lib.hid (HKB.out w5 hg5); have HO5 := Lib.hid hown5; have HG5 := Lib.hid hg5; have HA5 := Lib.hid hat5; clear hown5 hg5 hat5)
        have hsA : (wr.alloc (.cells #[.int .i64 1, .string ⟨s.toArray⟩, .int .i64 0] 46)).heap.size = wr.heap.size + 1 := by simp
        have hg5s := HG5.out.size
        have hx6 : (w5.setCell ⟨w.heap.size, 1, none⟩ (.slice A5 (k + 1) c5)).heap[w.heap.size]? = some (.cells #[.string ⟨sAsk.toArray⟩, .slice A5 (k + 1) c5, .slice A2 n2 c2] 34 (0, 0)) := by rw [Blk.set w5 HX5.out 1]; simp
        have hb6 : Below w.heap.size w (w5.setCell ⟨w.heap.size, 1, none⟩ (.slice A5 (k + 1) c5)) := ((HB.out.alloc HB.out.size _).grown HG5.out (by have := HB.out.size; omega) (fun k hk => by have := (HOWN.out.lt k hk).1; omega)).setCell (p := ⟨w.heap.size, 1, none⟩) (Nat.le_refl _) _
        have ho6 : Own (w5.setCell ⟨w.heap.size, 1, none⟩ (.slice A5 (k + 1) c5)) (fun _ => False) wv.heap.size 46 A5 c5 ((vs.take (k + 1)).map mkV) := by
          rw [HTK.out]
          exact HO5.out.keep fun k _ hT => set_other _ _ _ _ _ (by rcases hT with hT | hT; exact hT.elim; have := (HO5.out.lt k hT).1; omega)
        have hk6 : ∀ k', k' < wv.heap.size → k' ≠ w.heap.size → (w5.setCell ⟨w.heap.size, 1, none⟩ (.slice A5 (k + 1) c5)).heap[k']? = wv.heap[k']? := fun k' hk' hne => by
          rw [set_other _ _ _ _ _ hne, HG5.out.block k' (by omega) (fun e => by have := (HOWN.out.lt k' e.symm).1; omega), Below.heap_alloc wr _ k' (by omega), HKP.out k' hk' hne]
        have hz6 : (w5.setCell ⟨w.heap.size, 1, none⟩ (.slice A5 (k + 1) c5)).heap.size = w5.heap.size := by simp [World.setCell]
        have HQ := Lib.hid (show Below w.heap.size w (w5.setCell ⟨w.heap.size, 1, none⟩ (.slice A5 (k + 1) c5)) ∧ wv.heap.size ≤ (w5.setCell ⟨w.heap.size, 1, none⟩ (.slice A5 (k + 1) c5)).heap.size ∧ (∀ q, q < wv.heap.size → q ≠ w.heap.size → (w5.setCell ⟨w.heap.size, 1, none⟩ (.slice A5 (k + 1) c5)).heap[q]? = wv.heap[q]?) ∧ ∃ A c, (w5.setCell ⟨w.heap.size, 1, none⟩ (.slice A5 (k + 1) c5)).heap[w.heap.size]? = some (.cells #[.string ⟨sAsk.toArray⟩, .slice A (k + 1) c, .slice A2 n2 c2] 34 (0, 0)) ∧ Own (w5.setCell ⟨w.heap.size, 1, none⟩ (.slice A5 (k + 1) c5)) (fun _ => False) wv.heap.size 46 A c ((vs.take (k + 1)).map mkV) from ⟨hb6, by omega, hk6, A5, c5, hx6, ho6⟩)
        clear hx6 hb6 ho6 hk6 hz6 k5 z5 hsA hg5s
        go_wp2_with fail
        go_roundw
        case rel => exact ⟨k + 1, by omega, by go_num, HQ⟩
        case measure => simp [intOf]; omega
      · have hke : k = vs.length := by omega
        subst hke
        rw [List.take_length] at hown
        have hargs : vs.map mkV = r.head.args := HHA.out.symm
        rw [hargs] at hown
        rw [← HHN.out] at hbox
        have hsl1 : Sl wr (fun k => A3.map Addr.block = some k ∧ wv.heap.size ≤ k ∧ k < wr.heap.size) A3 vs.length c3 r.head.args := ((hown.sl (by decide)).wide (fun k hk hk' => by
          rcases hk' with h | h
          · exact h.elim
          · exact ⟨h, (hown.lt k h).1, hk⟩) (by decide)).cast (by rw [← hargs, List.length_map])
        have HB2 := Lib.hid hb; have HX2 := Lib.hid hbox; have HH1 := Lib.hid hsl1
        clear hargs hown hbox hsl1 hkeep HSV HBV HXV hb
        go_wp2_with fail
        refine (HGV.out wr HB2.out).mono ?_
        rintro e w3 ⟨p, F, I, rfl, hbr, hbd, hp, hb3⟩
        have hb3' := HB2.out.trans (hb3.mono HB2.out.size)
        have HB3 := Lib.hid hb3'; have HX3 := Lib.hid (keptBlk hb3 HX2.out); have HBR := Lib.hid hbr; have HBD := Lib.hid hbd
        have HB23 := Lib.hid hb3
        clear hb3 hb3' hbr hbd HX2 HGV
        go_wp2_with fail
        refine (emptyQ_any w3 (fun _ => False) (fun _ h => h.elim)).mono ?_
        rintro e w4 ⟨rfl, hbe, hb4⟩
        have hb4' := HB3.out.trans (hb4.mono HB3.out.size)
        have HB4 := Lib.hid hb4'; have HX4 := Lib.hid (keptBlk hb4 HX3.out); have HBR4 := Lib.hid (HBR.out.below hb4); have HBE := Lib.hid hbe; have hw3s : w.heap.size < w3.heap.size := (Array.getElem?_eq_some_iff.1 HX3.out).1
        have HB24 := Lib.hid (HB23.out.trans (hb4.mono HB23.out.size))
        clear hb4 hb4' hbe HX3
        have k2 := (cell_blk HX4.out 2).trans rfl
        have hwl : w.heap.size < w4.heap.size := (Array.getElem?_eq_some_iff.1 HX4.out).1
        go_wp2_with fail
        clear k2
        have hb5 : Below w.heap.size w (w4.alloc (.cells #[.pointer (some ⟨w3.heap.size + 2, 0, none⟩)] 65)) := HB4.out.alloc HB4.out.size _
        have hb25 : Below wr.heap.size wr (w4.alloc (.cells #[.pointer (some ⟨w3.heap.size + 2, 0, none⟩)] 65)) := HB24.out.alloc HB24.out.size _
        have hwr3 := HB23.out.size
        have hx5 := blkOld HX4.out (.cells #[.pointer (some ⟨w3.heap.size + 2, 0, none⟩)] 65)
        have hko := blkAt w4 (.cells #[.pointer (some ⟨w3.heap.size + 2, 0, none⟩)] 65) rfl
        have hbr5 := HBR4.out.alloc (.cells #[.pointer (some ⟨w3.heap.size + 2, 0, none⟩)] 65)
        have hbe5 := HBE.out.alloc (.cells #[.pointer (some ⟨w3.heap.size + 2, 0, none⟩)] 65)
        have hs5 : w4.heap.size < (w4.alloc (.cells #[.pointer (some ⟨w3.heap.size + 2, 0, none⟩)] 65)).heap.size := lt_alloc _ _
        generalize w4.alloc (.cells #[.pointer (some ⟨w3.heap.size + 2, 0, none⟩)] 65) = W5 at *
        have hpe := HBE.out.lt
        have hpl := HBR.out.lt
        have hw3 := HB3.out.size
        have htwo : ∀ k, twoB w3.heap.size k → w3.heap.size ≤ k ∧ k < w3.heap.size + 2 := fun k hk => by rcases hk with h | h <;> omega
        have hst : StO w (w3.heap.size + 2) w4.heap.size w.heap.size A3 vs.length c3 A2 n2 c2 r.head (fun k => A3.map Addr.block = some k ∧ wv.heap.size ≤ k ∧ k < wr.heap.size) W5 [] (twoB w3.heap.size) :=
          ⟨⟨_, hbe5, fun k hk => by rcases hk with hk | hk; have := htwo k hk; omega; exact hk.elim⟩, hb5, fun k hk => by have := htwo k hk; omega, hko, hx5, HH1.out.below hb25, fun k hk => by
            rcases hk with hk | hk | hk
            · exact ⟨by omega, fun h => by have := htwo k h; omega⟩
            · exact ⟨by omega, fun h => by have := htwo k h; omega⟩
            · exact ⟨by have := hk.2.2; omega, fun h => by have := htwo k h; have := hk.2.2; omega⟩⟩
        have hea := eachQ_any (ask1_ok w HL.out (w3.heap.size + 2) w4.heap.size w.heap.size A3 vs.length c3 A2 n2 c2 r.head (fun k => A3.map Addr.block = some k ∧ wv.heap.size ≤ k ∧ k < wr.heap.size) HOK.out.1 (by omega)) (R := fun k => (S k ∧ k < w.heap.size) ∨ F k ∨ I k ∨ k = p) (A := A2) (n := n2) (c := c2) (ps := p) (pa := p) (Fs := F) (Is := I) (Fa := F) (Ia := I) HBO.out HKD.out W5 [] (twoB w3.heap.size)
          (((HH2.out.wide (S' := fun k => S k ∧ k < w.heap.size) (fun k hk h => ⟨h, hk⟩) (by decide)).below hb5).wide (fun k _ h => .inl h) (by decide)) hbr5 hbr5 hst (by simp) (fun k hk => by
            rcases hk with h | h | h | h | h | h
            · exact .inr (.inl h)
            · exact .inr (.inr (.inl h))
            · exact .inr (.inr (.inr h))
            · exact .inr (.inl h)
            · exact .inr (.inr (.inl h))
            · exact .inr (.inr (.inr h))) (fun k hk => by
            rcases hk with h | h | h | h
            · exact ⟨by have := h.2; omega, fun h' => by have := htwo k h'; have := h.2; omega⟩
            · have := HBD.out k (.inl h); exact ⟨by omega, fun h' => by have := htwo k h'; omega⟩
            · have := HBD.out k (.inr h); exact ⟨by omega, fun h' => by have := htwo k h'; omega⟩
            · exact ⟨by omega, fun h' => by have := htwo k h'; omega⟩) HPR.out
        have hout : (iterF (outF r.head) (eachQ r.body (givenS model) (givenS model)) []).1 = outS r model := rfl
        rw [hout] at hea
        have HEA := Lib.hid hea; have HB5 := Lib.hid hb5; have HTW := Lib.hid htwo
        clear hb25 hst hea hout hbr5 hbe5 hko hx5 hb5 htwo HBR HBD HBR4 HBE HX4 HB4 HB3 HBO HKD HPR HH1 HH2
        generalize outS r model = out at *
        refine HEA.out.mono ?_
        rintro e w6 ⟨rfl, G', hs6, hg6, hf6⟩
        have hb6 : Below w.heap.size w w6 := HB5.out.trans (hf6.below (by have := HB5.out.size; omega) fun k hk h => by have := HTW.out k h; omega)
        obtain ⟨⟨I6, hbr6, hbd6⟩, -, hg6', hko6, -, -, -⟩ := hs6
        obtain ⟨fb, fm, q0, -, hmv, hfl⟩ := hbr6.len
        have k0 := (cell_blk hko6 0).trans rfl; have hkl6 : w4.heap.size < w6.heap.size := (Array.getElem?_eq_some_iff.1 hko6).1
        have hlm := hmv.len Tryz.underlying88 3
        have hso := fun w' (hb' : Below w6.heap.size w6 w') hN => sortedQ_any G' I6 (w3.heap.size + 2) out w' (hbr6.below hb') hN
        have HV2 := HV; have HB6 := Lib.hid hb6; have HSO := Lib.hid hso
        clear hb6 hso hbr6 hbd6 hg6' hko6 hmv hg6 hf6 HEA
        by_cases hl : 1024 < out.length
        · have hlI : (1024 : Int) < (fm.length : Int) := by omega
          have hv := HV.out
          rw [if_pos hl] at hv
          have HD := Lib.hid hv; clear hv hl hfl HV HV2
          go_wp2_with fail
          refine bodyPost_ret (v := .tuple #[.slice none 0 0, .int .i64 10]) (by simp [results, Tryz.results20, go_sem]) rfl ?_
          rw [HD.out]
          exact ⟨none, 0, 0, rfl, Sl.nil _ _ _ _ (by decide), HB6.out⟩
        · have hlI : ¬ (1024 : Int) < (fm.length : Int) := by omega
          have hv := HV.out
          rw [if_neg hl] at hv
          have hso2 := fun w' hb' => HSO.out w' hb' (by omega)
          have HD := Lib.hid hv; have HSO2 := Lib.hid hso2; have HLQ := Lib.hid (show out.length ≤ 1024 by omega); clear hv hl hfl HV HV2 hso2
          have hsl100 : out.length ≤ 1024 := by have := HLQ.out; omega
          go_wp2_with fail
          have hsA : (w6.alloc (.cells #[] 29)).heap.size = w6.heap.size + 1 := by simp
          refine (HSO2.out _ boxed).mono ?_
          rintro e w7 ⟨A7, n7, c7, rfl, hs7, hb7⟩
          obtain rfl : n7 = (sortT out).length := hs7.len
          have hLl : (sortT out).length ≤ 1024 := by rw [len_sortT]; exact hsl100
          have hs7' := hs7.wide (S' := fun k => w6.heap.size + 1 ≤ k ∧ k < w7.heap.size) (fun k hk h => ⟨by rw [hsA] at h; exact h, hk⟩) (by decide)
          have hown0 : Own (α := List Arg) w7 (fun k => w6.heap.size + 1 ≤ k ∧ k < w7.heap.size) w6.heap.size 29 (some ⟨w6.heap.size, 0, none⟩) 0 [] := (Own.emp (blkAt _ _ rfl) (Nat.le_refl _)).below hb7
          have hb7' : Below w.heap.size w w7 := (HB6.out.alloc HB6.out.size _).trans (hb7.mono (by have := HB6.out.size; omega))
          have hz7 := hb7.size
          rw [hsA] at hz7
          have hw6 := HB6.out.size
          have HS7 := Lib.hid hs7'; have HO0 := Lib.hid hown0; have HB7 := Lib.hid hb7'
          clear hs7 hs7' hown0 hb7 hb7' hsA HSO2
          generalize sortT out = L at *
          go_wp2_with fail
          go_loopw [12, 60] (fun o i wr => ∃ k : Nat, k ≤ L.length ∧ i = .int .i64 k ∧ ∃ A c, o = .slice A k c ∧ Hid (Own wr (fun k => w6.heap.size + 1 ≤ k ∧ k < w7.heap.size) w6.heap.size 29 A c ((L.take k).map (·.args)) ∧ (∀ q, A.map Addr.block = some q → q = w6.heap.size ∨ w7.heap.size ≤ q) ∧ w7.heap.size ≤ wr.heap.size ∧ (∀ q, w6.heap.size + 1 ≤ q → q < w7.heap.size → wr.heap[q]? = w7.heap[q]?) ∧ Below w.heap.size w wr)) (fun _ i _ => L.length - (intOf i).toNat)
          case atStart => exact ⟨0, by omega, rfl, _, _, rfl, Lib.hid ⟨HO0.out, fun q hq => .inl (by injection hq with hq; exact hq.symm), Nat.le_refl _, fun _ _ _ => rfl, HB7.out⟩⟩
          case round =>
            obtain ⟨k, hk, rfl, A, c, rfl, hq⟩ := hrel
            obtain ⟨h1, h2, h3, h4, h5⟩ := hq.out
            clear hq
            by_cases hlt : k < L.length
            · obtain ⟨b2, o2, rfl, -, hbs2, An, nn, cn, g1, g2, hsx⟩ := (HS7.out.keep (w' := wr) fun q _ hq => h4 q hq.1 hq.2).atm hlt
              have htk : (L.take (k + 1)).map (·.args) = (L.take k).map (·.args) ++ [L[k].args] := by rw [List.take_succ_eq_append_getElem hlt, List.map_append]; rfl
              have hxl : ((L.take k).map (·.args)).length = k := by rw [List.length_map, List.length_take]; omega
              generalize L[k] = x at *
              have hne : ∀ q, (w6.heap.size + 1 ≤ q ∧ q < w7.heap.size) → A.map Addr.block ≠ some q := fun q hq e => by rcases h2 q e with h | h <;> omega
              have H1 := Lib.hid h1; have H2 := Lib.hid h2; have H3 := Lib.hid h3; have H4 := Lib.hid h4; have H5 := Lib.hid h5; have HSX := Lib.hid hsx; have HTK := Lib.hid htk; have HXL := Lib.hid hxl; have HNE := Lib.hid hne
              clear h1 h2 h4 h5 hsx htk hxl hne
              go_wp2_with (at_builtin; go_loud (refine wpList_app1 rfl _ _ eltArgs rfl (by decide) rfl rfl HXL.out.symm ((H1.out.alloc _).alloc _) rfl [.slice An nn cn] x.args (blkAt _ _ (by simp)) rfl ⟨An, nn, cn, rfl, ((HSX.out.alloc _).alloc _).wide (fun q _ hq => ⟨hq, HNE.out q hq⟩) (by decide), by decide⟩ (by rw [HXL.out]; omega) (by rw [HXL.out]; omega) (by simp; omega) ?_); intro A5 c5 w9 hown9 hg9 hat9)
              have hsz9 := hg9.size
              have hsB : ((wr.alloc (.cells #[.string ⟨x.name.toArray⟩, .slice An nn cn] 31)).alloc (.cells #[.slice An nn cn] 29)).heap.size = wr.heap.size + 2 := by simp
              rw [hsB] at hsz9 hat9
              have hb9 : Below w.heap.size w w9 := ((H5.out.alloc H5.out.size _).alloc (by have := H5.out.size; simp; omega) _).grown hg9 (by have := H5.out.size; omega) (fun q hq => by have := (H1.out.lt q hq).1; omega)
              have hk9 : ∀ q, w6.heap.size + 1 ≤ q → q < w7.heap.size → w9.heap[q]? = w7.heap[q]? := fun q hq1 hq2 => by
                rw [hg9.block q (by omega) (fun e => HNE.out q ⟨hq1, hq2⟩ e.symm), Below.heap_alloc _ _ q (by simp; omega), Below.heap_alloc _ _ q (by omega), H4.out q hq1 hq2]
              have hA9 : ∀ q, A5.map Addr.block = some q → q = w6.heap.size ∨ w7.heap.size ≤ q := fun q hq => by
                rcases hat9 with h | h
                · exact H2.out q (by rw [← h]; exact hq)
                · rw [h] at hq; injection hq with hq; exact .inr (by omega)
              have hwz : w7.heap.size ≤ w9.heap.size := by omega
              rw [← HTK.out] at hown9
              have HQ := Lib.hid (And.intro hown9 (And.intro hA9 (And.intro hwz (And.intro hk9 hb9))))
              clear hown9 hA9 hk9 hb9 hg9 hat9 hsz9 hsB hwz
              go_wp2_with fail
              go_roundw
              case rel => exact ⟨k + 1, by omega, by go_num, A5, c5, by first | rfl | simp, HQ⟩
              case measure => simp [intOf]; omega
            · have hke : k = L.length := by omega
              subst hke
              rw [List.take_length] at h1
              have H1 := Lib.hid h1; have H2 := Lib.hid h2; have H5 := Lib.hid h5
              clear h1 h2 h3 h4 h5
              go_wp2_with fail
              refine bodyPost_ret (v := .tuple #[.slice A L.length c, .int .i64 0]) (by simp [results, Tryz.results20, go_sem]) rfl ?_
              rw [HD.out]
              refine ⟨A, L.length, c, rfl, ((H1.out.sl (by decide)).cast (by rw [List.length_map])).wide (fun q _ hq => ?_) (by decide), H5.out⟩
              rcases hq with hq | hq
              · have := hq.1; omega
              · rcases H2.out q hq with h | h <;> omega
  · rw [if_pos he] at hV
    have hne : (readyS ⟨⟨sAsk, []⟩, question⟩ model == 0) = false := by simpa using he
    generalize readyS ⟨⟨sAsk, []⟩, question⟩ model = E at *
    have HRD := Lib.hid hrd; have HD := Lib.hid hV; have HB1 := Lib.hid hb1
    clear hrd hV hb1 hx1 h2 hL hm hq hom hr he
    go_enter Tryz.func20, Tryz.ntmps20
    go_wp2_with fail
    refine HRD.out.mono ?_
    rintro e w2 ⟨rfl, hb2⟩
    have hb2' := HB1.out.trans (hb2.mono HB1.out.size)
    have HB2 := Lib.hid hb2'; clear hb2 hb2'
    go_wp2_with fail
    refine bodyPost_ret (v := .tuple #[.slice none 0 0, .int .i64 E]) (by simp [results, Tryz.results20, go_sem]) rfl ?_
    rw [HD.out]
    exact ⟨none, 0, 0, rfl, Sl.nil _ _ _ _ (by decide), HB2.out⟩
end Go.Proofs.YtkjoaodoioicpaaGreatDoor
