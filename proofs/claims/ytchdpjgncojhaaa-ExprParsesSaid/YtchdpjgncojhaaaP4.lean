/- licitref08: the parser: primary: tokens that end it at once, numbers, names. -/
import Derived.Test.YtchdpjgncojhaaaQR
import Derived.Test.YtchdpjgncojhaaaTokEq
import Derived.Test.YtchdpjgncojhaaaG9
set_option linter.unusedVariables false
set_option linter.unusedSimpArgs false
namespace Go.Proofs.Ytchdpjgncojhaaa
open Go.RowKit

theorem dN8 (w : World) (m : Nat) : Below w.heap.size w (w.drewN m) := ⟨rfl, rfl, rfl, Nat.le_refl _, fun _ _ => rfl⟩
/-- The depth has been written: what was known stays. -/
theorem open3 {w : World} {n0 g : Nat} {L : List Tok} {A Ao : Option Addr} {c co : Nat} {p d e : Int} {out : List Opn} (hn0 : n0 ≤ g)
    (hb : w.heap[g]? = some (.cells #[.slice A L.length c, .int .i64 p, .slice Ao out.length co, .int .i64 d, .int .i64 e] 62 (0, 0)))
    (hs : Sl w (fun b => b < n0) A L.length c L) (ho : Own w (fun _ => False) (g + 1) 50 Ao co out) (d' : Int) :
    (w.setCell ⟨g, 3, none⟩ (.int .i64 d')).heap[g]? = some (.cells #[.slice A L.length c, .int .i64 p, .slice Ao out.length co, .int .i64 d', .int .i64 e] 62 (0, 0)) ∧
    Sl (w.setCell ⟨g, 3, none⟩ (.int .i64 d')) (fun b => b < n0) A L.length c L ∧ Own (w.setCell ⟨g, 3, none⟩ (.int .i64 d')) (fun _ => False) (g + 1) 50 Ao co out :=
  ⟨by rw [Blk.set w hb 3]; rfl, hs.keep fun k h1 h2 => set_other _ _ _ _ _ (by omega), ho.keep fun k h1 h2 => set_other _ _ _ _ _ (by rcases h2 with h2 | h2; exact h2.elim; have := (ho.lt k h2).1; omega)⟩
theorem hpw_lt {w : World} {n0 g : Nat} {L : List Tok} {q : Q8} (h : PW8 w n0 g L q) : g < w.heap.size := h.lt
theorem PE.of_fail {w : World} {n0 g : Nat} {L : List Tok} {st : PSt} {q : Q8} (e : Int) (he : e ≠ 0) (h : PW8 w n0 g L q) (hq : q.err = e) (hd : q.depth = st.depth) (hm : q.out.length + (L.length - q.pos) ≤ st.m + 1) : PE w n0 g L st e :=
  ⟨he, q, h, hq, by omega, by omega, hm⟩
theorem qfail0 {q : Q8} (h : q.err = 0) (e : Int) : qfail q e = { q with err := e } := by unfold qfail; rw [if_pos h]
theorem pfail0 {st : PSt} (h : st.err = 0) (e : Int) : pfail st e = (false, { st with err := e }) := by unfold pfail; rw [if_pos h]

set_option maxRecDepth 100000 in
set_option maxHeartbeats 4000000 in
theorem prim8_nil (n0 g : Nat) (L : List Tok) (st : PSt) (w : World) (hr : st.rest = []) (hps : PS w n0 g L st) (he : st.err = 0) :
    Calls Try.prog 66 #[.pointer (some ⟨g, 0, none⟩)] w (fun e w' => e = .returned (.tuple #[]) ∧ PR8 w' n0 g L st (pfail st 4).1 (pfail st 4).2 ∧ Frm (PM n0 g w) w w') := by
  obtain ⟨pos, hrest, hpw⟩ := hps
  rw [pfail0 he]
  have HPW := Lib.hid hpw
  obtain ⟨hn0, hol, hpl, htl, hL, A, c, Ao, co, hb, hsl, hown⟩ := hpw
  simp only at hpl hol
  have hlen : L.length ≤ pos := by
    rw [hrest] at hr
    have := congrArg List.length hr
    rw [List.length_drop, List.length_nil] at this
    omega
  have hlt' : (L.length : Int) ≤ (pos : Int) := by omega
  have c0 := cell_blk hb 0
  have c1 := cell_blk hb 1
  have c4 := cell_blk hb 4
  simp only [List.getElem?_toArray, List.getElem?_cons_succ, List.getElem?_cons_zero] at c0 c1 c4
  have he' : (st.err != 0) = false := by rw [he]; rfl
  have HL := Lib.hid hlen; have HR := Lib.hid hrest; have HE := Lib.hid he
  clear hb hsl hown htl hol hpl hlen hrest he hr
  go_enter Try.func66, Try.ntmps66
  go_wp2_with fail
  go_quiet (fail)
  go_wp2_with fail
  refine (fail8_any n0 g L _ 4 _ (HPW.out.drewN _)).mono ?_
  rintro e w5 ⟨rfl, hw5, hf5⟩
  rw [qfail0 HE.out] at hw5
  go_wp2
  ((try simp only [Exit.inBlock, Exit.then]); first | refine bodyPost_ret (results_none rfl _ _ _) rfl ?_ | refine bodyPost_end (results_none rfl _ _ _) rfl ?_)
  exact ⟨rfl, ⟨fun h => (by cases h), fun _ => PE.of_fail 4 (by decide) hw5 rfl rfl (by simp [PSt.m, HR.out])⟩, PM.trans ((Frm.refl _ _).drewN _) hf5⟩

set_option maxRecDepth 100000 in
set_option maxHeartbeats 8000000 in
theorem prim8_sym (n0 g : Nat) (L : List Tok) (hV : ∀ t ∈ L, validT t = true) (f : Nat) (ihL : ∀ f', f' ≤ f → WLevel n0 g L f') (ihP : ∀ f', f' ≤ f → WPrim n0 g L f') (ihA : WArg8 n0 g L f)
    (st : PSt) (w : World) (x : Bool × PSt × Int) (t : Tok) (rr : List Tok) (hr : st.rest = t :: rr) (hkk : t.kind = 2 ∨ t.kind = 3) (hx : pr (f + 1) .single st = some x) (hps : PS w n0 g L st) (he : st.err = 0) (hd : 0 ≤ st.depth) (hd25 : st.depth ≤ 25) (hm : st.m ≤ 256) :
    Calls Try.prog 66 #[.pointer (some ⟨g, 0, none⟩)] w (fun e w' => e = .returned (.tuple #[]) ∧ PR8 w' n0 g L st x.1 x.2.1 ∧ Frm (PM n0 g w) w w') := by
  rw [pr, hr] at hx
  simp only at hx
  obtain ⟨pos, hrest, hpw⟩ := hps
  have HPW := Lib.hid hpw
  obtain ⟨hn0, hol, hpl, htl, hL, A, c, Ao, co, hb, hsl, hown⟩ := hpw
  simp only at hpl hol
  have hlt : pos < L.length := by
    rw [hrest] at hr
    have := congrArg List.length hr
    rw [List.length_drop, List.length_cons] at this
    omega
  have hrd : L[pos] :: L.drop (pos + 1) = t :: rr := by rw [← drop_get hlt, ← hrest, hr]
  injection hrd with ht hrr
  have htt : t.text.length ≤ 9223372036854775807 := htl _ (by rw [← ht]; simp)
  have hvt : validT t = true := hV _ (by rw [← ht]; simp)
  rw [valid_eq] at hvt
  obtain ⟨b, o, hA, hSb, hbs, k1, k2⟩ := hsl.tok (k := pos) hlt
  subst hA
  rw [ht] at k1 k2
  have hlt' : (pos : Int) < (L.length : Int) := by omega
  have hlt2 : ¬ ((L.length : Int) ≤ (pos : Int)) := by omega
  have hge' : (0 : Int) ≤ (pos : Int) := by omega
  have c0 := cell_blk hb 0
  have c1 := cell_blk hb 1
  have c4 := cell_blk hb 4
  simp only [List.getElem?_toArray, List.getElem?_cons_succ, List.getElem?_cons_zero] at c0 c1 c4
  have he' : (st.err != 0) = false := by rw [he]; rfl
  have hw1 : IntKind.i64.wrap ((pos : Int) + 1) = (pos : Int) + 1 := by simp [IntKind.wrap, IntKind.signed, IntKind.bits]; omega
  have hsm : st.out.length + (L.length - pos) = st.m := by simp [PSt.m, hrest]
  have HR := Lib.hid hrest; have HR2 := Lib.hid hr; have HE := Lib.hid he; have HRR := Lib.hid hrr; have HT := Lib.hid ht; have HTL := Lib.hid htl; have HVT := Lib.hid hvt; have HX := Lib.hid hx
  have IHL := Lib.hid ihL; have IHP := Lib.hid ihP; have IHA := Lib.hid ihA
  have hgw : g < w.heap.size := hpw_lt HPW.out
  clear hb hsl hown htl hrest he hr hrr ht hV hvt hx ihL ihP ihA
  go_enter Try.func66, Try.ntmps66
  go_wp2_with fail
  go_quiet (fail)
  go_wp2_with fail
  have hd := dN8 w nq
  have hbg : b ≠ g := by omega
  generalize w.drewN nq = w1 at *
  replace c0 := cell_later hd c0
  replace c1 := cell_later hd c1
  replace k1 := cell_later hd k1
  replace k2 := cell_later hd k2
  go_region_held3 (fun w' => w'.cell? ⟨g, 0, none⟩ = some (.slice (some ⟨b, o, none⟩) L.length c) ∧ w'.cell? ⟨g, 1, none⟩ = some (.int .i64 (pos : Int)) ∧ w'.cell? ⟨b, o + pos * 2, none⟩ = some (.int .i64 t.kind) ∧ w'.cell? ⟨b, o + pos * 2 + 1, none⟩ = some (.string ⟨t.text.toArray⟩))
    (((try go_split_ands); (try dsimp only); refine ⟨?_, ?_, ?_, ?_⟩ <;> ((repeat (first | (with_reducible assumption) | (with_reducible refine cell_alloc' ?_ _) | (with_reducible refine cell_drew' ?_) | (with_reducible refine cell_set ?_ (by assumption)) | (with_reducible refine cell_off (by decide) ?_) | (with_reducible refine cell_later (by assumption) ?_) | (with_reducible refine cell_grown (by assumption) ?_ (by simp; omega)))); done)))
    (fail)
  have hbel : Below w.heap.size w (w1.alloc (Obj.cells #[.int .i64 t.kind, .string ⟨t.text.toArray⟩] 54)).drew := (next hd ((Below.refl w1.heap.size w1).alloc (Nat.le_refl _) _) (Nat.le_refl _)).drew
  have hT2 : (w1.alloc (Obj.cells #[.int .i64 t.kind, .string ⟨t.text.toArray⟩] 54)).drew.heap[w1.heap.size]? = some (.cells #[.int .i64 t.kind, .string ⟨t.text.toArray⟩] 54 (0, 0)) := blkAt w1 _ rfl
  have hgt : g < w1.heap.size := Nat.lt_of_lt_of_le hgw hd.size
  have HP2 := Lib.hid (HPW.out.below hbel)
  generalize (w1.alloc (Obj.cells #[.int .i64 t.kind, .string ⟨t.text.toArray⟩] 54)).drew = w2 at *
  generalize w1.heap.size = tb at *
  have hp2 := HP2.out
  clear c0 c1 c4 k1 k2 hd HPW hSb hbs hbg
  obtain ⟨-, -, -, -, -, A, c, Ao, co, hb, hsl, hown⟩ := hp2
  have hgl2 : g < w2.heap.size := hpw_lt HP2.out
  have c0 := (cell_blk hb 0).trans rfl
  have c1 := (cell_blk hb 1).trans rfl
  have c2 := (cell_blk hb 2).trans rfl
  have c3 := (cell_blk hb 3).trans rfl
  have c4 := (cell_blk hb 4).trans rfl
  have z1 := frz_blk hb 1
  have z2 := frz_blk hb 2
  have z3 := frz_blk hb 3
  have t0 := (cell_blk hT2 0).trans rfl
  have t1 := (cell_blk hT2 1).trans rfl
  have HF2 := Lib.hid (Frm.any (M := PM n0 g w) hbel); clear hbel
  have HBX := Lib.hid hb; have HSX := Lib.hid hsl; have HOX := Lib.hid hown; have HTX := Lib.hid hT2; clear hb hsl hown hT2
  have hx := HX.out
  by_cases hk2 : t.kind = 2
  · rw [if_pos hk2] at hx
    injection hx with hx
    rw [← number_eq] at hx
    have hk2' : (t.kind == 2) = true := by rw [hk2]; rfl
    have HXX := Lib.hid hx; clear hx hk2
    go_wp2_with (first | (go_at_call 26; refine (unary8_any t.text 0 _ (by omega) (by omega)).mono ?_; rintro e w' ⟨rfl, rfl⟩) | (go_at_call 79; refine (number5_any t.text _ htt).mono ?_; rintro e w' ⟨rfl, rfl⟩) | (at_builtin; go_must (refine wpList_app1 rfl _ _ eltOpn rfl (by decide) rfl rfl rfl (HOX.out.alloc _) rfl [.int .i64 1, .string ⟨[].toArray⟩, .int .u32 (number5 t.text).1] ⟨1, [], (number5 t.text).1⟩ (blkAt _ _ rfl) rfl ⟨rfl, rfl, rfl⟩ (by omega) (by omega) (by simp; omega) ?_); intro A' c' w4 hown' hg hat; have hb4 := grownBlk hg (blkOld HBX.out _) (HOX.out.ne_lt (Nat.lt_succ_self g)); have hc42 := (cell_blk hb4 2).trans rfl; have hz42 := frz_blk hb4 2; have hc41 := (cell_blk hb4 1).trans rfl; have hz41 := frz_blk hb4 1; have hc43 := (cell_blk hb4 3).trans rfl; have hz43 := frz_blk hb4 3))
    have hput := put8 (q := ⟨pos, st.depth, st.out, st.err⟩) (o := ⟨1, [], (number5 t.text).1⟩) hn0 (by simp only; omega) hpl HTL.out hL HBX.out HSX.out HOX.out hown' hg
    ((try simp only [Exit.inBlock, Exit.then]); first | refine bodyPost_ret (results_none rfl _ _ _) rfl ?_ | refine bodyPost_end (results_none rfl _ _ _) rfl ?_)
    rw [← HXX.out]
    exact ⟨rfl, ⟨fun _ => ⟨⟨pos + 1, HRR.out.symm, hput.1.set1 (pos + 1) (by omega)⟩, HE.out⟩, fun h => by cases h⟩, PM.trans HF2.out (hput.1.frm hput.2 _ _)⟩
  · rw [if_neg hk2] at hx
    have hk2' : (t.kind == 2) = false := by rw [beq_eq_false_iff_ne]; exact hk2
    have htail : st.rest.tail = L.drop (pos + 1) := by rw [HR2.out]; exact HRR.out.symm
    have hst1 : ({ st with depth := st.depth + 1, rest := st.rest.tail } : PSt).m + 1 = st.m := by simp only [PSt.m, HR2.out, List.tail_cons, List.length_cons]; omega
    have hk2n := hk2; clear hk2
    by_cases hk3 : t.kind = 3
    · rw [if_pos hk3] at hx
      have hk3' : (t.kind == 3) = true := by rw [hk3]; rfl
      cases hu : isUn t.text
      · rw [hu, if_neg (by decide)] at hx
        have hun : (unS t.text 0).2 = false := by rw [unS_is, hu]
        have hk1' : (t.kind == 1) = false := by rw [hk3]; rfl
        have hsy := symbol8_any n0 g L _ [40] w2 HP2.out
        rw [pnext_qsym HR.out] at hsy
        obtain ⟨x1, h1, hx1, hx2, -⟩ := pzero_eq hx
        cases hn40 : pnext st [40]
        · rw [hn40] at hsy
          have HSY := Lib.hid hsy
          obtain ⟨hz1, hz2⟩ := pparens_no h1 hn40
          have hXX : x.1 = false ∧ x.2.1 = (pfail st 4).2 := ⟨hx1.trans hz1, hx2.trans hz2⟩
          have HXX := Lib.hid hXX
          clear hXX hsy hx h1 hx1 hx2 hz1 hz2 hn40 hu htail hst1 hk3
          go_wp2_with (first | (go_at_call 26; refine (unary8_any t.text 0 _ (by omega) (by omega)).mono ?_; rintro e w' ⟨rfl, rfl⟩) | (go_at_call 83; refine HSY.out.mono ?_; rintro e w' ⟨rfl, m4, rfl⟩))
          refine (fail8_any n0 g L _ 4 _ (HP2.out.drewN m4)).mono ?_
          rintro e w5 ⟨rfl, hw5, hf5⟩
          rw [qfail0 HE.out] at hw5
          go_wp2
          ((try simp only [Exit.inBlock, Exit.then]); first | refine bodyPost_ret (results_none rfl _ _ _) rfl ?_ | refine bodyPost_end (results_none rfl _ _ _) rfl ?_)
          rw [HXX.out.1, HXX.out.2]
          exact ⟨rfl, ⟨fun h => (by cases h), fun _ => by rw [pfail_err HE.out]; exact PE.of_fail 4 (by decide) hw5 rfl rfl (by simp only; omega)⟩, PM.trans (HF2.out.drewN m4) hf5⟩
        · rw [hn40] at hsy
          have HSY := Lib.hid hsy
          have hinner : ∀ wE, PW8 wE n0 g L (qenter ⟨pos, st.depth, st.out, st.err⟩) → Calls Try.prog 39 #[.pointer (some ⟨g, 0, none⟩), .int .i64 1] wE (fun e w3 => e = .returned (.tuple #[]) ∧ ∃ q3, PW8 w3 n0 g L q3 ∧ Frm (PM n0 g wE) wE w3 ∧ q3.out.length ≤ 300 ∧ -5 ≤ q3.depth ∧ q3.depth ≤ 40 ∧ QR L st.depth (st.m + 1) x.1 x.2.1 { (qexpect L q3 [41]) with depth := (qexpect L q3 [41]).depth - 1 }) := by
            intro wE hE
            rw [hx1, hx2]
            by_cases hdp : 24 < st.depth
            · rw [qenter_deep HE.out hdp] at hE
              obtain ⟨hz1, hz2⟩ := pparens_deep h1 hn40 hdp
              rw [hz1, hz2]
              refine (level8_err n0 g L _ (by simp) 10 1 1 wE rfl (by omega) (by omega) hE).mono ?_
              rintro e w3 ⟨rfl, hw3, hf3⟩
              have hq := QR.deep (L := L) HR.out HE.out (pfail st 11).2 (pfail_err HE.out 11)
              exact ⟨rfl, _, hw3, hf3, by simp only [PSt.m] at hm; simp only; omega, by simp only; omega, by simp only; omega, ((hq.close).down.more (Nat.le_succ _)).err_ rfl⟩
            · rw [qenter_ok HE.out hdp] at hE
              obtain ⟨y, h3, hz1, hz2, -⟩ := pparens_yes h1 hn40 hdp
              rw [hz1, hz2]
              refine (IHL.out f (Nat.le_refl f) 1 1 _ wE y rfl (by omega) (by omega) h3 ⟨pos + 1, htail, hE⟩ HE.out (by simp only; omega) (by simp only; omega) (by omega)).mono ?_
              rintro e w3 ⟨rfl, hw3, hf3⟩
              have hI := pr_inv _ _ _ _ h3
              obtain ⟨q3, hq3, hqr⟩ := hw3.qr hI.depth hI.m
              have hl := hqr.len
              simp only at hl
              exact ⟨rfl, q3, hq3, hf3, by omega, by omega, by omega, ((hqr.more (Nat.le_of_eq hst1)).close).down.more (Nat.le_succ _)⟩
          have HIN := Lib.hid hinner
          clear hinner hsy hx h1 hx1 hx2 hn40 hu htail hst1 hk3
          go_wp2_with (first | (go_at_call 26; refine (unary8_any t.text 0 _ (by omega) (by omega)).mono ?_; rintro e w' ⟨rfl, rfl⟩) | (go_at_call 83; refine HSY.out.mono ?_; rintro e w' ⟨rfl, m4, rfl⟩))
          refine (enter8_any n0 g L _ _ (HP2.out.drewN m4) (fun _ => hlt) hd).mono ?_
          rintro e w3 ⟨rfl, hw3, hf3⟩
          clear c0 c1 c2 c3 c4 z1 z2 z3 t0 t1
          have HW3 := Lib.hid hw3; have HF3 := Lib.hid hf3; clear hw3 hf3
          go_wp2_with fail
          refine (HIN.out _ HW3.out).mono ?_
          rintro e w5 ⟨rfl, q3, hq3, hf5, l1, l2, l3, hqr⟩
          have HQR := Lib.hid hqr; clear hqr
          have HF5 := Lib.hid (PM.trans (PM.trans (HF2.out.drewN m4) HF3.out) hf5)
          have HQ3 := Lib.hid hq3; clear hq3 hf5
          go_wp2_with fail
          refine (expect8_any n0 g L q3 [41] _ HQ3.out).mono ?_
          rintro e w6 ⟨rfl, hq6, hf6⟩
          have HQ6 := Lib.hid hq6
          have hde := qexpect_depth L q3 [41]
          obtain ⟨-, -, -, -, -, A6, c6, Ao6, co6, hb6, -, -⟩ := hq6
          have d3 := (cell_blk hb6 3).trans rfl
          have y3 := frz_blk hb6 3
          rw [hde] at d3
          have hwd : IntKind.i64.wrap (q3.depth - 1) = q3.depth - 1 := by simp [IntKind.wrap, IntKind.signed, IntKind.bits]; omega
          have HDE := Lib.hid hde
          clear hb6 hde
          go_wp2
          ((try simp only [Exit.inBlock, Exit.then]); first | refine bodyPost_ret (results_none rfl _ _ _) rfl ?_ | refine bodyPost_end (results_none rfl _ _ _) rfl ?_)
          have hfin := HQ6.out.set3 (q3.depth - 1)
          rw [← HDE.out] at hfin ⊢
          exact ⟨rfl, HQR.out.pr8 hfin, HQ6.out.frm (PM.trans HF5.out hf6) _ _⟩
      · rw [hu, if_pos rfl] at hx
        have hun : (unS t.text 0).2 = true := by rw [unS_is, hu]
        have hinner : ∀ wE, PW8 wE n0 g L (qenter ⟨pos, st.depth, st.out, st.err⟩) → Calls Try.prog 66 #[.pointer (some ⟨g, 0, none⟩)] wE (fun e w3 => e = .returned (.tuple #[]) ∧ ∃ q3, PW8 w3 n0 g L q3 ∧ Frm (PM n0 g wE) wE w3 ∧ q3.out.length ≤ 300 ∧ -5 ≤ q3.depth ∧ q3.depth ≤ 40 ∧ QR L st.depth (st.m + 1) x.1 x.2.1 { ({ q3 with depth := q3.depth - 1 } : Q8) with out := q3.out ++ [⟨6, t.text, 0⟩] }) := by
          intro wE hE
          obtain ⟨x1, h1, hx1, hx2⟩ := pthen_eq hx
          obtain ⟨x2, h2, hy1, hy2, hy3⟩ := pzero_eq h1
          rw [hx1, hx2, hy1, hy2, hy3]
          by_cases hdp : 24 < st.depth
          · rw [qenter_deep HE.out hdp] at hE
            obtain ⟨hz1, hz2, -⟩ := pwithin_deep h2 hdp
            rw [hz1, hz2]
            refine (prim8_err n0 g L _ wE hE (by simp)).mono ?_
            rintro e w3 ⟨rfl, hw3, hf3⟩
            have hq := QR.deep (L := L) HR.out HE.out (pfail st 11).2 (pfail_err HE.out 11)
            exact ⟨rfl, _, hw3, hf3, by simp only [PSt.m] at hm; simp only; omega, by simp only; omega, by simp only; omega, ((hq.down).put ⟨6, t.text, 0⟩).err_ rfl⟩
          · rw [qenter_ok HE.out hdp] at hE
            obtain ⟨y, h3, hz1, hz2, -⟩ := pwithin_ok h2 hdp
            rw [hz1, hz2]
            obtain ⟨f', rfl⟩ : ∃ f', f = f' + 1 := by
              cases f with
              | zero => cases h3
              | succ f' => exact ⟨f', rfl⟩
            have h3' := h3
            rw [pr, if_pos rfl] at h3'
            refine (IHP.out f' (by omega) _ wE y h3' ⟨pos + 1, htail, hE⟩ HE.out (by simp only; omega) (by simp only; omega) (by omega)).mono ?_
            rintro e w3 ⟨rfl, hw3, hf3⟩
            have hI := pr_inv _ _ _ _ h3
            obtain ⟨q3, hq3, hqr⟩ := hw3.qr hI.depth hI.m
            have hl := hqr.len
            simp only at hl
            exact ⟨rfl, q3, hq3, hf3, by omega, by omega, by omega, ((hqr.more (Nat.le_of_eq hst1)).down).put ⟨6, t.text, 0⟩⟩
        have HIN := Lib.hid hinner
        clear hinner hx hu htail hst1 hk3
        go_wp2_with (first | (go_at_call 26; refine (unary8_any t.text 0 _ (by omega) (by omega)).mono ?_; rintro e w' ⟨rfl, rfl⟩))
        refine (enter8_any n0 g L _ _ HP2.out (fun _ => hlt) hd).mono ?_
        rintro e w3 ⟨rfl, hw3, hf3⟩
        clear c0 c1 c2 c3 c4 z1 z2 z3 t0 t1
        have HW3 := Lib.hid hw3; have HF3 := Lib.hid hf3; clear hw3 hf3
        go_wp2_with fail
        refine (HIN.out _ HW3.out).mono ?_
        rintro e w5 ⟨rfl, q3, hq3, hf5, l1, l2, l3, hqr⟩
        have HQR := Lib.hid hqr; clear hqr
        have hT5 := (PM.trans HF3.out hf5).blk HTX.out (by decide) (by omega)
        have t1 := (cell_blk hT5 1).trans rfl
        have HF5 := Lib.hid (PM.trans (PM.trans HF2.out HF3.out) hf5)
        have hgl5 := hq3.lt
        have HQ3 := Lib.hid hq3
        obtain ⟨-, ol5, pl5, -, -, A5, c5, Ao5, co5, hb5, hsl5, hown5⟩ := hq3
        have d2 := (cell_blk hb5 2).trans rfl
        have d3 := (cell_blk hb5 3).trans rfl
        have y2 := frz_blk hb5 2
        have y3 := frz_blk hb5 3
        have hwd : IntKind.i64.wrap (q3.depth - 1) = q3.depth - 1 := by simp [IntKind.wrap, IntKind.signed, IntKind.bits]; omega
        obtain ⟨hb6, hs6, ho6⟩ := open3 hn0 hb5 hsl5 hown5 (q3.depth - 1)
        clear HBX HSX HOX hb5 hsl5 hown5 hT5 hf5 HIN HX HP2 HW3 HF3
        have hgl6 : g < (w5.setCell ⟨g, 3, none⟩ (.int .i64 (q3.depth - 1))).heap.size := by simpa [World.setCell] using hgl5
        have HBX := Lib.hid hb6; have HSX := Lib.hid hs6; have HOX := Lib.hid ho6; clear hb6 hs6 ho6
        go_wp2_with fail
        go_region_law ((go_must (refine (step_app1 (T := fun _ => False) (base := g + 1) (xs := q3.out) (t0 := 50) (fz := (0, 0)) rfl _ _ eltOpn rfl (by decide) rfl rfl rfl ?hown rfl [.int .i64 6, .string ⟨t.text.toArray⟩, .int .u32 0] (⟨6, t.text, 0⟩ : Opn) ?hb0 rfl ⟨rfl, rfl, rfl⟩ ?h63 ?hby ?hbase ?_)); go_must (case hown => exact ((HOX.out.alloc _).drew)); go_must (case hb0 => exact blkDrw (blkAt _ _ (by first | rfl | simp [World.setCell]))); go_must (case h63 => omega); go_must (case hby => omega); go_must (case hbase => simp; omega); intro A' c' w4 hown' hg hat; have hb4 := grownBlk hg (blkDrw (blkOld HBX.out _)) (HOX.out.ne_lt (Nat.lt_succ_self g)); have hc42 := (cell_blk hb4 2).trans rfl; have hz42 := frz_blk hb4 2; have hc41 := (cell_blk hb4 1).trans rfl; have hz41 := frz_blk hb4 1; have hc43 := (cell_blk hb4 3).trans rfl; have hz43 := frz_blk hb4 3; have hc44 := (cell_blk hb4 4).trans rfl))
        all_goals
          have hput := put8 (q := { q3 with depth := q3.depth - 1 }) (o := ⟨6, t.text, 0⟩) hn0 (by simp only; omega) pl5 HTL.out hL (blkDrw HBX.out) (HSX.out.below (Below.refl _ _).drew) HOX.out.drew hown' hg
          go_wp2
          ((try simp only [Exit.inBlock, Exit.then]); first | refine bodyPost_ret (results_none rfl _ _ _) rfl ?_ | refine bodyPost_end (results_none rfl _ _ _) rfl ?_)
          exact ⟨rfl, HQR.out.pr8 hput.1, PM.trans ((HQ3.out.frm HF5.out _ _).drew) hput.2⟩
    · exact absurd hkk (by simp only [not_or]; exact ⟨hk2n, hk3⟩)
end Go.Proofs.Ytchdpjgncojhaaa
