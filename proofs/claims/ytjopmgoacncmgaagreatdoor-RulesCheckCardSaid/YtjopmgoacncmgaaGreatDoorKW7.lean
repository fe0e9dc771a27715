/- Rules, reference: atoms, safe, at, insert. -/
import Derived.Test.YtjopmgoacncmgaaGreatDoorKW6
import Derived.Test.YtjopmgoacncmgaaGreatDoorAwkS
import Derived.Test.YtjopmgoacncmgaaGreatDoorKZ1
set_option linter.unusedVariables false
set_option linter.unusedSimpArgs false
namespace Go.Proofs.YtjopmgoacncmgaaGreatDoor
open Go.RowKit

set_option maxRecDepth 100000 in
set_option maxHeartbeats 2000000 in
theorem ratoms_any (r : Rul) (A1 : Option Addr) (n1 c1 : Nat) (A2 : Option Addr) (n2 c2 : Nat) (w : World) (S : Nat → Prop) (h1 : Sl w S A1 n1 c1 r.head.args) (h2 : Sl w S A2 n2 c2 r.body) (hlen : r.body.length ≤ 1000000) :
    Calls Tryz.prog 61 #[.agg #[.string ⟨r.head.name.toArray⟩, .slice A1 n1 c1, .slice A2 n2 c2]] w fun e w' => ∃ A c, e = .returned (.slice A (atomsS r).length c) ∧ Sl w' (fun b => S b ∨ w.heap.size ≤ b) A (atomsS r).length c (atomsS r) ∧ Below w.heap.size w w' := by
  obtain ⟨v, hv⟩ : ∃ v, v = atomsS r := ⟨_, rfl⟩
  rw [← hv]
  unfold atomsS at hv
  have hn2 := h2.len
  subst hn2
  have hle2 := h2.le
  have H1 := Lib.hid (h1.wide (S' := fun b => S b ∧ b < w.heap.size) (fun k hk hs => ⟨hs, hk⟩) (by decide)); have H2 := Lib.hid (h2.wide (S' := fun b => S b ∧ b < w.heap.size) (fun k hk hs => ⟨hs, hk⟩) (by decide)); clear h1 h2
  obtain ⟨⟨nm, args⟩, body⟩ := r
  simp only at H1 H2 hv hlen hle2 ⊢
  have HV := Lib.hid hv; clear hv
  go_enter Tryz.func61, Tryz.ntmps61
  go_wp2_with fail
  have hown0 : Own ((w.alloc (.cells #[.string ⟨nm.toArray⟩, .slice A1 n1 c1, .slice A2 body.length c2] 48)).alloc (.cells #[.string ⟨nm.toArray⟩, .slice A1 n1 c1] 45)) (fun b => S b ∧ b < w.heap.size) (w.heap.size + 1) 45 (some ⟨w.heap.size + 1, 0, none⟩) 1 [(⟨nm, args⟩ : Atm)] :=
    Own.lit (cs := [.string ⟨nm.toArray⟩, .slice A1 n1 c1]) (blkAt _ _ (by simp)) (Nat.le_refl _) rfl (by simp) (fun i h => by
      obtain rfl : i = 0 := by simp at h; omega
      exact ⟨rfl, A1, n1, c1, rfl, ((H1.out.alloc _).alloc _).wide (fun k _ hk => ⟨hk, by have := hk.2; omega⟩) (by decide)⟩)
  have hX0 := blkOld (blkAt w (.cells #[.string ⟨nm.toArray⟩, .slice A1 n1 c1, .slice A2 body.length c2] 48) rfl) (.cells #[.string ⟨nm.toArray⟩, .slice A1 n1 c1] 45)
  have HO0 := Lib.hid hown0; have HX0 := Lib.hid hX0; clear hown0 hX0
  have Hf : Hid (v = [(⟨nm, args⟩ : Atm)] ++ ((body.drop 0).filter fun l => !compsS l).map (·.atom)) := HV
  go_loopw [3, 4] (fun o i wr => ∃ k : Nat, k ≤ body.length ∧ i = .int .i64 k ∧ ∃ out A c, o = .slice A out.length c ∧ Own wr (fun b => S b ∧ b < w.heap.size) (w.heap.size + 1) 45 A c out ∧ out.length ≤ k + 1 ∧ Below w.heap.size w wr ∧ wr.heap[w.heap.size]? = some (.cells #[.string ⟨nm.toArray⟩, .slice A1 n1 c1, .slice A2 body.length c2] 48 (0, 0)) ∧ Hid (v = out ++ ((body.drop k).filter fun l => !compsS l).map (·.atom))) (fun _ i _ => body.length - (intOf i).toNat)
  case atStart => exact ⟨0, by omega, rfl, _, _, _, rfl, HO0.out, by simp, boxed.alloc (by simp) _, HX0.out, Hf⟩
  case round =>
    obtain ⟨k, hk, rfl, out, A, c, rfl, hown, hol, hb, hX, hf⟩ := hrel
    have k2 := (cell_blk hX 2).trans rfl
    have hxl := (Array.getElem?_eq_some_iff.1 hX).1
    by_cases hlt : k < body.length
    · obtain ⟨b, o, rfl, hbn, hbs, A3, n3, c3, h1, h2, h3, h4, hs⟩ := (H2.out.below hb).ltl hlt
      have hd := hf.out
      rw [drop_get hlt, atoms_spec] at hd
      simp only at hd
      generalize body[k] = x at *
      obtain ⟨neg, op, ⟨xnm, xargs⟩⟩ := x
      simp only [compsS] at h1 h2 h3 h4 hs hd
      have HO := Lib.hid hown; have HS := Lib.hid hs; have HX := Lib.hid hX; have HB := Lib.hid hb; clear hown hf hs hX hb
      cases op with
      | cons o1 orr =>
        have hob : ((o1 :: orr : Bs) == []) = false := rfl
        have HD := Lib.hid hd; clear hd
        go_wp2_with fail
        go_roundw
        case rel => exact ⟨k + 1, by omega, by go_num, out, A, c, rfl, HO.out, by omega, HB.out, HX.out, by show v = _; rw [HD.out]; simp [compsS]⟩
        case measure => simp [intOf]; omega
      | nil =>
        have HD := Lib.hid hd; clear hd
        go_wp2_with (at_builtin; refine wpList_app1 rfl _ _ eltAtm rfl (by decide) rfl rfl rfl (HO.out.alloc _) rfl [.string ⟨xnm.toArray⟩, .slice A3 n3 c3] (⟨xnm, xargs⟩ : Atm) (blkAt _ _ (by simp)) rfl ⟨rfl, A3, n3, c3, rfl, (HS.out.alloc _).wide (fun q _ hq => ⟨hq, HO.out.ne_lt (by have := hq.2; omega)⟩) (by decide)⟩ (by omega) (by omega) (by simp; omega) ?_; intro A' c' w2 hown' hg hat)
        have hX2 := grownBlk hg (blkOld HX.out _) (HO.out.ne_lt (by omega))
        go_roundw
        case rel => exact ⟨k + 1, by omega, by go_num, _, A', c', by simp, hown', by simp; omega, (HB.out.alloc (by omega) _).grown hg (by simp; omega) (fun q hq => by have := (HO.out.lt q hq).1; omega), hX2, by show v = _; rw [HD.out]; simp [compsS]⟩
        case measure => simp [intOf]; omega
    · have hv2 : v = out := by rw [hf.out, drop_end hlt]; simp
      subst hv2
      go_wp2_with fail
      go_ret
      exact ⟨A, c, rfl, (hown.sl (by decide)).wide (fun q _ hq => hq.elim (fun x => .inl x.1) (fun x => .inr (by have := (hown.lt q x).1; omega))) (by decide), hb⟩

set_option maxRecDepth 100000 in
set_option maxHeartbeats 4000000 in
theorem rsafe_any (r : Rul) (A1 : Option Addr) (n1 c1 : Nat) (A2 : Option Addr) (n2 c2 : Nat) (w : World) (S : Nat → Prop) (h1 : Sl w S A1 n1 c1 r.head.args) (h2 : Sl w S A2 n2 c2 r.body) (hlen : r.head.args.length + cntB r.body ≤ 1000000) :
    Calls Tryz.prog 60 #[.agg #[.string ⟨r.head.name.toArray⟩, .slice A1 n1 c1, .slice A2 n2 c2]] w fun e w' => e = .returned (.bool (safeS r)) ∧ Below w.heap.size w w' := by
  rw [← safe_eq]
  obtain ⟨v, hv⟩ : ∃ v, v = rsafeS r := ⟨_, rfl⟩
  rw [← hv]
  unfold rsafeS at hv
  simp only at hv
  obtain ⟨P, hP⟩ : ∃ P, P = rsafeGo [] (addV [] r.head.args) r.body := ⟨_, rfl⟩
  rw [← hP] at hv
  have hn2 := h2.len
  subst hn2
  have hle2 := h2.le
  have ha1 := addV_len r.head.args []
  have H1 := Lib.hid (h1.wide (S' := fun b => b < w.heap.size) (fun k hk _ => hk) (by decide)); have H2 := Lib.hid (h2.wide (S' := fun b => b < w.heap.size) (fun k hk _ => hk) (by decide)); clear h1 h2
  obtain ⟨⟨nm, args⟩, body⟩ := r
  simp only at H1 H2 hP hlen ha1 hle2 ⊢
  simp only [List.length_nil, Nat.zero_add] at ha1
  have HV := Lib.hid hv; clear hv
  have HP : Hid (P = rsafeGo [] (addV [] args) (body.drop 0)) := hP; clear hP
  go_enter Tryz.func60, Tryz.ntmps60
  go_wp2_with fail
  refine (added_any (w.heap.size + 1) none 0 [] A1 n1 c1 args _ _ (Own.nil _ _ _ _) (H1.out.alloc _) (fun k _ e => by cases e) (by simp) (by simp; omega)).mono ?_
  rintro e w1 ⟨B1, d1, rfl, hown1, hg1, hat1⟩
  have hX := grownBlk hg1 (blkAt w (.cells #[.string ⟨nm.toArray⟩, .slice A1 n1 c1, .slice A2 body.length c2] 48) rfl) (fun e => by cases e)
  have hb1 : Below w.heap.size w w1 := (Below.refl _ _).grown (grown_alloc _ hg1) (Nat.le_refl _) (fun k e => by cases e)
  have HO1 := Lib.hid hown1; have HB1 := Lib.hid hb1; have HX1 := Lib.hid hX
  clear hown1 hg1 hat1 hb1 hX
  go_wp2_with fail
  go_loopw [3, 4, 5] (fun bo av i wr => ∃ k : Nat, k ≤ body.length ∧ i = .int .i64 k ∧ ∃ (bd ak : List Bs) (A B : Option Addr) (c d : Nat), bo = .slice A bd.length c ∧ av = .slice B ak.length d ∧ Own wr (fun _ => False) (w.heap.size + 1) 9 A c bd ∧ Own wr (fun _ => False) (w.heap.size + 1) 9 B d ak ∧ (∀ q, A.map Addr.block = some q → B.map Addr.block ≠ some q) ∧ Below w.heap.size w wr ∧ wr.heap[w.heap.size]? = some (.cells #[.string ⟨nm.toArray⟩, .slice A1 n1 c1, .slice A2 body.length c2] 48 (0, 0)) ∧ bd.length + ak.length + cntB (body.drop k) ≤ args.length + cntB body ∧ Hid (P = rsafeGo bd ak (body.drop k))) (fun _ _ i _ => body.length - (intOf i).toNat)
  case atStart => exact ⟨0, by omega, rfl, [], _, none, B1, 0, d1, rfl, rfl, Own.nil _ _ _ _, HO1.out, fun q e => (by cases e), HB1.out, HX1.out, by simp; omega, HP⟩
  case round =>
    obtain ⟨k, hk, rfl, bd, ak, A, B, c, d, rfl, rfl, hoA, hoB, hdj, hb, hX, hol, hf⟩ := hrel
    have hwr := hb.size
    have k2 := (cell_blk hX 2).trans rfl
    have hxl := (Array.getElem?_eq_some_iff.1 hX).1
    by_cases hlt : k < body.length
    · obtain ⟨b, o, rfl, hbn, hbs, A3, n3, c3, h1, h2, h3, h4, hs⟩ := (H2.out.below hb).ltl hlt
      have hd := hf.out
      rw [drop_get hlt, rsafeGo] at hd
      rw [cntB_drop hlt] at hol
      generalize body[k] = x at *
      obtain ⟨neg, op, ⟨xnm, xargs⟩⟩ := x
      simp only [posS, compsS] at h1 h2 h3 h4 hs hd hol
      have hln1 := addV_len xargs bd
      have hln2 := addV_len xargs ak
      have haA := added_any (w.heap.size + 1) A c bd A3 n3 c3 xargs (wr.alloc (.cells #[.bool neg, .string ⟨op.toArray⟩, .string ⟨xnm.toArray⟩, .slice A3 n3 c3] 54)) _ (hoA.alloc _) (hs.alloc _) (fun q hq e => by have := (hoA.lt q e).1; omega) (by simp; omega) (by omega)
      have haB := added_any (w.heap.size + 1) B d ak A3 n3 c3 xargs (wr.alloc (.cells #[.bool neg, .string ⟨op.toArray⟩, .string ⟨xnm.toArray⟩, .slice A3 n3 c3] 54)) _ (hoB.alloc _) (hs.alloc _) (fun q hq e => by have := (hoB.lt q e).1; omega) (by simp; omega) (by omega)
      have y0 := (cell_blk (blkAt wr (.cells #[.bool neg, .string ⟨op.toArray⟩, .string ⟨xnm.toArray⟩, .slice A3 n3 c3] 54) rfl) 0).trans rfl
      have y1 := (cell_blk (blkAt wr (.cells #[.bool neg, .string ⟨op.toArray⟩, .string ⟨xnm.toArray⟩, .slice A3 n3 c3] 54) rfl) 1).trans rfl
      have HOA := Lib.hid hoA; have HOB := Lib.hid hoB; have HDJ := Lib.hid hdj; have HX := Lib.hid hX; have HB := Lib.hid hb; have HAA := Lib.hid haA; have HAB := Lib.hid haB
      have hcs : ((op == [] && !neg) = true ∧ P = rsafeGo (addV bd xargs) ak (body.drop (k + 1))) ∨ ((op == [] && !neg) = false ∧ P = rsafeGo bd (addV ak xargs) (body.drop (k + 1))) := by
        cases op <;> cases neg <;> simp_all
      have HCS := Lib.hid hcs
      clear hoA hoB hdj hX hb haA haB hf hs hcs hd
      rcases HCS.out with ⟨hc, hp⟩ | ⟨hc, hp⟩
      · have HPP := Lib.hid hp; clear hp HCS HAB
        simp only [Bool.and_eq_true, beq_iff_eq, Bool.not_eq_true'] at hc
        obtain ⟨rfl, rfl⟩ := hc
        go_wp2_with fail
        refine HAA.out.mono ?_
        rintro e w2 ⟨B2, d2, rfl, hown2, hg2, hat2⟩
        have hX2 := grownBlk hg2 (blkOld HX.out _) (HOA.out.ne_lt (by omega))
        have hoB2 := (HOB.out.alloc (.cells #[.bool false, .string ⟨#[]⟩, .string ⟨xnm.toArray⟩, .slice A3 n3 c3] 54)).keep (w' := w2) (fun q hq hs => hg2.block q hq (fun e => by
          rcases hs with hs | hs
          · exact hs
          · exact HDJ.out q e.symm hs))
        go_wp2_with fail
        go_roundw
        case rel => exact ⟨k + 1, by omega, by go_num, _, ak, B2, B, d2, d, rfl, rfl, hown2, hoB2, fun q hq => by
            rcases hat2 with h | ⟨z, h, hz⟩
            · rw [h] at hq; exact HDJ.out q hq
            · rw [h] at hq; injection hq with hq; subst hq; simp at hz; exact HOB.out.ne (by omega), (HB.out.alloc hwr _).grown hg2 (by simp; omega) (fun q hq => by have := (HOA.out.lt q hq).1; omega), hX2, by omega, HPP⟩
        case measure => simp [intOf]; omega
      · have HPP := Lib.hid hp; clear hp HCS HAA
        cases op with
        | cons o1 orr =>
          have hob : ((o1 :: orr : Bs) == []) = false := rfl
          clear hc
          go_wp2_with fail
          refine HAB.out.mono ?_
          rintro e w2 ⟨B2, d2, rfl, hown2, hg2, hat2⟩
          have hX2 := grownBlk hg2 (blkOld HX.out _) (HOB.out.ne_lt (by omega))
          have hoA2 := (HOA.out.alloc (.cells #[.bool neg, .string ⟨(o1 :: orr).toArray⟩, .string ⟨xnm.toArray⟩, .slice A3 n3 c3] 54)).keep (w' := w2) (fun q hq hs => hg2.block q hq (fun e => by
            rcases hs with hs | hs
            · exact hs
            · exact HDJ.out q hs e.symm))
          go_wp2_with fail
          go_roundw
          case rel => exact ⟨k + 1, by omega, by go_num, bd, _, A, B2, c, d2, rfl, rfl, hoA2, hown2, fun q hq e => by
              rcases hat2 with h | ⟨z, h, hz⟩
              · rw [h] at e; exact HDJ.out q hq e
              · rw [h] at e; injection e with e; subst e; simp at hz; exact HOA.out.ne (by omega) hq, (HB.out.alloc hwr _).grown hg2 (by simp; omega) (fun q hq => by have := (HOB.out.lt q hq).1; omega), hX2, by omega, HPP⟩
          case measure => simp [intOf]; omega
        | nil =>
          obtain rfl : neg = true := by simpa using hc
          clear hc
          go_wp2_with fail
          refine HAB.out.mono ?_
          rintro e w2 ⟨B2, d2, rfl, hown2, hg2, hat2⟩
          have hX2 := grownBlk hg2 (blkOld HX.out _) (HOB.out.ne_lt (by omega))
          have hoA2 := (HOA.out.alloc (.cells #[.bool true, .string ⟨#[]⟩, .string ⟨xnm.toArray⟩, .slice A3 n3 c3] 54)).keep (w' := w2) (fun q hq hs => hg2.block q hq (fun e => by
            rcases hs with hs | hs
            · exact hs
            · exact HDJ.out q hs e.symm))
          go_wp2_with fail
          go_roundw
          case rel => exact ⟨k + 1, by omega, by go_num, bd, _, A, B2, c, d2, rfl, rfl, hoA2, hown2, fun q hq e => by
              rcases hat2 with h | ⟨z, h, hz⟩
              · rw [h] at e; exact HDJ.out q hq e
              · rw [h] at e; injection e with e; subst e; simp at hz; exact HOA.out.ne (by omega) hq, (HB.out.alloc hwr _).grown hg2 (by simp; omega) (fun q hq => by have := (HOB.out.lt q hq).1; omega), hX2, by omega, HPP⟩
          case measure => simp [intOf]; omega
    · have hd := hf.out
      rw [drop_end hlt] at hd
      have hd : P = (bd, ak) := hd
      have hvv := HV.out
      rw [hd] at hvv
      have HW : Hid (v = (ak.drop 0).all fun s => bd.contains s) := hvv
      have SA := Lib.hid (hoA.sl (by decide)); have SB := Lib.hid (hoB.sl (by decide)); have HB := Lib.hid hb
      have hle := (hoB.sl (by decide)).le
      clear hd hvv hf hX hoA hoB hb
      go_wp2_with fail
      go_loop [7] (fun i => ∃ q : Nat, q ≤ ak.length ∧ i = .int .i64 q ∧ Hid (v = (ak.drop q).all fun s => bd.contains s)) (fun i => ak.length - (intOf i).toNat)
      case atStart => exact ⟨0, by omega, rfl, HW⟩
      case round =>
        obtain ⟨q, hq, rfl, hg⟩ := hrel
        by_cases hltq : q < ak.length
        · obtain ⟨b4, o4, rfl, -, hbs4, z1⟩ := SB.out.str hltq
          have hd := hg.out
          rw [drop_get hltq, List.all_cons] at hd
          generalize ak[q] = s at *
          have hh := rhas_any A bd.length c bd s wr _ SA.out
          cases hcn : bd.contains s
          · rw [hcn] at hd hh
            have HD := Lib.hid (show v = false by rw [hd]; rfl); have HH := Lib.hid hh; clear hd hg hh hcn
            go_wp2_with fail
            refine HH.out.mono ?_
            rintro e w' ⟨rfl, rfl⟩
            go_wp2_with fail
            go_ret
            exact ⟨ret_bool HD.out, HB.out⟩
          · rw [hcn] at hd hh
            have HD := Lib.hid (show v = (ak.drop (q + 1)).all fun s => bd.contains s by rw [hd]; rfl); have HH := Lib.hid hh; clear hd hg hh hcn
            go_wp2_with fail
            refine HH.out.mono ?_
            rintro e w' ⟨rfl, rfl⟩
            go_wp2_with fail
            go_round
            case rel => exact ⟨q + 1, by omega, by go_num, HD.out⟩
            case measure => simp [intOf]; omega
        · have hd := hg.out
          rw [drop_end hltq] at hd
          have HD := Lib.hid (show v = true from hd); clear hd hg
          go_wp2_with fail
          go_ret
          exact ⟨ret_bool HD.out, HB.out⟩

theorem atS_nat (s : Bs) (l : List Bs) : ∀ k, atS s l k = -1 ∨ ∃ i, i < l.length ∧ atS s l k = (k + i : Nat) := by
  induction l with
  | nil => intro k; exact .inl rfl
  | cons a r ih =>
    intro k
    rw [atS]
    split
    · exact .inr ⟨0, by simp, by simp⟩
    · rcases ih (k + 1) with h | ⟨i, h, e⟩
      · exact .inl h
      · exact .inr ⟨i + 1, by simpa using h, by rw [e]; congr 1; omega⟩

set_option maxHeartbeats 1000000 in
theorem rat_any (A : Option Addr) (n c : Nat) (l : List Bs) (s : Bs) (w : World) (S : Nat → Prop) (hl : Sl w S A n c l) :
    Calls Tryz.prog 110 #[.slice A n c, .string ⟨s.toArray⟩] w fun e w' => e = .returned (.int .i64 (atS s l 0)) ∧ w' = w := by
  obtain ⟨v, hv⟩ : ∃ v, v = atS s l 0 := ⟨_, rfl⟩
  rw [← hv]
  have hn := hl.len
  subst hn
  have hle := hl.le
  have Hf : Hid (v = atS s (l.drop 0) 0) := hv
  have HL := Lib.hid hl; clear hv hl
  go_enter Tryz.func110, Tryz.ntmps110
  go_wp2_with fail
  go_loop [5] (fun i => ∃ k : Nat, k ≤ l.length ∧ i = .int .i64 k ∧ Hid (v = atS s (l.drop k) k)) (fun i => l.length - (intOf i).toNat)
  case atStart => exact ⟨0, by omega, rfl, Hf⟩
  case round =>
    obtain ⟨k, hk, rfl, hf⟩ := hrel
    by_cases hlt : k < l.length
    · obtain ⟨b, o, rfl, -, hbs, h1⟩ := HL.out.str hlt
      have hd := hf.out
      rw [drop_get hlt, atS] at hd
      generalize l[k] = x at *
      by_cases hx : x = s
      · have hxb : (x == s) = true := by simp [hx]
        rw [hxb, if_pos rfl] at hd
        have HD := Lib.hid hd; clear hd hf hx
        go_wp2_with fail
        go_ret
        exact ⟨ret_int HD.out, rfl⟩
      · have hxb : (x == s) = false := by simpa using hx
        rw [hxb, if_neg (by simp)] at hd
        have HD := Lib.hid hd; clear hd hf hx
        go_wp2_with fail
        go_round
        case rel => exact ⟨k + 1, by omega, by go_num, HD.out⟩
        case measure => simp [intOf]; omega
    · have hd := hf.out
      rw [drop_end hlt] at hd
      have HD := Lib.hid (show v = -1 from hd); clear hd hf
      go_wp2_with fail
      go_ret
      exact ⟨ret_int HD.out, rfl⟩
end Go.Proofs.YtjopmgoacncmgaaGreatDoor
