/- A part of the proofs of the laws of one package; see the law's own text, which comes last in 'order'. No conditions of its own. -/
import Derived.Test.YtpeamehplhpcjaaGreatDoorZ09
set_option linter.unusedVariables false
set_option linter.unusedSimpArgs false
namespace Go.Proofs.YtpeamehplhpcjaaGreatDoor
open Go.RowKit
@[go_sem] theorem run_store_fn {P : Program} {a : Addr} {m : Mode} {w : World} (fn : Fn) (first captured : Array Value) : (store a (.func fn first captured) m).run P w = stored P w a (.func fn first captured) m := run_store P w a _ m rfl
set_option maxHeartbeats 400000 in
theorem named_any (s : Bs) (w : World) (hs : s.length ≤ 4294967000) :
    Calls Tryz.prog 104 #[.string ⟨s.toArray⟩] w fun e w' => e = .returned (.bool (nameT s)) ∧ Below w.heap.size w w' := by
  have HN := Lib.hid (name_any s w (by omega))
  go_enter Tryz.func104, Tryz.ntmps104
  go_wp2_with (first | (go_at_call 84; refine HN.out.mono ?_; rintro e w1 ⟨rfl, hb⟩))
  go_ret
  exact ⟨rfl, hb⟩
set_option maxHeartbeats 400000 in
theorem unnamed_any (s : Bs) (g : Nat) (w : World) (hs : s.length ≤ 4294967000) (hg : w.cell? ⟨g, 0, none⟩ = some (.func (.func 104) #[] #[])) :
    Calls Tryz.prog 105 #[.string ⟨s.toArray⟩, .pointer (some ⟨g, 0, none⟩)] w fun e w' => e = .returned (.bool (!nameT s)) ∧ Below w.heap.size w w' := by
  have HN := Lib.hid (named_any s w hs)
  go_enter Tryz.func105, Tryz.ntmps105
  go_wp2_with fail
  refine HN.out.mono ?_
  rintro e w1 ⟨rfl, hb⟩
  go_wp2_with fail
  go_ret
  exact ⟨rfl, hb⟩
structure CkW (w W : World) (h : Array Value) : Prop where
  bl : Below w.heap.size w W
  hd : W.heap[w.heap.size]? = some (.cells h 79 (0, 0))
  fn : W.cell? ⟨w.heap.size + 1, 0, none⟩ = some (.func (.func 104) #[] #[])
theorem CkW.below {w W W' : World} {h : Array Value} (H : CkW w W h) (hb : Below W.heap.size W W') : CkW w W' h := ⟨H.bl.trans (hb.mono H.bl.size), keptBlk hb H.hd, cell_later hb H.fn⟩
def tailE (ps : List Bs) (N : Int) : Int := if dupS [] ps then 6 else if 8 < ps.length then 10 else if 1024 < N then 3 else 0
def badN (k : Int) (nm : Bs) : Bool := if k = 1 then !isRefS nm else if k = 6 then false else !nameT nm
theorem headE_eq (k m : Int) (nm : Bs) (ps : List Bs) (N : Int) : headE ⟨k, m, nm, ps, N⟩ = if badN k nm then 2 else if ps.any (fun p => !nameT p) then 2 else tailE ps N := by
  unfold headE badN tailE
  simp only
  by_cases h1 : k = 1
  · subst h1
    cases isRefS nm <;> simp
  · by_cases h6 : k = 6
    · subst h6; simp
    · simp only [h1, h6, false_and, if_false, ne_eq, not_false_eq_true, true_and]
      cases nameT nm <;> simp
set_option maxHeartbeats 4000000 in
theorem check_any (k m : Int) (nm : Bs) (ps : List Bs) (N : Int) (A : Option Addr) (n c : Nat) (w : World) (S : Nat → Prop) (hl : Sl w S A n c ps) (hL : LS w) (hs : nm.length ≤ 4294967000) (hs2 : ∀ p ∈ ps, p.length ≤ 4294967000) :
    Calls Tryz.prog 77 #[.agg #[.int .i64 k, .int .i64 m, .string ⟨nm.toArray⟩, .slice A n c, .int .i64 N]] w fun e w' => e = .returned (.int .i64 (headE ⟨k, m, nm, ps, N⟩)) ∧ Below w.heap.size w w' := by
  rw [headE_eq]
  have hn := hl.len
  have hnc := hl.2.1
  subst hn
  have hlen : ps.length ≤ 9223372036854775807 := hl.le
  have hall : ∀ g w1, Below w.heap.size w w1 → w1.cell? ⟨g, 0, none⟩ = some (.func (.func 104) #[] #[]) → Calls Tryz.prog 78 #[.slice A ps.length c, .func (.func 105) #[] #[.pointer (some ⟨g, 0, none⟩)]] w1 fun e w' => e = .returned (.bool (ps.any fun p => !nameT p)) ∧ Below w1.heap.size w1 w' :=
    fun g w1 hb hg => conB_any A _ c w1 _ _ (hl.below hb) 105 #[.pointer (some ⟨g, 0, none⟩)] (fun _ _ => by kernel_rfl) (fun p => !nameT p) (fun x hx w2 hb2 => unnamed_any x g w2 (hs2 x hx) (cell_later hb2 hg))
  have hnm := fun w => named_any nm w hs
  have hrf := fun w h => isref_any nm w h hs
  have hbd : badN k nm = if k = 1 then !isRefS nm else if k = 6 then false else !nameT nm := rfl
  generalize badN k nm = bad at *
  generalize (ps.any fun p => !nameT p) = ba at *
  generalize isRefS nm = q1 at *
  generalize nameT nm = q2 at *
  obtain ⟨T, hT⟩ : ∃ T, T = tailE ps N := ⟨_, rfl⟩
  rw [← hT]
  have HA := Lib.hid hall; have HN := Lib.hid hnm; have HR := Lib.hid hrf; have HT := Lib.hid hT; have HL := Lib.hid hL; have HSL := Lib.hid hl
  clear hall hnm hrf hT hL hl hs2
  go_enter Tryz.func77, Tryz.ntmps77
  go_upto_block 0 with fail
  have hW : CkW w ((w.alloc (.cells #[.int .i64 k, .int .i64 m, .string ⟨nm.toArray⟩, .slice A ps.length c, .int .i64 N] 79)).alloc (.cells #[.func (.func 104) #[] #[]] 76)) #[.int .i64 k, .int .i64 m, .string ⟨nm.toArray⟩, .slice A ps.length c, .int .i64 N] :=
    ⟨belowA (belowA (Below.refl _ _) _) _, blkOld (blkAt _ _ rfl) _, (cell_blk (blkAt _ _ (by simp)) 0).trans rfl⟩
  generalize ((w.alloc (.cells #[.int .i64 k, .int .i64 m, .string ⟨nm.toArray⟩, .slice A ps.length c, .int .i64 N] 79)).alloc (.cells #[.func (.func 104) #[] #[]] 76)) = W at *
  have HW := Lib.hid hW; clear hW
  go_cut [] from 6 to 35 (fun wx => bad = false ∧ ba = false ∧ CkW w wx #[.int .i64 k, .int .i64 m, .string ⟨nm.toArray⟩, .slice A ps.length c, .int .i64 N])
  case first =>
    have p0 := (cell_blk HW.out.hd 0).trans rfl
    have p2 := (cell_blk HW.out.hd 2).trans rfl
    by_cases h1 : k = 1
    · subst h1
      rw [if_pos rfl] at hbd
      cases q1 with
      | false =>
        have hb2 : bad = true := hbd
        clear hbd
        subst hb2
        go_wp2_with fail
        refine (HR.out _ (HL.out.below HW.out.bl)).mono ?_
        rintro e w1 ⟨rfl, hb1⟩
        have HW1 := Lib.hid (HW.out.below hb1)
        clear hb1
        go_wp2_with fail
        go_ret
        exact ⟨rfl, HW1.out.bl⟩
      | true =>
        have hb2 : bad = false := hbd
        clear hbd
        subst hb2
        go_wp2_with fail
        refine (HR.out _ (HL.out.below HW.out.bl)).mono ?_
        rintro e w1 ⟨rfl, hb1⟩
        have HW1 := Lib.hid (HW.out.below hb1)
        clear hb1
        have p0 := (cell_blk HW1.out.hd 0).trans rfl
        have p3 := (cell_blk HW1.out.hd 3).trans rfl
        have HA1 := Lib.hid (HA.out _ _ HW1.out.bl HW1.out.fn)
        go_wp2_with fail
        refine HA1.out.mono ?_
        rintro e w2 ⟨rfl, hb2⟩
        have HW2 := Lib.hid (HW1.out.below hb2)
        clear hb2 p3
        cases ba with
        | true =>
          go_wp2_with fail
          go_ret
          exact ⟨rfl, HW2.out.bl⟩
        | false =>
          go_wp2_with fail
          go_meet
          exact ⟨by first | rfl | trivial, by first | rfl | trivial, HW2.out⟩
    · have n1 : (k == 1) = false := by rw [beq_eq_false_iff_ne]; exact h1
      have m1 : (k != 1) = true := by rw [bne, n1]; rfl
      rw [if_neg h1] at hbd
      by_cases h6 : k = 6
      · subst h6
        have hb2 : bad = false := hbd
        clear hbd
        subst hb2
        have p3 := (cell_blk HW.out.hd 3).trans rfl
        have HA1 := Lib.hid (HA.out _ _ HW.out.bl HW.out.fn)
        go_wp2_with fail
        refine HA1.out.mono ?_
        rintro e w2 ⟨rfl, hb2⟩
        have HW2 := Lib.hid (HW.out.below hb2)
        clear hb2 p3
        cases ba with
        | true =>
          go_wp2_with fail
          go_ret
          exact ⟨rfl, HW2.out.bl⟩
        | false =>
          go_wp2_with fail
          go_meet
          exact ⟨by first | rfl | trivial, by first | rfl | trivial, HW2.out⟩
      · have n6 : (k == 6) = false := by rw [beq_eq_false_iff_ne]; exact h6
        have m6 : (k != 6) = true := by rw [bne, n6]; rfl
        rw [if_neg h6] at hbd
        have fn := HW.out.fn
        cases q2 with
        | false =>
          have hb2 : bad = true := hbd
          clear hbd
          subst hb2
          go_wp2_with fail
          refine (HN.out _).mono ?_
          rintro e w1 ⟨rfl, hb1⟩
          have HW1 := Lib.hid (HW.out.below hb1)
          clear hb1
          go_wp2_with fail
          go_ret
          exact ⟨rfl, HW1.out.bl⟩
        | true =>
          have hb2 : bad = false := hbd
          clear hbd
          subst hb2
          go_wp2_with fail
          refine (HN.out _).mono ?_
          rintro e w1 ⟨rfl, hb1⟩
          have HW1 := Lib.hid (HW.out.below hb1)
          clear hb1
          have p3 := (cell_blk HW1.out.hd 3).trans rfl
          have HA1 := Lib.hid (HA.out _ _ HW1.out.bl HW1.out.fn)
          go_wp2_with fail
          refine HA1.out.mono ?_
          rintro e w2 ⟨rfl, hb2⟩
          have HW2 := Lib.hid (HW1.out.below hb2)
          clear hb2 p3
          cases ba with
          | true =>
            go_wp2_with fail
            go_ret
            exact ⟨rfl, HW2.out.bl⟩
          | false =>
            go_wp2_with fail
            go_meet
            exact ⟨by first | rfl | trivial, by first | rfl | trivial, HW2.out⟩
  case rest =>
    obtain ⟨rfl, rfl, hW⟩ := hcut
    clear HW HN HR HA hbd HL
    have HW := Lib.hid hW; clear hW
    have p3 := (cell_blk HW.out.hd 3).trans rfl
    have hT := HT.out
    unfold tailE at hT
    obtain ⟨T2, hT2⟩ : ∃ T2 : Int, T2 = if 8 < ps.length then 10 else if 1024 < N then 3 else 0 := ⟨_, rfl⟩
    rw [← hT2] at hT
    have Hf : Hid (T = if dupS (ps.take 0) (ps.drop 0) then 6 else T2) := Lib.hid hT
    have HT2 := Lib.hid hT2
    clear hT hT2 HT
    go_wp2_with fail
    go_loopw [39] (fun i wr => ∃ j : Nat, j ≤ ps.length ∧ i = .int .i64 j ∧ wr = wc ∧ Hid (T = if dupS (ps.take j) (ps.drop j) then 6 else T2)) (fun i _ => ps.length - (intOf i).toNat)
    case atStart => exact ⟨0, by omega, rfl, rfl, Hf⟩
    case round =>
      obtain ⟨j, hj, rfl, rfl, hf⟩ := hrel
      by_cases hlt : j < ps.length
      · obtain ⟨b, o, rfl, -, hbs, c0⟩ := (HSL.out.below HW.out.bl).str hlt
        have c0 : wr.cell? ⟨b, o + j, none⟩ = some (.string ⟨ps[j].toArray⟩) := by simpa using c0
        have hd := hf.out
        rw [drop_get hlt, dupS] at hd
        have hcn := contains_any _ j c wr _ (ps.take j) ps[j] ((HSL.out.below HW.out.bl).take (by omega))
        have htk : ps.take j ++ [ps[j]] = ps.take (j + 1) := by rw [List.take_succ_eq_append_getElem hlt]
        rw [htk] at hd
        generalize (ps.take j).contains ps[j] = q at *
        generalize ps[j] = x at *
        have HD := Lib.hid hd; have HC := Lib.hid hcn
        clear hd hcn hf htk
        have hjc : (j : Int) ≤ (c : Int) := by omega
        go_wp2_with fail
        refine HC.out.mono ?_
        rintro e w1 ⟨rfl, rfl⟩
        cases q with
        | true =>
          go_wp2_with fail
          go_ret
          exact ⟨ret_int HD.out, HW.out.bl⟩
        | false =>
          go_wp2_with fail
          go_roundw
          case rel => exact ⟨j + 1, by omega, by go_num, by first | rfl | trivial, HD⟩
          case measure => simp [intOf]; omega
      · have hd : T = T2 := by
          have := hf.out
          rw [drop_end hlt, dupS] at this
          exact this
        have HD := Lib.hid hd
        clear hf hd Hf
        have q3 := (cell_blk HW.out.hd 3).trans rfl
        have q4 := (cell_blk HW.out.hd 4).trans rfl
        have h2 := HT2.out
        by_cases h8 : (8 : Int) < (ps.length : Int)
        · rw [if_pos (by omega)] at h2
          have H2 := Lib.hid (HD.out.trans h2)
          clear h2
          go_wp2_with fail
          go_ret
          exact ⟨ret_int H2.out, HW.out.bl⟩
        · rw [if_neg (by omega)] at h2
          by_cases hN : 1024 < N
          · rw [if_pos hN] at h2
            have H2 := Lib.hid (HD.out.trans h2)
            clear h2
            go_wp2_with fail
            go_ret
            exact ⟨ret_int H2.out, HW.out.bl⟩
          · rw [if_neg hN] at h2
            have H2 := Lib.hid (HD.out.trans h2)
            clear h2
            go_wp2_with fail
            go_ret
            exact ⟨ret_int H2.out, HW.out.bl⟩
theorem parseH_eq (s : Bs) (h : s ≠ []) : parseH s = if !(shapeS (splitS 32 s)).2 || (splitS 32 s).contains [] then (noHd, 4) else if headE (shapeS (splitS 32 s)).1 ≠ 0 then (noHd, headE (shapeS (splitS 32 s)).1) else ((shapeS (splitS 32 s)).1, 0) := by
  unfold parseH
  rw [if_neg (by cases s <;> simp_all)]
theorem shape_lens (ws : List Bs) (M : Nat) (h : ∀ s ∈ ws, s.length ≤ M) : (shapeS ws).1.name.length ≤ M ∧ ∀ p ∈ (shapeS ws).1.params, p.length ≤ M := by
  have h2 : ∀ s ∈ (modeS ws).2, s.length ≤ M := by
    rcases modeB_cases ws with ⟨h1, h2⟩ | ⟨a, b', r, h1, h2, h3, h4⟩
    · rw [h2]; exact h
    · rw [h4]; intro s hs; exact h s (by rw [h1]; exact List.mem_cons_of_mem _ hs)
  unfold shapeS
  simp only
  split
  · rename_i a b r he
    have hb := h2 b (by rw [he]; simp)
    split
    · exact ⟨Nat.zero_le _, fun p hp => by cases hp⟩
    · split
      · exact ⟨hb, fun p hp => by cases hp⟩
      · split
        · exact ⟨Nat.zero_le _, fun p hp => by cases hp⟩
        · exact ⟨hb, fun p hp => h2 p (by rw [he]; exact List.mem_cons_of_mem _ (List.mem_cons_of_mem _ (List.mem_of_mem_take hp)))⟩
  · exact ⟨Nat.zero_le _, fun p hp => by cases hp⟩
structure PaW (w W : World) : Prop where
  bl : Below w.heap.size w W
  res : W.heap[w.heap.size]? = some (.cells #[.int .i64 0, .int .i64 0, .string ⟨#[]⟩, .slice none 0 0, .int .i64 0] 79 (0, 0))
theorem PaW.below {w W W' : World} (H : PaW w W) (hb : Below W.heap.size W W') : PaW w W' := ⟨H.bl.trans (hb.mono H.bl.size), keptBlk hb H.res⟩
theorem PaW.lt {w W : World} (H : PaW w W) : w.heap.size + 1 ≤ W.heap.size := (Array.getElem?_eq_some_iff.1 H.res).1
theorem PaW.fin {w W : World} (H : PaW w W) (a0 a1 a2 a3 a4 : Value) :
    Below w.heap.size w (((((W.setCell ⟨w.heap.size, 0, none⟩ a0).setCell ⟨w.heap.size, 1, none⟩ a1).setCell ⟨w.heap.size, 2, none⟩ a2).setCell ⟨w.heap.size, 3, none⟩ a3).setCell ⟨w.heap.size, 4, none⟩ a4) :=
  ((((H.bl.setCell (p := ⟨w.heap.size, 0, none⟩) (Nat.le_refl _) a0).setCell (p := ⟨w.heap.size, 1, none⟩) (Nat.le_refl _) a1).setCell (p := ⟨w.heap.size, 2, none⟩) (Nat.le_refl _) a2).setCell (p := ⟨w.heap.size, 3, none⟩) (Nat.le_refl _) a3).setCell (p := ⟨w.heap.size, 4, none⟩) (Nat.le_refl _) a4
set_option maxHeartbeats 4000000 in
theorem parse_any (s : Bs) (w : World) (hL : LS w) (hs : s.length ≤ 2000000000) :
    Calls Tryz.prog 35 #[.string ⟨s.toArray⟩] w fun e w' => ∃ v, e = .returned (.tuple #[v, .int .i64 (parseH s).2]) ∧ VHd w' (fun b => w.heap.size ≤ b) v (parseH s).1 ∧ Below w.heap.size w w' := by
  by_cases h0 : s = []
  · subst h0
    go_enter Tryz.func35, Tryz.ntmps35
    go_wp2_with fail
    refine bodyPost_ret (v := .tuple #[.agg #[.int .i64 0, .int .i64 0, .string ⟨#[]⟩, .slice none 0 0, .int .i64 0], .int .i64 0]) (by simp [results, Tryz.results35, go_sem]) rfl ?_
    exact ⟨_, rfl, ⟨none, 0, 0, rfl, Sl.nil _ _ _ _ (by decide)⟩, by ((repeat (first | (with_reducible exact Below.refl _ _) | (with_reducible refine belowA ?_ _) | (with_reducible refine belowD ?_) | (with_reducible refine belowS ?_ (Nat.le_refl _) _ _) | (with_reducible refine next ?_ (by assumption) (Nat.le_refl _)))); done)⟩
  · have hsp := fun w h => split_any 32 s w h (by omega)
    have hln := split_lens 32 s
    obtain ⟨R, hR⟩ : ∃ R, R = parseH s := ⟨_, rfl⟩
    rw [← hR]
    rw [parseH_eq s h0] at hR
    have hsh := fun b w h => shape_any (splitS 32 s) b w h (fun t ht => by have := hln.1 t ht; omega) (by omega)
    have hle := shape_lens (splitS 32 s) 4294967000 (fun t ht => by have := hln.1 t ht; omega)
    generalize splitS 32 s = ws at *
    obtain ⟨X, hX⟩ : ∃ X, X = shapeS ws := ⟨_, rfl⟩
    rw [← hX] at hR hle hsh
    clear hX
    obtain ⟨⟨k, m, nm, ps, N⟩, ok⟩ := X
    simp only at hR hle
    have hce := hle
    have HSP := Lib.hid hsp; have HSH := Lib.hid hsh; have HR := Lib.hid hR; have HLE := Lib.hid hle
    have hW : PaW w (w.alloc (.cells #[.int .i64 0, .int .i64 0, .string ⟨#[]⟩, .slice none 0 0, .int .i64 0] 79)) := ⟨belowA (Below.refl _ _) _, blkAt _ _ rfl⟩
    have HL := Lib.hid hL
    have h0b : (s == []) = false := by rw [beq_eq_false_iff_ne]; exact h0
    clear hsp hsh hR hle hce hL
    go_enter Tryz.func35, Tryz.ntmps35
    go_upto_region 3 with fail
    generalize (w.alloc (.cells #[.int .i64 0, .int .i64 0, .string ⟨#[]⟩, .slice none 0 0, .int .i64 0] 79)) = W at *
    have HW := Lib.hid hW; clear hW
    go_wp2_with fail
    refine (HSP.out W (HL.out.below HW.out.bl)).mono ?_
    rintro e w1 ⟨rfl, ho, hb1⟩
    have hsl : Sl w1 (fun k => k = W.heap.size) (some ⟨W.heap.size, 0, none⟩) ws.length ws.length ws := (ho.sl (by decide)).wide (fun k _ hk => by rcases hk with hk | hk; exact hk.elim; injection hk with hk; exact hk.symm) (by decide)
    have HWS := Lib.hid hsl
    have HW1 := Lib.hid (HW.out.below hb1)
    clear ho hb1 hsl
    go_wp2_with fail
    refine (HSH.out _ _ HWS.out).mono ?_
    rintro e w2 ⟨v, rfl, ⟨A, n, c, rfl, hps⟩, hb2⟩
    simp only at hps
    have HW2 := Lib.hid (HW1.out.below hb2)
    have HWS2 := Lib.hid (HWS.out.below hb2)
    have HPS := Lib.hid hps
    have hl1 := HW1.out.lt
    have hl2 := hb2.size
    clear hb2 hps HW HW1 HWS HSP HSH
    go_upto_region 5 with fail
    have hW3 : PaW w (w2.alloc (.cells #[.int .i64 k, .int .i64 m, .string ⟨nm.toArray⟩, .slice A n c, .int .i64 N] 79)) := HW2.out.below boxed
    have hb3 : (w2.alloc (.cells #[.int .i64 k, .int .i64 m, .string ⟨nm.toArray⟩, .slice A n c, .int .i64 N] 79)).heap[w2.heap.size]? = some (.cells #[.int .i64 k, .int .i64 m, .string ⟨nm.toArray⟩, .slice A n c, .int .i64 N] 79 (0, 0)) := blkAt _ _ rfl
    have hws3 := HWS2.out.alloc (.cells #[.int .i64 k, .int .i64 m, .string ⟨nm.toArray⟩, .slice A n c, .int .i64 N] 79)
    have hps3 := HPS.out.alloc (.cells #[.int .i64 k, .int .i64 m, .string ⟨nm.toArray⟩, .slice A n c, .int .i64 N] 79)
    generalize (w2.alloc (.cells #[.int .i64 k, .int .i64 m, .string ⟨nm.toArray⟩, .slice A n c, .int .i64 N] 79)) = w3 at *
    have HW3 := Lib.hid hW3; have HB3 := Lib.hid hb3; have HPS3 := Lib.hid hps3
    have hcn := contains_any _ _ _ w3 _ ws [] hws3
    have HCN := Lib.hid hcn
    have hck := fun w h => check_any k m nm ps N A n c w _ (HPS3.out.below h) (HL.out.below (HW3.out.bl.trans (h.mono HW3.out.bl.size))) HLE.out.1 HLE.out.2
    have HCK := Lib.hid hck
    clear hW3 hb3 hps3 hws3 hcn hck HW2 HWS2 HPS
    generalize ws.contains [] = q at *
    generalize headE ⟨k, m, nm, ps, N⟩ = E at *
    cases ok with
    | false =>
      have HR2 := Lib.hid (show R = (noHd, 4) from HR.out)
      have r0 := (cell_blk HW3.out.res 0).trans rfl; have r1 := (cell_blk HW3.out.res 1).trans rfl; have r2 := (cell_blk HW3.out.res 2).trans rfl; have r3 := (cell_blk HW3.out.res 3).trans rfl; have r4 := (cell_blk HW3.out.res 4).trans rfl; have fr0 := frz_blk HW3.out.res 0; have fr1 := frz_blk HW3.out.res 1; have fr2 := frz_blk HW3.out.res 2; have fr3 := frz_blk HW3.out.res 3; have fr4 := frz_blk HW3.out.res 4
      go_wp2_with fail
      have hRF := set5 HW3.out.res (.int .i64 0) (.int .i64 0) (.string ⟨#[]⟩) (.slice none 0 0) (.int .i64 0); have q0 := (cell_blk hRF 0).trans rfl; have q1 := (cell_blk hRF 1).trans rfl; have q2 := (cell_blk hRF 2).trans rfl; have q3 := (cell_blk hRF 3).trans rfl; have q4 := (cell_blk hRF 4).trans rfl; refine bodyPost_ret (v := .tuple #[.agg #[.int .i64 0, .int .i64 0, .string ⟨#[]⟩, .slice none 0 0, .int .i64 0], .int .i64 4]) (by simp [results, Tryz.results35, go_sem, q0, q1, q2, q3, q4]) rfl ?_
      exact ⟨_, by rw [HR2.out], by rw [HR2.out]; exact ⟨none, 0, 0, rfl, Sl.nil _ _ _ _ (by decide)⟩, HW3.out.fin _ _ _ _ _⟩
    | true =>
      cases q with
      | true =>
        have HR2 := Lib.hid (show R = (noHd, 4) from HR.out)
        have r0 := (cell_blk HW3.out.res 0).trans rfl; have r1 := (cell_blk HW3.out.res 1).trans rfl; have r2 := (cell_blk HW3.out.res 2).trans rfl; have r3 := (cell_blk HW3.out.res 3).trans rfl; have r4 := (cell_blk HW3.out.res 4).trans rfl; have fr0 := frz_blk HW3.out.res 0; have fr1 := frz_blk HW3.out.res 1; have fr2 := frz_blk HW3.out.res 2; have fr3 := frz_blk HW3.out.res 3; have fr4 := frz_blk HW3.out.res 4
        go_wp2_with fail
        refine HCN.out.mono ?_
        rintro e w4 ⟨rfl, rfl⟩
        go_wp2_with fail
        have hRF := set5 HW3.out.res (.int .i64 0) (.int .i64 0) (.string ⟨#[]⟩) (.slice none 0 0) (.int .i64 0); have q0 := (cell_blk hRF 0).trans rfl; have q1 := (cell_blk hRF 1).trans rfl; have q2 := (cell_blk hRF 2).trans rfl; have q3 := (cell_blk hRF 3).trans rfl; have q4 := (cell_blk hRF 4).trans rfl; refine bodyPost_ret (v := .tuple #[.agg #[.int .i64 0, .int .i64 0, .string ⟨#[]⟩, .slice none 0 0, .int .i64 0], .int .i64 4]) (by simp [results, Tryz.results35, go_sem, q0, q1, q2, q3, q4]) rfl ?_
        exact ⟨_, by rw [HR2.out], by rw [HR2.out]; exact ⟨none, 0, 0, rfl, Sl.nil _ _ _ _ (by decide)⟩, HW3.out.fin _ _ _ _ _⟩
      | false =>
        have hR3 : R = if E ≠ 0 then (noHd, E) else (⟨k, m, nm, ps, N⟩, 0) := HR.out
        have HR3 := Lib.hid hR3; clear hR3 HR
        have p0 := (cell_blk HB3.out 0).trans rfl
        have p1 := (cell_blk HB3.out 1).trans rfl
        have p2 := (cell_blk HB3.out 2).trans rfl
        have p3 := (cell_blk HB3.out 3).trans rfl
        have p4 := (cell_blk HB3.out 4).trans rfl
        go_wp2_with fail
        refine HCN.out.mono ?_
        rintro e w4 ⟨rfl, rfl⟩
        go_wp2_with fail
        refine (HCK.out w3 (Below.refl _ _)).mono ?_
        rintro e w4 ⟨rfl, hb4⟩
        have HW4 := Lib.hid (HW3.out.below hb4)
        have HB4 := Lib.hid (keptBlk hb4 HB3.out)
        have HPS4 := Lib.hid (HPS3.out.below hb4)
        clear hb4 p0 p1 p2 p3 p4 HW3 HB3 HPS3 HCK HCN
        by_cases hE : E = 0
        · have HR2 := Lib.hid (show R = (⟨k, m, nm, ps, N⟩, 0) from HR3.out.trans (if_neg (by simp [hE])))
          subst hE
          have p0 := (cell_blk HB4.out 0).trans rfl
          have p1 := (cell_blk HB4.out 1).trans rfl
          have p2 := (cell_blk HB4.out 2).trans rfl
          have p3 := (cell_blk HB4.out 3).trans rfl
          have p4 := (cell_blk HB4.out 4).trans rfl
          have r0 := (cell_blk HW4.out.res 0).trans rfl; have r1 := (cell_blk HW4.out.res 1).trans rfl; have r2 := (cell_blk HW4.out.res 2).trans rfl; have r3 := (cell_blk HW4.out.res 3).trans rfl; have r4 := (cell_blk HW4.out.res 4).trans rfl; have fr0 := frz_blk HW4.out.res 0; have fr1 := frz_blk HW4.out.res 1; have fr2 := frz_blk HW4.out.res 2; have fr3 := frz_blk HW4.out.res 3; have fr4 := frz_blk HW4.out.res 4
          go_wp2_with fail
          have hRF := set5 HW4.out.res (.int .i64 k) (.int .i64 m) (.string ⟨nm.toArray⟩) (.slice A n c) (.int .i64 N); have q0 := (cell_blk hRF 0).trans rfl; have q1 := (cell_blk hRF 1).trans rfl; have q2 := (cell_blk hRF 2).trans rfl; have q3 := (cell_blk hRF 3).trans rfl; have q4 := (cell_blk hRF 4).trans rfl; refine bodyPost_ret (v := .tuple #[.agg #[.int .i64 k, .int .i64 m, .string ⟨nm.toArray⟩, .slice A n c, .int .i64 N], .int .i64 0]) (by simp [results, Tryz.results35, go_sem, q0, q1, q2, q3, q4]) rfl ?_
          exact ⟨_, by rw [HR2.out], by rw [HR2.out]; exact ⟨A, n, c, rfl, (HPS4.out.keep (fun q _ hq => (set_other _ _ _ _ _ (by omega)).trans ((set_other _ _ _ _ _ (by omega)).trans ((set_other _ _ _ _ _ (by omega)).trans ((set_other _ _ _ _ _ (by omega)).trans (set_other _ _ _ _ _ (by omega))))))).wide (fun q _ hq => by omega) (by decide)⟩, HW4.out.fin _ _ _ _ _⟩
        · have HR2 := Lib.hid (show R = (noHd, E) from HR3.out.trans (if_pos hE))
          have hEn : (E != 0) = true := by rw [bne_iff_ne]; exact hE
          clear hE
          have r0 := (cell_blk HW4.out.res 0).trans rfl; have r1 := (cell_blk HW4.out.res 1).trans rfl; have r2 := (cell_blk HW4.out.res 2).trans rfl; have r3 := (cell_blk HW4.out.res 3).trans rfl; have r4 := (cell_blk HW4.out.res 4).trans rfl; have fr0 := frz_blk HW4.out.res 0; have fr1 := frz_blk HW4.out.res 1; have fr2 := frz_blk HW4.out.res 2; have fr3 := frz_blk HW4.out.res 3; have fr4 := frz_blk HW4.out.res 4
          go_wp2_with fail
          have hRF := set5 HW4.out.res (.int .i64 0) (.int .i64 0) (.string ⟨#[]⟩) (.slice none 0 0) (.int .i64 0); have q0 := (cell_blk hRF 0).trans rfl; have q1 := (cell_blk hRF 1).trans rfl; have q2 := (cell_blk hRF 2).trans rfl; have q3 := (cell_blk hRF 3).trans rfl; have q4 := (cell_blk hRF 4).trans rfl; refine bodyPost_ret (v := .tuple #[.agg #[.int .i64 0, .int .i64 0, .string ⟨#[]⟩, .slice none 0 0, .int .i64 0], .int .i64 E]) (by simp [results, Tryz.results35, go_sem, q0, q1, q2, q3, q4]) rfl ?_
          exact ⟨_, by rw [HR2.out], by rw [HR2.out]; exact ⟨none, 0, 0, rfl, Sl.nil _ _ _ _ (by decide)⟩, HW4.out.fin _ _ _ _ _⟩
end Go.Proofs.YtpeamehplhpcjaaGreatDoor
namespace Go.Proofs.YtpeamehplhpcjaaGreatDoor
open Go.RowKit
theorem findT_idx (t : List Fil) (p : Bs) (k : Nat) : (findT t p = none ∧ idxS (fun f => f.path == p) t k = -1) ∨ ∃ i, ∃ h : i < t.length, idxS (fun f => f.path == p) t k = ((k + i : Nat) : Int) ∧ findT t p = some t[i].data := by
  induction t generalizing k with
  | nil => exact .inl ⟨rfl, rfl⟩
  | cons f r ih =>
    unfold findT idxS
    rw [List.find?_cons]
    by_cases h : (f.path == p) = true
    · rw [if_pos h, h]
      exact .inr ⟨0, by simp, by simp, rfl⟩
    · rw [if_neg h]
      rw [Bool.not_eq_true] at h
      rw [h]
      rcases ih (k + 1) with ⟨h1, h2⟩ | ⟨i, hi, h1, h2⟩
      · exact .inl ⟨h1, h2⟩
      · exact .inr ⟨i + 1, by simp; omega, by rw [h1]; congr 1; omega, h2⟩
set_option maxHeartbeats 400000 in
theorem index1_any (f : Fil) (p : Bs) (g : Nat) (w : World) (hg : w.cell? ⟨g, 0, none⟩ = some (.string ⟨p.toArray⟩)) :
    Calls Tryz.prog 154 #[.agg #[.string ⟨f.path.toArray⟩, .string ⟨f.data.toArray⟩], .pointer (some ⟨g, 0, none⟩)] w fun e w' => e = .returned (.bool (f.path == p)) ∧ Below w.heap.size w w' := by
  have h1 := cell_alloc' hg (.cells #[.string ⟨f.path.toArray⟩, .string ⟨f.data.toArray⟩] 73 (0, 0))
  clear hg
  go_enter Tryz.func154, Tryz.ntmps154
  go_wp2_with fail
  go_ret
  exact ⟨rfl, by ((repeat (first | (with_reducible exact Below.refl _ _) | (with_reducible refine belowA ?_ _) | (with_reducible refine belowD ?_) | (with_reducible refine belowS ?_ (Nat.le_refl _) _ _) | (with_reducible refine next ?_ (by assumption) (Nat.le_refl _)))); done)⟩
set_option maxHeartbeats 400000 in
theorem indexT_any (A : Option Addr) (n c : Nat) (w : World) (S : Nat → Prop) (t : List Fil) (hl : Sl w S A n c t) (p : Bs) :
    Calls Tryz.prog 112 #[.slice A n c, .string ⟨p.toArray⟩] w fun e w' => e = .returned (.int .i64 (idxS (fun f => f.path == p) t 0)) ∧ Below w.heap.size w w' := by
  have hg : (w.alloc (.cells #[.string ⟨p.toArray⟩] 9)).cell? ⟨w.heap.size, 0, none⟩ = some (.string ⟨p.toArray⟩) := (cell_blk (blkAt _ _ rfl) 0).trans rfl
  have hb : Below w.heap.size w (w.alloc (.cells #[.string ⟨p.toArray⟩] 9)) := belowA (Below.refl _ _) _
  have hall := idxF_any A n c _ _ t (hl.below hb) 154 #[.pointer (some ⟨w.heap.size, 0, none⟩)] (fun _ _ => by kernel_rfl) (fun f => f.path == p) (fun x hx w1 hb1 => index1_any x p w.heap.size w1 (cell_later hb1 hg))
  have HA := Lib.hid hall
  clear hall hg hl
  generalize idxS (fun f => f.path == p) t 0 = v at *
  go_enter Tryz.func112, Tryz.ntmps112
  go_wp2_with fail
  refine HA.out.mono ?_
  rintro e w1 ⟨rfl, hb1⟩
  have HB := Lib.hid (next hb hb1 (by simp))
  clear hb hb1
  go_wp2_with fail
  go_ret
  exact ⟨rfl, HB.out⟩
def findV (o : Option Bs) : Value := match o with | some d => .tuple #[.string ⟨d.toArray⟩, .bool true] | none => .tuple #[.string ⟨#[]⟩, .bool false]
set_option maxHeartbeats 1000000 in
theorem findT_any (A : Option Addr) (n c : Nat) (w : World) (S : Nat → Prop) (t : List Fil) (hl : Sl w S A n c t) (p : Bs) :
    Calls Tryz.prog 85 #[.slice A n c, .string ⟨p.toArray⟩] w fun e w' => e = .returned (findV (findT t p)) ∧ Below w.heap.size w w' := by
  have hi := indexT_any A n c w S t hl p
  have hn := hl.len
  subst hn
  have HI := Lib.hid hi; have HL := Lib.hid hl
  have hc := findT_idx t p 0
  have hlen := hl.le
  clear hi hl
  generalize idxS (fun f => f.path == p) t 0 = v at *
  generalize findT t p = o at *
  go_enter Tryz.func85, Tryz.ntmps85
  go_wp2_with fail
  refine HI.out.mono ?_
  rintro e w1 ⟨rfl, hb1⟩
  rcases hc with ⟨rfl, rfl⟩ | ⟨i, hlt, rfl, rfl⟩
  · have HB := Lib.hid hb1; clear hb1
    go_wp2_with fail
    go_ret2
    exact ⟨rfl, HB.out⟩
  · rw [Nat.zero_add] at *
    obtain ⟨b, o, rfl, -, hbs, c0, c1⟩ := (HL.out.below hb1).fil hlt
    have HB := Lib.hid hb1; clear hb1 c0
    go_wp2_with fail
    go_ret2
    exact ⟨rfl, HB.out⟩
set_option maxHeartbeats 1000000 in
theorem linesT_any (d : Bs) (w : World) (hL : LS w) (hs : d.length ≤ 4294967000) :
    Calls Tryz.prog 86 #[.string ⟨d.toArray⟩] w fun e w' => ∃ A n c, e = .returned (.tuple #[.slice A n c, .int .i64 (linesS d).2]) ∧ Sl w' (fun b => w.heap.size ≤ b) A n c (linesS d).1 ∧ Below w.heap.size w w' := by
  have hsp := split_any 10 d w hL hs
  have hcn := Tryz.strings_Count_one ⟨d.toArray⟩ 10 w
  have hcc : Lib.countByte (⟨d.toArray⟩ : ByteArray).data.toList 10 = d.count 10 := rfl
  rw [hcc] at hcn
  obtain ⟨R, hR⟩ : ∃ R, R = linesS d := ⟨_, rfl⟩
  rw [← hR]
  unfold linesS at hR
  generalize splitS 10 d = ls at *
  generalize d.count 10 = m at *
  have HSP := Lib.hid hsp; have HCN := Lib.hid hcn; have HR := Lib.hid hR
  clear hsp hcn hR hcc hL
  by_cases h1 : (65536 : Int) < (d.length : Int)
  · have HR2 := Lib.hid (show R = ([], 10) from HR.out.trans (if_pos (by omega)))
    go_enter Tryz.func86, Tryz.ntmps86
    go_wp2_with fail
    go_ret2
    exact ⟨none, 0, 0, by rw [HR2.out]; rfl, by rw [HR2.out]; exact Sl.nil _ _ _ _ (by decide), by ((repeat (first | (with_reducible exact Below.refl _ _) | (with_reducible refine belowA ?_ _) | (with_reducible refine belowD ?_) | (with_reducible refine belowS ?_ (Nat.le_refl _) _ _) | (with_reducible refine next ?_ (by assumption) (Nat.le_refl _)))); done)⟩
  · have hr := HR.out.trans (if_neg (by omega))
    by_cases h2 : (1024 : Int) ≤ (m : Int)
    · have HR2 := Lib.hid (show R = ([], 10) from hr.trans (if_pos (by omega)))
      clear hr
      go_enter Tryz.func86, Tryz.ntmps86
      go_wp2_with fail
      refine HCN.out.mono ?_
      rintro e w1 ⟨rfl, rfl⟩
      go_wp2_with fail
      go_ret2
      exact ⟨none, 0, 0, by rw [HR2.out]; rfl, by rw [HR2.out]; exact Sl.nil _ _ _ _ (by decide), by ((repeat (first | (with_reducible exact Below.refl _ _) | (with_reducible refine belowA ?_ _) | (with_reducible refine belowD ?_) | (with_reducible refine belowS ?_ (Nat.le_refl _) _ _) | (with_reducible refine next ?_ (by assumption) (Nat.le_refl _)))); done)⟩
    · have HR2 := Lib.hid (show R = (ls, 0) from hr.trans (if_neg (by omega)))
      obtain ⟨M, hM⟩ : ∃ M : Int, (m : Int) = M := ⟨_, rfl⟩
      have h3 : ¬ (1024 ≤ M) := by omega
      clear hr h2
      have HCN := Lib.hid (HCN.out)
      rw [hM] at HCN
      clear hM
      go_enter Tryz.func86, Tryz.ntmps86
      go_wp2_with fail
      refine HCN.out.mono ?_
      rintro e w1 ⟨rfl, rfl⟩
      go_wp2_with fail
      refine HSP.out.mono ?_
      rintro e w2 ⟨rfl, ho, hb⟩
      have HO := Lib.hid ((ho.strT (T' := fun b => w1.heap.size ≤ b)).res (by decide)); have HB := Lib.hid hb
      clear ho hb
      go_wp2_with fail
      go_ret2
      exact ⟨_, _, _, by rw [HR2.out]; rfl, by rw [HR2.out]; exact HO.out, HB.out⟩
end Go.Proofs.YtpeamehplhpcjaaGreatDoor
