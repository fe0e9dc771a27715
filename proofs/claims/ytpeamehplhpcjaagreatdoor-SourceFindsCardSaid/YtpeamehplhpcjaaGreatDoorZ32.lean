/- A part of the proofs of the laws of one package; see the law's own text, which comes last in 'order'. No conditions of its own. -/
import Derived.Test.YtpeamehplhpcjaaGreatDoorZ30
import Derived.Test.YtpeamehplhpcjaaGreatDoorZ31
set_option linter.unusedVariables false
set_option linter.unusedSimpArgs false
namespace Go.Proofs.YtpeamehplhpcjaaGreatDoor
open Go.RowKit
structure PrV (w W : World) : Prop where
  bl : Below w.heap.size w W
  res : W.heap[w.heap.size]? = some (.cells #[.int .i64 0, .int .i64 0, .string ⟨#[]⟩, .slice none 0 0, .int .i64 0] 79 (0, 0))
  non : W.heap[w.heap.size + 1]? = some (.cells #[.int .i64 0, .int .i64 0, .string ⟨#[]⟩, .slice none 0 0, .int .i64 0] 79 (0, 0))
structure PrW (w W : World) (gh : Nat) (h : Array Value) : Prop extends PrV w W where
  hd : W.heap[gh]? = some (.cells h 79 (0, 0))
  lo : w.heap.size + 2 ≤ gh
theorem PrV.below {w W W' : World} (H : PrV w W) (hb : Below W.heap.size W W') : PrV w W' := ⟨H.bl.trans (hb.mono H.bl.size), keptBlk hb H.res, keptBlk hb H.non⟩
theorem PrW.below {w W W' : World} {gh : Nat} {h : Array Value} (H : PrW w W gh h) (hb : Below W.heap.size W W') : PrW w W' gh h := ⟨H.toPrV.below hb, keptBlk hb H.hd, H.lo⟩
theorem PrW.drew {w W : World} {gh : Nat} {h : Array Value} (H : PrW w W gh h) : PrW w W.drew gh h := H.below (Below.refl _ _).drew
theorem PrW.lt {w W : World} {gh : Nat} {h : Array Value} (H : PrW w W gh h) : gh < W.heap.size := (Array.getElem?_eq_some_iff.1 H.hd).1
theorem PrW.set {w W : World} {gh : Nat} {h : Array Value} (H : PrW w W gh h) (i : Nat) (v : Value) : PrW w (W.setCell ⟨gh, i, none⟩ v) gh (h.setIfInBounds i v) := by
  have hl := H.lo
  exact ⟨⟨H.bl.setCell (p := ⟨gh, i, none⟩) (by show w.heap.size ≤ gh; omega) v, (set_other _ _ _ _ _ (by omega)).trans H.res, (set_other _ _ _ _ _ (by omega)).trans H.non⟩, Blk.set _ H.hd i v, hl⟩
theorem PrV.fin {w W : World} (H : PrV w W) (a0 a1 a2 a3 a4 : Value) :
    Below w.heap.size w (((((W.setCell ⟨w.heap.size, 0, none⟩ a0).setCell ⟨w.heap.size, 1, none⟩ a1).setCell ⟨w.heap.size, 2, none⟩ a2).setCell ⟨w.heap.size, 3, none⟩ a3).setCell ⟨w.heap.size, 4, none⟩ a4) :=
  ((((H.bl.setCell (p := ⟨w.heap.size, 0, none⟩) (Nat.le_refl _) a0).setCell (p := ⟨w.heap.size, 1, none⟩) (Nat.le_refl _) a1).setCell (p := ⟨w.heap.size, 2, none⟩) (Nat.le_refl _) a2).setCell (p := ⟨w.heap.size, 3, none⟩) (Nat.le_refl _) a3).setCell (p := ⟨w.heap.size, 4, none⟩) (Nat.le_refl _) a4
def SlL (w : World) (lo gh : Nat) (A : Option Addr) (c : Nat) (l : List Bs) : Prop := Sl w (fun k => lo ≤ k ∧ k ≠ gh) A l.length c l
theorem SlL.below {w w' : World} {lo gh : Nat} {A : Option Addr} {c : Nat} {l : List Bs} (h : SlL w lo gh A c l) (hb : Below w.heap.size w w') : SlL w' lo gh A c l := Sl.below h hb
theorem SlL.set {w : World} {lo gh : Nat} {A : Option Addr} {c : Nat} {l : List Bs} (h : SlL w lo gh A c l) (i : Nat) (v : Value) : SlL (w.setCell ⟨gh, i, none⟩ v) lo gh A c l := Sl.keep h (fun _ _ hq => set_other _ _ _ _ _ hq.2)
theorem head_get {l : List Bs} (h : 0 < l.length) : l.headD [] = l[0] := by
  cases l with
  | nil => cases h
  | cons a r => rfl
theorem last_getL {l : List Bs} (h : 0 < l.length) : l.getLastD [] = l[l.length - 1]'(by omega) := by
  cases l with
  | nil => cases h
  | cons a r =>
    cases r with
    | nil => rfl
    | cons b r => exact (last_get a b r).symm
theorem get1_eq {l : List Bs} (h : 1 < l.length) : l.getD 1 [] = l[1] := by
  rw [List.getD_eq_getElem?_getD, List.getElem?_eq_getElem h]; rfl
set_option maxRecDepth 100000 in
set_option maxHeartbeats 8000000 in
theorem rparse_any (s : Bs) (w : World) (hs : s.length ≤ 2000000000) :
    Calls Tryz.prog 137 #[.string ⟨s.toArray⟩] w fun e w' => ∃ v, e = .returned (.tuple #[v, .int .i64 (rparseH s).2]) ∧ VHd w' (fun b => w.heap.size ≤ b) v (rparseH s).1 ∧ Below w.heap.size w w' := by
  obtain ⟨R, hR⟩ : ∃ R, R = rparseH s := ⟨_, rfl⟩
  rw [← hR]
  have hsp := fun w => rsplit_any 32 32 rfl s w (by omega)
  have HR := Lib.hid hR; have HSP := Lib.hid hsp
  clear hR hsp
  go_enter Tryz.func137, Tryz.ntmps137
  go_upto_region 2 with fail
  have hV : PrV w ((w.alloc (.cells #[.int .i64 0, .int .i64 0, .string ⟨#[]⟩, .slice none 0 0, .int .i64 0] 79)).alloc (.cells #[.int .i64 0, .int .i64 0, .string ⟨#[]⟩, .slice none 0 0, .int .i64 0] 79)) :=
    ⟨belowA (belowA (Below.refl _ _) _) _, blkOld (blkAt _ _ rfl) _, blkAt _ _ (by simp)⟩
  generalize ((w.alloc (.cells #[.int .i64 0, .int .i64 0, .string ⟨#[]⟩, .slice none 0 0, .int .i64 0] 79)).alloc (.cells #[.int .i64 0, .int .i64 0, .string ⟨#[]⟩, .slice none 0 0, .int .i64 0] 79)) = W at *
  have HV := Lib.hid hV; clear hV
  by_cases h0 : s = []
  · subst h0
    have HR2 := Lib.hid (show R = (noHd, 0) from HR.out)
    (have z0 := (cell_blk HV.out.non 0).trans rfl); (have z1 := (cell_blk HV.out.non 1).trans rfl); (have z2 := (cell_blk HV.out.non 2).trans rfl); (have z3 := (cell_blk HV.out.non 3).trans rfl); (have z4 := (cell_blk HV.out.non 4).trans rfl); (have r0 := (cell_blk HV.out.res 0).trans rfl; have r1 := (cell_blk HV.out.res 1).trans rfl; have r2 := (cell_blk HV.out.res 2).trans rfl; have r3 := (cell_blk HV.out.res 3).trans rfl; have r4 := (cell_blk HV.out.res 4).trans rfl; have fr0 := frz_blk HV.out.res 0; have fr1 := frz_blk HV.out.res 1; have fr2 := frz_blk HV.out.res 2; have fr3 := frz_blk HV.out.res 3; have fr4 := frz_blk HV.out.res 4); (go_wp2_with fail); ((have hRF := set5 HV.out.res (.int .i64 0) (.int .i64 0) (.string ⟨#[]⟩) (.slice none 0 0) (.int .i64 0)); (have q0 := (cell_blk hRF 0).trans rfl); (have q1 := (cell_blk hRF 1).trans rfl); (have q2 := (cell_blk hRF 2).trans rfl); (have q3 := (cell_blk hRF 3).trans rfl); (have q4 := (cell_blk hRF 4).trans rfl); (refine bodyPost_ret (v := .tuple #[.agg #[.int .i64 0, .int .i64 0, .string ⟨#[]⟩, .slice none 0 0, .int .i64 0], .int .i64 0]) (by simp [results, Tryz.results137, go_sem, q0, q1, q2, q3, q4]) rfl ?_)); (exact ⟨_, by rw [HR2.out], by rw [HR2.out]; exact ⟨none, 0, 0, rfl, Sl.nil _ _ _ _ (by decide)⟩, HV.out.fin _ _ _ _ _⟩)
  · have h0b : (s == []) = false := by rw [beq_eq_false_iff_ne]; exact h0
    have hR2 := HR.out
    rw [rparse_stages s h0] at hR2
    have hln := split_lens 32 s
    have hne := split_ne 32 s
    have hlo : w.heap.size + 2 ≤ W.heap.size := (Array.getElem?_eq_some_iff.1 HV.out.non).1
    go_wp2_with fail
    refine (HSP.out W).mono ?_
    rintro e w1 ⟨A1, c1, rfl, ho, hb1⟩
    have hsl : Sl w1 (fun k => w.heap.size + 2 ≤ k ∧ k < w1.heap.size) A1 (splitS 32 s).length c1 (splitS 32 s) := (ho.sl (by decide)).wide (fun k hk hn => ⟨hn.elim (fun h => h.elim) (fun h => by have := (ho.lt k h).1; omega), hk⟩) (by decide)
    have HV1 := Lib.hid (HV.out.below hb1)
    have hlo1 : w.heap.size + 2 ≤ w1.heap.size := by have := hb1.size; omega
    clear ho hb1 HV HSP HR h0 h0b
    generalize splitS 32 s = ws at *
    go_upto_region 6 with fail
    have hW2 : PrW w (w1.alloc (.cells #[.int .i64 0, .int .i64 0, .string ⟨#[]⟩, .slice none 0 0, .int .i64 0] 79)) w1.heap.size #[.int .i64 0, .int .i64 0, .string ⟨#[]⟩, .slice none 0 0, .int .i64 0] := ⟨HV1.out.below boxed, blkAt _ _ rfl, hlo1⟩
    have hl2 : SlL (w1.alloc (.cells #[.int .i64 0, .int .i64 0, .string ⟨#[]⟩, .slice none 0 0, .int .i64 0] 79)) (w.heap.size + 2) w1.heap.size A1 c1 ws := Sl.alloc (hsl.wide (fun k hk hn => ⟨hn.1, by omega⟩) (by decide)) _
    generalize (w1.alloc (.cells #[.int .i64 0, .int .i64 0, .string ⟨#[]⟩, .slice none 0 0, .int .i64 0] 79)) = W at *
    clear hsl hlo1 HV1 hlo
    generalize w1.heap.size = gh at *
    have HW := Lib.hid hW2; have HL := Lib.hid hl2; have HR := Lib.hid hR2; have HLN := Lib.hid hln
    clear hW2 hl2 hR2 hln
    go_cut [38] from 24 to 38 (fun v wx => v = .bool (rmB ws) ∧ wx = W)
    case first =>
      match ws, HL with
      | [], _ =>
        go_wp2_with fail
        go_meet
        exact ⟨rfl, rfl⟩
      | [a], _ =>
        go_wp2_with fail
        go_meet
        exact ⟨rfl, rfl⟩
      | a :: b' :: r, HL =>
        obtain ⟨b0, o0, rfl, -, -, c0⟩ := Sl.str HL.out (k := 0) (by simp)
        have c0 : W.cell? ⟨b0, o0, none⟩ = some (.string ⟨a.toArray⟩) := c0
        by_cases h1 : a = wExport
        · obtain rfl : a = [101, 120, 112, 111, 114, 116] := h1
          go_wp2_with fail
          go_meet
          exact ⟨congrArg Value.bool ((rmB_mk _ _ _).trans (decide_eq_true (.inl rfl))).symm, rfl⟩
        · have h1b : (a == [101, 120, 112, 111, 114, 116]) = false := by rw [beq_eq_false_iff_ne]; exact h1
          by_cases h2 : a = wWeak
          · obtain rfl : a = [119, 101, 97, 107] := h2
            go_wp2_with fail
            go_meet
            exact ⟨congrArg Value.bool ((rmB_mk _ _ _).trans (decide_eq_true (.inr rfl))).symm, rfl⟩
          · have h2b : (a == [119, 101, 97, 107]) = false := by rw [beq_eq_false_iff_ne]; exact h2
            have H12 := Lib.hid (And.intro h1 h2)
            clear h1 h2
            go_wp2_with fail
            go_meet
            exact ⟨congrArg Value.bool ((rmB_mk _ _ _).trans (decide_eq_false (fun h => h.elim H12.out.1 H12.out.2))).symm, rfl⟩
    case rest =>
      obtain ⟨rfl, rfl⟩ := hcut
      have hMS := rmB_cases ws
      obtain ⟨m, l, hm2⟩ : ∃ m l, rmodeS ws = (m, l) := ⟨_, _, rfl⟩
      rw [hm2] at hMS
      have hR3 := HR.out
      rw [hm2] at hR3
      simp only at hR3
      clear HR hm2
      have hlen : 0 < l.length ∧ l.length ≤ 4000000000 ∧ ∀ x ∈ l, x.length ≤ 2000000000 := by
        have h1 := HLN.out.1; have h2 := HLN.out.2
        rcases hMS with ⟨-, h⟩ | ⟨a, b', r, rfl, -, -, h⟩
        · cases h
          exact ⟨by cases ws with
                    | nil => exact absurd rfl hne
                    | cons a r => simp, by omega, fun x hx => by have := h1 x hx; omega⟩
        · cases h
          simp only [List.length_cons] at h2
          exact ⟨by simp, by simp only [List.length_cons]; omega, fun x hx => by have := h1 x (List.mem_cons_of_mem _ hx); omega⟩
      have hmr : m = 0 ∨ m = 1 ∨ m = 2 := by
        rcases hMS with ⟨-, h⟩ | ⟨a, b', r, rfl, -, -, h⟩
        · cases h; exact .inl rfl
        · injection h with h _
          rw [h]
          split
          · exact .inr (.inr rfl)
          · exact .inr (.inl rfl)
      have HR := Lib.hid hR3; have HN := Lib.hid hlen; have HMR := Lib.hid hmr
      clear hR3 hlen HLN hne hmr
      generalize rmB ws = q at *
      go_upto_if 38 with fail
      go_cut [5] from 39 to 46 (fun s5 wx => ∃ A c, s5 = .slice A l.length c ∧ SlL wx (w.heap.size + 2) gh A c l ∧ PrW w wx gh #[.int .i64 0, .int .i64 m, .string ⟨#[]⟩, .slice none 0 0, .int .i64 0])
      case first =>
        rcases hMS with ⟨rfl, hms⟩ | ⟨a, b', r, rfl, rfl, ha, hms⟩
        · cases hms
          go_wp2_with fail
          go_meet
          exact ⟨A1, c1, rfl, HL.out, HW.out⟩
        · obtain ⟨b0, o0, rfl, hb0, -, c0⟩ := Sl.str HL.out (k := 0) (by simp)
          have c0 : wc.cell? ⟨b0, o0, none⟩ = some (.string ⟨a.toArray⟩) := c0
          have hne : b0 ≠ gh := hb0.2
          have hcap := HL.out.2.1
          have hcut1 := Sl.cut HL.out (k := 1) (by simp)
          have f1 := frz_blk HW.out.hd 1
          have x1 := (cell_blk HW.out.hd 1).trans rfl
          have c1' : (wc.setCell ⟨gh, 1, none⟩ (.int .i64 1)).cell? ⟨b0, o0, none⟩ = some (.string ⟨a.toArray⟩) := (cell_set c0 hne)
          simp only [List.length_cons] at hcap
          have hsl : SlL wc (w.heap.size + 2) gh (some ⟨b0, o0 + 1, none⟩) (c1 - 1) (b' :: r) := by
            have h := hcut1
            rw [if_neg (by omega)] at h
            exact h
          clear hcut1
          have HSL := Lib.hid hsl; clear hsl
          rcases ha with ha | ha
          · obtain rfl : a = [101, 120, 112, 111, 114, 116] := ha
            cases hms
            go_wp2_with fail
            go_meet
            exact ⟨_, _, by simp, HSL.out.set 1 _, HW.out.set 1 (.int .i64 1)⟩
          · obtain rfl : a = [119, 101, 97, 107] := ha
            cases hms
            have x2 := (cell_blk (HW.out.set 1 (.int .i64 1)).hd 1).trans rfl
            have f2 := frz_blk (HW.out.set 1 (.int .i64 1)).hd 1
            go_wp2_with fail
            go_meet
            exact ⟨_, _, by simp, (HSL.out.set 1 _).set 1 _, (HW.out.set 1 (.int .i64 1)).set 1 (.int .i64 2)⟩
      case rest =>
        obtain ⟨A, c, rfl, hsl, hW⟩ := hcut
        clear HL HW hMS
        have HL := Lib.hid hsl; have HW := Lib.hid hW; clear hsl hW
        have hlp := HN.out.1
        have hn4 := HN.out.2.1
        have hR4 := HR.out
        unfold rp1 at hR4
        obtain ⟨b0, o0, rfl, -, -, c0⟩ := Sl.str HL.out (k := 0) hlp
        have c0 : wc.cell? ⟨b0, o0, none⟩ = some (.string ⟨(l.headD []).toArray⟩) := by rw [head_get hlp]; exact c0
        have hwd := fun w => rword_any (l.headD []) w
        have hrng := rwordS_rng (l.headD [])
        generalize rwordS (l.headD []) = k at *
        generalize l.headD [] = a at *
        obtain ⟨R2, hR5⟩ : ∃ R2, R2 = rp2 m l k := ⟨_, rfl⟩
        rw [← hR5] at hR4
        have HR1 : Hid (R = if (l.drop 0).contains [] then (noHd, 4) else R2) := Lib.hid hR4
        have HR5 := Lib.hid hR5; have HWD := Lib.hid hwd; have HRNG := Lib.hid hrng
        clear hR4 hR5 hwd hrng HR
        go_wp2_with fail
        refine (HWD.out _).mono ?_
        rintro e w3 ⟨rfl, hb3⟩
        have HW3 := Lib.hid (HW.out.below hb3); have HL3 := Lib.hid (HL.out.below hb3)
        clear hb3 c0 HW HL HWD
        have x0 := (cell_blk HW3.out.hd 0).trans rfl
        have f0 := frz_blk HW3.out.hd 0
        go_upto_region 12 with fail
        have hW := HW3.out.set 0 (.int .i64 k)
        have hL := HL3.out.set 0 (.int .i64 k)
        clear x0 f0 HW3 HL3
        generalize (w3.setCell ⟨gh, 0, none⟩ (.int .i64 k)) = W4 at *
        have HW : Hid (PrW w W4 gh #[.int .i64 k, .int .i64 m, .string ⟨#[]⟩, .slice none 0 0, .int .i64 0]) := Lib.hid hW
        have HL := Lib.hid hL
        clear hW hL
        go_wp2_with fail
        go_loopw [54] (fun i wr => ∃ j : Nat, j ≤ l.length ∧ i = .int .i64 j ∧ wr = W4 ∧ Hid (R = if (l.drop j).contains [] then (noHd, 4) else R2)) (fun i _ => l.length - (intOf i).toNat)
        case atStart => exact ⟨0, by omega, rfl, rfl, HR1⟩
        case round =>
          obtain ⟨j, hj, rfl, rfl, hf⟩ := hrel
          by_cases hlt : j < l.length
          · obtain ⟨b1, o1, he, -, hbs, c1⟩ := Sl.str HL.out hlt
            cases he
            have c1 : wr.cell? ⟨b0, o0 + j, none⟩ = some (.string ⟨l[j].toArray⟩) := by simpa using c1
            have hd := hf.out
            rw [drop_get hlt] at hd
            generalize l[j] = x at *
            by_cases hx : x = []
            · subst hx
              have HR2 := Lib.hid (show R = (noHd, 4) by rw [hd]; simp)
              clear hd hf HR1
              (have z0 := (cell_blk HW.out.non 0).trans rfl); (have z1 := (cell_blk HW.out.non 1).trans rfl); (have z2 := (cell_blk HW.out.non 2).trans rfl); (have z3 := (cell_blk HW.out.non 3).trans rfl); (have z4 := (cell_blk HW.out.non 4).trans rfl); (have r0 := (cell_blk HW.out.res 0).trans rfl; have r1 := (cell_blk HW.out.res 1).trans rfl; have r2 := (cell_blk HW.out.res 2).trans rfl; have r3 := (cell_blk HW.out.res 3).trans rfl; have r4 := (cell_blk HW.out.res 4).trans rfl; have fr0 := frz_blk HW.out.res 0; have fr1 := frz_blk HW.out.res 1; have fr2 := frz_blk HW.out.res 2; have fr3 := frz_blk HW.out.res 3; have fr4 := frz_blk HW.out.res 4); (go_wp2_with fail); ((have hRF := set5 HW.out.res (.int .i64 0) (.int .i64 0) (.string ⟨#[]⟩) (.slice none 0 0) (.int .i64 0)); (have q0 := (cell_blk hRF 0).trans rfl); (have q1 := (cell_blk hRF 1).trans rfl); (have q2 := (cell_blk hRF 2).trans rfl); (have q3 := (cell_blk hRF 3).trans rfl); (have q4 := (cell_blk hRF 4).trans rfl); (refine bodyPost_ret (v := .tuple #[.agg #[.int .i64 0, .int .i64 0, .string ⟨#[]⟩, .slice none 0 0, .int .i64 0], .int .i64 4]) (by simp [results, Tryz.results137, go_sem, q0, q1, q2, q3, q4]) rfl ?_)); (exact ⟨_, by rw [HR2.out], by rw [HR2.out]; exact ⟨none, 0, 0, rfl, Sl.nil _ _ _ _ (by decide)⟩, HW.out.fin _ _ _ _ _⟩)
            · have hxb : (x == []) = false := by rw [beq_eq_false_iff_ne]; exact hx
              have hc : (x :: l.drop (j + 1)).contains [] = (l.drop (j + 1)).contains [] := by rw [List.contains_cons, show (([] : Bs) == x) = false from by rw [beq_eq_false_iff_ne]; exact fun e => hx e.symm]; rfl
              rw [hc] at hd
              have HD := Lib.hid hd
              clear hd hf hc hx
              go_wp2_with fail
              go_roundw
              case rel => exact ⟨j + 1, by omega, by go_num, by first | rfl | trivial, HD⟩
              case measure => simp [intOf]; omega
          · have hq : R = R2 := by
              have := hf.out
              rw [drop_end hlt] at this
              exact this
            have hR6 := hq.trans HR5.out
            unfold rp2 at hR6
            clear hq hf HR5 HR1
            obtain ⟨nb, hnb⟩ : ∃ nb, nb = nB k := ⟨_, rfl⟩
            obtain ⟨cb, hcb⟩ : ∃ cb, cb = cB k := ⟨_, rfl⟩
            obtain ⟨pb, hpb⟩ : ∃ pb, pb = pB k := ⟨_, rfl⟩
            obtain ⟨L1, hL1⟩ : ∃ L1 : Int, L1 = 1 + (if nb then 1 else 0) := ⟨_, rfl⟩
            obtain ⟨LL, hLL⟩ : ∃ LL : Int, LL = L1 + (if cb then 1 else 0) := ⟨_, rfl⟩
            have hrl : rleast k = LL := by unfold rleast; rw [hLL, hL1, hnb, hcb]
            obtain ⟨bd, hbd⟩ : ∃ bd, bd = badL m l.length k := ⟨_, rfl⟩
            rw [← hbd] at hR6
            unfold badL at hbd
            rw [hrl, ← hpb] at hbd
            have hL1b : 1 ≤ L1 ∧ L1 ≤ 2 := by rw [hL1]; split <;> omega
            have hLLb : 1 ≤ LL ∧ LL ≤ 3 := by rw [hLL]; split <;> omega
            have HR6 := Lib.hid hR6; have HNB := Lib.hid hnb; have HCB := Lib.hid hcb; have HPB := Lib.hid hpb; have HL1 := Lib.hid hL1; have HLL := Lib.hid hLL; have HBD := Lib.hid hbd
            clear hR6 hnb hcb hpb hL1 hLL hbd hrl
            have p0 := (cell_blk HW.out.hd 0).trans rfl
            have p1 := (cell_blk HW.out.hd 1).trans rfl
            go_upto_region 18 with fail
            go_cut [9] from 63 to 64 (fun v wx => v = .bool nb ∧ wx = wr)
            case first =>
              by_cases k6 : k = 6
              · have e9 : nb = false := by rw [HNB.out, k6]; rfl
                subst k6
                go_wp2_with fail
                go_meet
                exact ⟨by rw [e9], rfl⟩
              · have n6 : (k == 6) = false := by rw [beq_eq_false_iff_ne]; exact k6
                have m6 : (k != 6) = true := by rw [bne, n6]; rfl
                have e9 : nb = true := by rw [HNB.out]; exact decide_eq_true k6
                go_wp2_with fail
                go_meet
                exact ⟨by rw [e9], rfl⟩
            case rest =>
            obtain ⟨rfl, rfl⟩ := hcut
            go_upto_region 19 with fail
            go_cut [10] from 65 to 77 (fun v wx => v = .bool cb ∧ wx = wc)
            case first =>
              by_cases k1 : k = 1
              · have e9 : cb = false := by rw [HCB.out, k1]; rfl
                subst k1
                go_wp2_with fail
                go_meet
                exact ⟨by rw [e9], rfl⟩
              · have n1 : (k == 1) = false := by rw [beq_eq_false_iff_ne]; exact k1
                have m1 : (k != 1) = true := by rw [bne, n1]; rfl
                by_cases k3 : k = 3
                · have e9 : cb = false := by rw [HCB.out, k3]; rfl
                  subst k3
                  go_wp2_with fail
                  go_meet
                  exact ⟨by rw [e9], rfl⟩
                · have n3 : (k == 3) = false := by rw [beq_eq_false_iff_ne]; exact k3
                  have m3 : (k != 3) = true := by rw [bne, n3]; rfl
                  by_cases k7 : k = 7
                  · have e9 : cb = false := by rw [HCB.out, k7]; rfl
                    subst k7
                    go_wp2_with fail
                    go_meet
                    exact ⟨by rw [e9], rfl⟩
                  · have n7 : (k == 7) = false := by rw [beq_eq_false_iff_ne]; exact k7
                    have m7 : (k != 7) = true := by rw [bne, n7]; rfl
                    have e9 : cb = true := by rw [HCB.out]; exact decide_eq_true ⟨k1, k3, k7⟩
                    go_wp2_with fail
                    go_meet
                    exact ⟨by rw [e9], rfl⟩
            case rest =>
            obtain ⟨rfl, rfl⟩ := hcut
            go_upto_if 78 with fail
            go_cut [11] from 79 to 80 (fun v wx => v = .int .i64 L1 ∧ wx = wc)
            case first =>
              cases nb with
              | true =>
                go_wp2_with fail
                go_meet
                exact ⟨by rw [HL1.out]; rfl, rfl⟩
              | false =>
                go_wp2_with fail
                go_meet
                exact ⟨by rw [HL1.out]; rfl, rfl⟩
            case rest =>
            obtain ⟨rfl, rfl⟩ := hcut
            go_upto_if 81 with fail
            go_cut [11] from 82 to 83 (fun v wx => v = .int .i64 LL ∧ wx = wc)
            case first =>
              cases cb with
              | true =>
                have hwL : IntKind.i64.wrap (L1 + 1) = L1 + 1 := IntWalk.i64_in _ (by omega)
                go_wp2_with fail
                go_meet
                exact ⟨by rw [HLL.out]; rfl, rfl⟩
              | false =>
                go_wp2_with fail
                go_meet
                exact ⟨by rw [HLL.out]; simp, rfl⟩
            case rest =>
            obtain ⟨rfl, rfl⟩ := hcut
            go_upto_region 25 with fail
            go_cut [12] from 84 to 91 (fun v wx => v = .bool pb ∧ wx = wc)
            case first =>
              by_cases k2 : k = 2
              · have e9 : pb = true := by rw [HPB.out, k2]; rfl
                subst k2
                go_wp2_with fail
                go_meet
                exact ⟨by rw [e9], rfl⟩
              · have n2 : (k == 2) = false := by rw [beq_eq_false_iff_ne]; exact k2
                by_cases k8 : k = 8
                · have e9 : pb = true := by rw [HPB.out, k8]; rfl
                  subst k8
                  go_wp2_with fail
                  go_meet
                  exact ⟨by rw [e9], rfl⟩
                · have n8 : (k == 8) = false := by rw [beq_eq_false_iff_ne]; exact k8
                  have e9 : pb = false := by rw [HPB.out]; exact decide_eq_false (fun h => h.elim k2 k8)
                  go_wp2_with fail
                  go_meet
                  exact ⟨by rw [e9], rfl⟩
            case rest =>
            obtain ⟨rfl, rfl⟩ := hcut
            go_upto_region 26 with fail
            go_cut [125] from 92 to 125 (fun v wx => v = .bool bd ∧ wx = wc)
            case first =>
              by_cases hk0 : k < 0
              · have hdk : decide (k < 0) = true := decide_eq_true hk0
                (have e9 : bd = true := by (rw [HBD.out]; exact decide_eq_true (.inl hk0))); (clear HBD); (go_wp2_with fail); (go_meet); (exact ⟨by rw [e9], rfl⟩)
              · have hdk : decide (k < 0) = false := decide_eq_false hk0
                rcases HMR.out with rfl | rfl | rfl
                · (by_cases hq1 : (l.length : Int) < LL); (focus ((have e9 : bd = true := by (rw [HBD.out]; exact decide_eq_true (.inr (.inr (.inl hq1))))); (clear HBD); (go_wp2_with fail); (go_meet); (exact ⟨by rw [e9], rfl⟩))); (by_cases hq2 : LL < (l.length : Int)); (focus ((cases pb); (focus ((have e9 : bd = true := by (rw [HBD.out]; exact decide_eq_true (.inr (.inr (.inr ⟨hq2, rfl⟩))))); (clear HBD); (go_wp2_with fail); (go_meet); (exact ⟨by rw [e9], rfl⟩))); (focus ((have e9 : bd = false := by (rw [HBD.out]; exact decide_eq_false (fun h => by (rcases h with h | h | h | h); (focus omega); (focus omega); (focus omega); (focus exact absurd h.2 (by decide))))); (clear HBD); (go_wp2_with fail); (go_meet); (exact ⟨by rw [e9], rfl⟩))))); (focus ((have e9 : bd = false := by (rw [HBD.out]; exact decide_eq_false (fun h => by (rcases h with h | h | h | h); (focus omega); (focus omega); (focus omega); (focus exact absurd h.1 hq2)))); (clear HBD); (go_wp2_with fail); (go_meet); (exact ⟨by rw [e9], rfl⟩)))
                · by_cases k8 : k = 8
                  · subst k8
                    (by_cases hq1 : (l.length : Int) < LL); (focus ((have e9 : bd = true := by (rw [HBD.out]; exact decide_eq_true (.inr (.inr (.inl hq1))))); (clear HBD); (go_wp2_with fail); (go_meet); (exact ⟨by rw [e9], rfl⟩))); (by_cases hq2 : LL < (l.length : Int)); (focus ((cases pb); (focus ((have e9 : bd = true := by (rw [HBD.out]; exact decide_eq_true (.inr (.inr (.inr ⟨hq2, rfl⟩))))); (clear HBD); (go_wp2_with fail); (go_meet); (exact ⟨by rw [e9], rfl⟩))); (focus ((have e9 : bd = false := by (rw [HBD.out]; exact decide_eq_false (fun h => by (rcases h with h | h | h | h); (focus omega); (focus omega); (focus omega); (focus exact absurd h.2 (by decide))))); (clear HBD); (go_wp2_with fail); (go_meet); (exact ⟨by rw [e9], rfl⟩))))); (focus ((have e9 : bd = false := by (rw [HBD.out]; exact decide_eq_false (fun h => by (rcases h with h | h | h | h); (focus omega); (focus omega); (focus omega); (focus exact absurd h.1 hq2)))); (clear HBD); (go_wp2_with fail); (go_meet); (exact ⟨by rw [e9], rfl⟩)))
                  · have n8 : (k == 8) = false := by rw [beq_eq_false_iff_ne]; exact k8
                    have m8 : (k != 8) = true := by rw [bne, n8]; rfl
                    by_cases k9 : k = 9
                    · subst k9
                      (by_cases hq1 : (l.length : Int) < LL); (focus ((have e9 : bd = true := by (rw [HBD.out]; exact decide_eq_true (.inr (.inr (.inl hq1))))); (clear HBD); (go_wp2_with fail); (go_meet); (exact ⟨by rw [e9], rfl⟩))); (by_cases hq2 : LL < (l.length : Int)); (focus ((cases pb); (focus ((have e9 : bd = true := by (rw [HBD.out]; exact decide_eq_true (.inr (.inr (.inr ⟨hq2, rfl⟩))))); (clear HBD); (go_wp2_with fail); (go_meet); (exact ⟨by rw [e9], rfl⟩))); (focus ((have e9 : bd = false := by (rw [HBD.out]; exact decide_eq_false (fun h => by (rcases h with h | h | h | h); (focus omega); (focus omega); (focus omega); (focus exact absurd h.2 (by decide))))); (clear HBD); (go_wp2_with fail); (go_meet); (exact ⟨by rw [e9], rfl⟩))))); (focus ((have e9 : bd = false := by (rw [HBD.out]; exact decide_eq_false (fun h => by (rcases h with h | h | h | h); (focus omega); (focus omega); (focus omega); (focus exact absurd h.1 hq2)))); (clear HBD); (go_wp2_with fail); (go_meet); (exact ⟨by rw [e9], rfl⟩)))
                    · have n9 : (k == 9) = false := by rw [beq_eq_false_iff_ne]; exact k9
                      have m9 : (k != 9) = true := by rw [bne, n9]; rfl
                      (have e9 : bd = true := by (rw [HBD.out]; exact decide_eq_true (.inr (.inl ⟨by decide, k8, k9⟩)))); (clear HBD); (go_wp2_with fail); (go_meet); (exact ⟨by rw [e9], rfl⟩)
                · by_cases k8 : k = 8
                  · subst k8
                    (by_cases hq1 : (l.length : Int) < LL); (focus ((have e9 : bd = true := by (rw [HBD.out]; exact decide_eq_true (.inr (.inr (.inl hq1))))); (clear HBD); (go_wp2_with fail); (go_meet); (exact ⟨by rw [e9], rfl⟩))); (by_cases hq2 : LL < (l.length : Int)); (focus ((cases pb); (focus ((have e9 : bd = true := by (rw [HBD.out]; exact decide_eq_true (.inr (.inr (.inr ⟨hq2, rfl⟩))))); (clear HBD); (go_wp2_with fail); (go_meet); (exact ⟨by rw [e9], rfl⟩))); (focus ((have e9 : bd = false := by (rw [HBD.out]; exact decide_eq_false (fun h => by (rcases h with h | h | h | h); (focus omega); (focus omega); (focus omega); (focus exact absurd h.2 (by decide))))); (clear HBD); (go_wp2_with fail); (go_meet); (exact ⟨by rw [e9], rfl⟩))))); (focus ((have e9 : bd = false := by (rw [HBD.out]; exact decide_eq_false (fun h => by (rcases h with h | h | h | h); (focus omega); (focus omega); (focus omega); (focus exact absurd h.1 hq2)))); (clear HBD); (go_wp2_with fail); (go_meet); (exact ⟨by rw [e9], rfl⟩)))
                  · have n8 : (k == 8) = false := by rw [beq_eq_false_iff_ne]; exact k8
                    have m8 : (k != 8) = true := by rw [bne, n8]; rfl
                    by_cases k9 : k = 9
                    · subst k9
                      (by_cases hq1 : (l.length : Int) < LL); (focus ((have e9 : bd = true := by (rw [HBD.out]; exact decide_eq_true (.inr (.inr (.inl hq1))))); (clear HBD); (go_wp2_with fail); (go_meet); (exact ⟨by rw [e9], rfl⟩))); (by_cases hq2 : LL < (l.length : Int)); (focus ((cases pb); (focus ((have e9 : bd = true := by (rw [HBD.out]; exact decide_eq_true (.inr (.inr (.inr ⟨hq2, rfl⟩))))); (clear HBD); (go_wp2_with fail); (go_meet); (exact ⟨by rw [e9], rfl⟩))); (focus ((have e9 : bd = false := by (rw [HBD.out]; exact decide_eq_false (fun h => by (rcases h with h | h | h | h); (focus omega); (focus omega); (focus omega); (focus exact absurd h.2 (by decide))))); (clear HBD); (go_wp2_with fail); (go_meet); (exact ⟨by rw [e9], rfl⟩))))); (focus ((have e9 : bd = false := by (rw [HBD.out]; exact decide_eq_false (fun h => by (rcases h with h | h | h | h); (focus omega); (focus omega); (focus omega); (focus exact absurd h.1 hq2)))); (clear HBD); (go_wp2_with fail); (go_meet); (exact ⟨by rw [e9], rfl⟩)))
                    · have n9 : (k == 9) = false := by rw [beq_eq_false_iff_ne]; exact k9
                      have m9 : (k != 9) = true := by rw [bne, n9]; rfl
                      (have e9 : bd = true := by (rw [HBD.out]; exact decide_eq_true (.inr (.inl ⟨by decide, k8, k9⟩)))); (clear HBD); (go_wp2_with fail); (go_meet); (exact ⟨by rw [e9], rfl⟩)
            case rest =>
            obtain ⟨rfl, rfl⟩ := hcut
            cases bd with
            | true =>
              have HR2 := Lib.hid (HR6.out.trans (if_pos rfl))
              clear p0 p1
              (have z0 := (cell_blk HW.out.non 0).trans rfl); (have z1 := (cell_blk HW.out.non 1).trans rfl); (have z2 := (cell_blk HW.out.non 2).trans rfl); (have z3 := (cell_blk HW.out.non 3).trans rfl); (have z4 := (cell_blk HW.out.non 4).trans rfl); (have r0 := (cell_blk HW.out.res 0).trans rfl; have r1 := (cell_blk HW.out.res 1).trans rfl; have r2 := (cell_blk HW.out.res 2).trans rfl; have r3 := (cell_blk HW.out.res 3).trans rfl; have r4 := (cell_blk HW.out.res 4).trans rfl; have fr0 := frz_blk HW.out.res 0; have fr1 := frz_blk HW.out.res 1; have fr2 := frz_blk HW.out.res 2; have fr3 := frz_blk HW.out.res 3; have fr4 := frz_blk HW.out.res 4); (go_wp2_with fail); ((have hRF := set5 HW.out.res (.int .i64 0) (.int .i64 0) (.string ⟨#[]⟩) (.slice none 0 0) (.int .i64 0)); (have q0 := (cell_blk hRF 0).trans rfl); (have q1 := (cell_blk hRF 1).trans rfl); (have q2 := (cell_blk hRF 2).trans rfl); (have q3 := (cell_blk hRF 3).trans rfl); (have q4 := (cell_blk hRF 4).trans rfl); (refine bodyPost_ret (v := .tuple #[.agg #[.int .i64 0, .int .i64 0, .string ⟨#[]⟩, .slice none 0 0, .int .i64 0], .int .i64 4]) (by simp [results, Tryz.results137, go_sem, q0, q1, q2, q3, q4]) rfl ?_)); (exact ⟨_, by rw [HR2.out], by rw [HR2.out]; exact ⟨none, 0, 0, rfl, Sl.nil _ _ _ _ (by decide)⟩, HW.out.fin _ _ _ _ _⟩)
            | false =>
            have hR7 := HR6.out.trans (if_neg (by simp))
            have hbf := of_decide_eq_false HBD.out.symm
            have hk0 : ¬ k < 0 := fun h => hbf (.inl h)
            have hLl : ¬ (l.length : Int) < LL := fun h => hbf (.inr (.inr (.inl h)))
            have h2 : nb = true → 1 < l.length := fun e => by
              have h1 := HL1.out; have h2 := HLL.out
              rw [e] at h1
              simp only [if_true] at h1
              split at h2 <;> omega
            have h3 : pb = true → 2 < l.length := fun e => by
              have hk := of_decide_eq_true (HPB.out.symm.trans e)
              have e1 : nb = true := by rw [HNB.out]; exact decide_eq_true (by omega)
              have e2 : cb = true := by rw [HCB.out]; exact decide_eq_true (by omega)
              have h1 := HL1.out; have h2 := HLL.out
              rw [e1] at h1
              rw [e2] at h2
              simp only [if_true] at h1 h2
              omega
            unfold rp3 at hR7
            rw [← HCB.out, ← HNB.out] at hR7
            obtain ⟨N, hN⟩ : ∃ N : Int, N = if cb then rdigits (l.getLastD []) else 0 := ⟨_, rfl⟩
            rw [← hN] at hR7
            have HR7 := Lib.hid hR7; have HNN := Lib.hid hN; have H2 := Lib.hid h2; have H3 := Lib.hid h3
            clear hR7 hN h2 h3 hbf hLl HBD HR6 HMR HL1 HLL hL1b hLLb
            go_upto_if 127 with fail
            go_cut [] from 128 to 139 (fun wx => ¬ N < 0 ∧ SlL wx (w.heap.size + 2) gh (some ⟨b0, o0, none⟩) c l ∧ PrW w wx gh #[.int .i64 k, .int .i64 m, .string ⟨#[]⟩, .slice none 0 0, .int .i64 N])
            case first =>
              cases cb with
              | false =>
                have e9 : N = 0 := HNN.out
                go_wp2_with fail
                go_meet
                subst e9
                exact ⟨by decide, HL.out, HW.out⟩
              | true =>
                have hN2 : N = rdigits (l.getLastD []) := HNN.out
                obtain ⟨b1, o1, he, -, hbs, c1⟩ := Sl.str HL.out (k := l.length - 1) (by omega)
                cases he
                have hlb := HN.out.2.2 _ (List.getElem_mem (l := l) (n := l.length - 1) (by omega))
                rw [← last_getL hlp] at c1 hlb
                have hdg := fun w => rdigits_any (l.getLastD []) w (by omega)
                rw [← hN2] at hdg
                generalize l.getLastD [] = y at *
                have HDG := Lib.hid hdg
                have hn4 := HN.out.2.1
                have hwr : IntKind.i64.wrap ((l.length : Int) - 1) = (l.length : Int) - 1 := IntWalk.i64_in _ (by omega)
                have hge : (0 : Int) ≤ (l.length : Int) - 1 := by omega
                have hlt : (l.length : Int) - 1 < (l.length : Int) := by omega
                have htn : ((l.length : Int) - 1).toNat = l.length - 1 := by omega
                have x4 := (cell_blk HW.out.hd 4).trans rfl
                have f4 := frz_blk HW.out.hd 4
                clear hdg hlb hN2 HNN
                go_wp2_with fail
                refine (HDG.out _).mono ?_
                rintro e w' ⟨rfl, rfl⟩
                go_upto_region 30 with fail
                have HW2 := Lib.hid (HW.out.set 4 (.int .i64 N))
                have HL2 := Lib.hid (HL.out.set 4 (.int .i64 N))
                clear x4 f4 c1 hwr hge hlt htn HW HL p0 p1
                generalize (wc.setCell ⟨gh, 4, none⟩ (.int .i64 N)) = W5 at *
                have x4 := (cell_blk HW2.out.hd 4).trans rfl
                by_cases hN0 : N < 0
                · have hdN : decide (N < 0) = true := decide_eq_true hN0
                  have HR2 := Lib.hid (HR7.out.trans (if_pos hN0))
                  (have z0 := (cell_blk HW2.out.non 0).trans rfl); (have z1 := (cell_blk HW2.out.non 1).trans rfl); (have z2 := (cell_blk HW2.out.non 2).trans rfl); (have z3 := (cell_blk HW2.out.non 3).trans rfl); (have z4 := (cell_blk HW2.out.non 4).trans rfl); (have r0 := (cell_blk HW2.out.res 0).trans rfl; have r1 := (cell_blk HW2.out.res 1).trans rfl; have r2 := (cell_blk HW2.out.res 2).trans rfl; have r3 := (cell_blk HW2.out.res 3).trans rfl; have r4 := (cell_blk HW2.out.res 4).trans rfl; have fr0 := frz_blk HW2.out.res 0; have fr1 := frz_blk HW2.out.res 1; have fr2 := frz_blk HW2.out.res 2; have fr3 := frz_blk HW2.out.res 3; have fr4 := frz_blk HW2.out.res 4); (go_wp2_with fail); ((have hRF := set5 HW2.out.res (.int .i64 0) (.int .i64 0) (.string ⟨#[]⟩) (.slice none 0 0) (.int .i64 0)); (have q0 := (cell_blk hRF 0).trans rfl); (have q1 := (cell_blk hRF 1).trans rfl); (have q2 := (cell_blk hRF 2).trans rfl); (have q3 := (cell_blk hRF 3).trans rfl); (have q4 := (cell_blk hRF 4).trans rfl); (refine bodyPost_ret (v := .tuple #[.agg #[.int .i64 0, .int .i64 0, .string ⟨#[]⟩, .slice none 0 0, .int .i64 0], .int .i64 4]) (by simp [results, Tryz.results137, go_sem, q0, q1, q2, q3, q4]) rfl ?_)); (exact ⟨_, by rw [HR2.out], by rw [HR2.out]; exact ⟨none, 0, 0, rfl, Sl.nil _ _ _ _ (by decide)⟩, HW2.out.fin _ _ _ _ _⟩)
                · have hdN : decide (N < 0) = false := decide_eq_false hN0
                  go_wp2_with fail
                  go_meet
                  exact ⟨hN0, HL2.out, HW2.out⟩
            case rest =>
            obtain ⟨hN0, hL, hW⟩ := hcut
            clear HL HW HCB HNN p0 p1
            have HL := Lib.hid hL; have HW := Lib.hid hW
            clear hL hW
            have hR8 := HR7.out.trans (if_neg hN0)
            unfold rp4 at hR8
            rw [← HNB.out, ← HPB.out] at hR8
            obtain ⟨nm, hnm⟩ : ∃ nm, nm = if nb then l.getD 1 [] else [] := ⟨_, rfl⟩
            rw [← hnm] at hR8
            obtain ⟨bn, hbn⟩ : ∃ bn, bn = badR k nm := ⟨_, rfl⟩
            rw [← hbn] at hR8
            obtain ⟨ps, hps⟩ : ∃ ps, ps = if pb then (l.drop 2).take (l.length - 3) else [] := ⟨_, rfl⟩
            rw [← hps] at hR8
            have HR8 := Lib.hid hR8; have HNM := Lib.hid hnm; have HBN := Lib.hid hbn; have HPS := Lib.hid hps
            clear hR8 hnm hbn hps HR7
            have hnml : nm.length ≤ 2000000000 := by
              rw [HNM.out]
              cases nb with
              | false => simp
              | true =>
                have h2 := H2.out rfl
                rw [if_pos rfl, get1_eq h2]
                exact HN.out.2.2 _ (List.getElem_mem _)
            go_upto_if 140 with fail
            go_cut [] from 141 to 165 (fun wx => (nb && bn) = false ∧ SlL wx (w.heap.size + 2) gh (some ⟨b0, o0, none⟩) c l ∧ PrW w wx gh #[.int .i64 k, .int .i64 m, .string ⟨nm.toArray⟩, .slice none 0 0, .int .i64 N])
            case first =>
              cases nb with
              | false =>
                have e9 : nm = [] := HNM.out
                go_wp2_with fail
                go_meet
                subst e9
                exact ⟨rfl, HL.out, HW.out⟩
              | true =>
                have hlen2 := H2.out rfl
                have hN2 : nm = l[1] := by rw [HNM.out, if_pos rfl, get1_eq hlen2]
                obtain ⟨b1, o1, he, -, hbs, c1⟩ := Sl.str HL.out (k := 1) hlen2
                cases he
                rw [← hN2] at c1
                have hlen2' : (1 : Int) < (l.length : Int) := by omega
                have x2 := (cell_blk HW.out.hd 2).trans rfl
                have f2 := frz_blk HW.out.hd 2
                clear HNM hN2
                go_upto_region 34 with fail
                have HW2 := Lib.hid (HW.out.set 2 (.string ⟨nm.toArray⟩))
                have HL2 := Lib.hid (HL.out.set 2 (.string ⟨nm.toArray⟩))
                clear x2 f2 c1 HW HL hbs
                generalize (wc.setCell ⟨gh, 2, none⟩ (.string ⟨nm.toArray⟩)) = W5 at *
                have p0 := (cell_blk HW2.out.hd 0).trans rfl
                have p2 := (cell_blk HW2.out.hd 2).trans rfl
                by_cases k1 : k = 1
                · have hbn2 : bn = !isRefS nm := by rw [HBN.out]; unfold badR; rw [if_pos k1]
                  have hrf := fun w => risref_any nm w (by omega)
                  generalize isRefS nm = qr at *
                  have HRF := Lib.hid hrf
                  clear hrf
                  subst k1
                  go_wp2_with fail
                  refine (HRF.out _).mono ?_
                  rintro e w6 ⟨rfl, hb6⟩
                  have HW6 := Lib.hid (HW2.out.below hb6); have HL6 := Lib.hid (HL2.out.below hb6)
                  clear hb6 HW2 HL2
                  cases qr with
                  | false =>
                    have e9 : bn = true := hbn2
                    have HR2 := Lib.hid (show R = (noHd, 2) from HR8.out.trans (if_pos (by rw [e9]; rfl)))
                    clear p0 p2
                    (have z0 := (cell_blk HW6.out.non 0).trans rfl); (have z1 := (cell_blk HW6.out.non 1).trans rfl); (have z2 := (cell_blk HW6.out.non 2).trans rfl); (have z3 := (cell_blk HW6.out.non 3).trans rfl); (have z4 := (cell_blk HW6.out.non 4).trans rfl); (have r0 := (cell_blk HW6.out.res 0).trans rfl; have r1 := (cell_blk HW6.out.res 1).trans rfl; have r2 := (cell_blk HW6.out.res 2).trans rfl; have r3 := (cell_blk HW6.out.res 3).trans rfl; have r4 := (cell_blk HW6.out.res 4).trans rfl; have fr0 := frz_blk HW6.out.res 0; have fr1 := frz_blk HW6.out.res 1; have fr2 := frz_blk HW6.out.res 2; have fr3 := frz_blk HW6.out.res 3; have fr4 := frz_blk HW6.out.res 4); (go_wp2_with fail); ((have hRF := set5 HW6.out.res (.int .i64 0) (.int .i64 0) (.string ⟨#[]⟩) (.slice none 0 0) (.int .i64 0)); (have q0 := (cell_blk hRF 0).trans rfl); (have q1 := (cell_blk hRF 1).trans rfl); (have q2 := (cell_blk hRF 2).trans rfl); (have q3 := (cell_blk hRF 3).trans rfl); (have q4 := (cell_blk hRF 4).trans rfl); (refine bodyPost_ret (v := .tuple #[.agg #[.int .i64 0, .int .i64 0, .string ⟨#[]⟩, .slice none 0 0, .int .i64 0], .int .i64 2]) (by simp [results, Tryz.results137, go_sem, q0, q1, q2, q3, q4]) rfl ?_)); (exact ⟨_, by rw [HR2.out], by rw [HR2.out]; exact ⟨none, 0, 0, rfl, Sl.nil _ _ _ _ (by decide)⟩, HW6.out.fin _ _ _ _ _⟩)
                  | true =>
                    have e9 : bn = false := hbn2
                    clear p0 p2
                    have p0 := (cell_blk HW6.out.hd 0).trans rfl
                    go_wp2_with fail
                    go_meet
                    exact ⟨by rw [e9]; rfl, HL6.out, HW6.out⟩
                · have n1 : (k == 1) = false := by rw [beq_eq_false_iff_ne]; exact k1
                  have m1 : (k != 1) = true := by rw [bne, n1]; rfl
                  have hbn2 : bn = !name5 nm := by rw [HBN.out]; unfold badR; rw [if_neg k1]
                  have hrf := fun w => name5_any nm w (by omega)
                  generalize name5 nm = qr at *
                  have HRF := Lib.hid hrf
                  clear hrf k1
                  go_wp2_with fail
                  refine (HRF.out _).mono ?_
                  rintro e w6 ⟨rfl, hb6⟩
                  have HW6 := Lib.hid (HW2.out.below hb6); have HL6 := Lib.hid (HL2.out.below hb6)
                  clear hb6 HW2 HL2
                  cases qr with
                  | false =>
                    have e9 : bn = true := hbn2
                    have HR2 := Lib.hid (show R = (noHd, 2) from HR8.out.trans (if_pos (by rw [e9]; rfl)))
                    clear p0 p2
                    (have z0 := (cell_blk HW6.out.non 0).trans rfl); (have z1 := (cell_blk HW6.out.non 1).trans rfl); (have z2 := (cell_blk HW6.out.non 2).trans rfl); (have z3 := (cell_blk HW6.out.non 3).trans rfl); (have z4 := (cell_blk HW6.out.non 4).trans rfl); (have r0 := (cell_blk HW6.out.res 0).trans rfl; have r1 := (cell_blk HW6.out.res 1).trans rfl; have r2 := (cell_blk HW6.out.res 2).trans rfl; have r3 := (cell_blk HW6.out.res 3).trans rfl; have r4 := (cell_blk HW6.out.res 4).trans rfl; have fr0 := frz_blk HW6.out.res 0; have fr1 := frz_blk HW6.out.res 1; have fr2 := frz_blk HW6.out.res 2; have fr3 := frz_blk HW6.out.res 3; have fr4 := frz_blk HW6.out.res 4); (go_wp2_with fail); ((have hRF := set5 HW6.out.res (.int .i64 0) (.int .i64 0) (.string ⟨#[]⟩) (.slice none 0 0) (.int .i64 0)); (have q0 := (cell_blk hRF 0).trans rfl); (have q1 := (cell_blk hRF 1).trans rfl); (have q2 := (cell_blk hRF 2).trans rfl); (have q3 := (cell_blk hRF 3).trans rfl); (have q4 := (cell_blk hRF 4).trans rfl); (refine bodyPost_ret (v := .tuple #[.agg #[.int .i64 0, .int .i64 0, .string ⟨#[]⟩, .slice none 0 0, .int .i64 0], .int .i64 2]) (by simp [results, Tryz.results137, go_sem, q0, q1, q2, q3, q4]) rfl ?_)); (exact ⟨_, by rw [HR2.out], by rw [HR2.out]; exact ⟨none, 0, 0, rfl, Sl.nil _ _ _ _ (by decide)⟩, HW6.out.fin _ _ _ _ _⟩)
                  | true =>
                    have e9 : bn = false := hbn2
                    go_wp2_with fail
                    go_meet
                    exact ⟨by rw [e9]; rfl, HL6.out, HW6.out⟩
            case rest =>
            obtain ⟨hnn, hL, hW⟩ := hcut
            clear HL HW HNM HBN H2
            have HL := Lib.hid hL; have HW := Lib.hid hW
            clear hL hW
            have HR9 := Lib.hid (HR8.out.trans (if_neg (by rw [hnn]; decide)))
            clear HR8 hnn
            go_upto_if 166 with fail
            go_cut [] from 167 to 175 (fun wx => ∃ A3 c3, Sl wx (fun q => gh + 1 ≤ q) A3 ps.length c3 ps ∧ PrW w wx gh #[.int .i64 k, .int .i64 m, .string ⟨nm.toArray⟩, .slice A3 ps.length c3, .int .i64 N])
            case first =>
              cases pb with
              | false =>
                have e9 : ps = [] := HPS.out
                go_wp2_with fail
                go_meet
                subst e9
                exact ⟨none, 0, Sl.nil _ _ _ _ (by decide), HW.out⟩
              | true =>
                have hlen3 := H3.out rfl
                have e9 : ps = (l.drop 2).take (l.length - 3) := HPS.out
                have hpl : ps.length = l.length - 3 := by rw [e9]; simp; omega
                have hn4 := HN.out.2.1
                have hcap := HL.out.2.1
                have hcap2 := HL.out.2.2.1
                have hwr : IntKind.i64.wrap ((l.length : Int) - 1) = (l.length : Int) - 1 := IntWalk.i64_in _ (by omega)
                have hg1 : (l.length : Int) - 1 ≤ (c : Int) := by omega
                have hg2 : (2 : Int) ≤ (l.length : Int) - 1 := by omega
                have hg0 : (0 : Int) ≤ (l.length : Int) - 1 := by omega
                have htn : ((l.length : Int) - 1).toNat = l.length - 1 := by omega
                have hsl0 : SlL wc (w.heap.size + 2) gh (some ⟨b0, o0, none⟩) c l := HL.out
                have h3 := (cell_blk HW.out.hd 3).trans rfl
                go_upto_region 37 with fail
                refine wpY_region (fun z => z.cell? ⟨gh, 3, none⟩ = some (.slice none 0 0)) 9 (by kernel_rfl) ?_
                have hS : wc.drew.cell? ⟨gh, 3, none⟩ = some (.slice none 0 0) := h3
                have HX := Lib.hid (fun (z : World) (hz : z.cell? ⟨gh, 3, none⟩ = some (.slice none 0 0)) => hz)
                have HZ := Lib.hid HW.out.drew
                have hsl1 : SlL wc.drew (w.heap.size + 2) gh (some ⟨b0, o0, none⟩) c l := hsl0.below (Below.refl _ _).drew
                clear h3 hsl0
                generalize wc.drew = W1 at *
                (refine wpAnyY_takeW 0 rfl rfl (by kernel_rfl) (by kernel_rfl) (by kernel_rfl) (by kernel_rfl) (fun _ _ _ h => h) (v := ?_) (by kernel_rfl) hS ?_ ?_; rotate_left; (focus (intro x hx; have fx := HX.out x hx; go_simp; (try with_reducible rfl); done)); (try simp only [Act.put, lsa, lsz, lss]))
                (refine wpAnyY_takeW 1 rfl rfl (by kernel_rfl) (by kernel_rfl) (by kernel_rfl) (by kernel_rfl) (fun _ _ _ h => h) (v := ?_) (by kernel_rfl) hS ?_ ?_; rotate_left; (focus (intro x hx; have fx := HX.out x hx; go_simp; (try with_reducible rfl); done)); (try simp only [Act.put, lsa, lsz, lss]))
                (refine wpAnyY_takeW 2 rfl rfl (by kernel_rfl) (by kernel_rfl) (by kernel_rfl) (by kernel_rfl) (fun _ _ _ h => h) (v := ?_) (by kernel_rfl) hS ?_ ?_; rotate_left; (focus (intro x hx; have fx := HX.out x hx; go_simp; (try with_reducible rfl); done)); (try simp only [Act.put, lsa, lsz, lss]))
                (refine wpAnyY_takeW 3 rfl rfl (by kernel_rfl) (by kernel_rfl) (by kernel_rfl) (by kernel_rfl) (fun _ _ _ h => h) (v := ?_) (by kernel_rfl) hS ?_ ?_; rotate_left; (focus (intro x hx; have fx := HX.out x hx; go_simp; (try with_reducible rfl); done)); (try simp only [Act.put, lsa, lsz, lss]))
                (refine wpAnyY_takeW 4 rfl rfl (by kernel_rfl) (by kernel_rfl) (by kernel_rfl) (by kernel_rfl) (fun _ _ _ h => h) (v := ?_) (by kernel_rfl) hS ?_ ?_; rotate_left; (focus (intro x hx; have fx := HX.out x hx; go_simp; (try with_reducible rfl); done)); (try simp only [Act.put, lsa, lsz, lss]))
                (refine wpAnyY_takeW 5 rfl rfl (by kernel_rfl) (by kernel_rfl) (by kernel_rfl) (by kernel_rfl) (fun _ _ _ h => h) (v := ?_) (by kernel_rfl) hS ?_ ?_; rotate_left; (focus (intro x hx; have fx := HX.out x hx; go_simp; (try with_reducible rfl); done)); (try simp only [Act.put, lsa, lsz, lss]))
                (refine wpAnyY_takeW 6 rfl rfl (by kernel_rfl) (by kernel_rfl) (by kernel_rfl) (by kernel_rfl) (fun _ _ _ h => h) (v := ?_) (by kernel_rfl) hS ?_ ?_; rotate_left; (focus (intro x hx; have fx := HX.out x hx; go_simp; (try with_reducible rfl); done)); (try simp only [Act.put, lsa, lsz, lss]))
                have hsl : Sl W1 (fun q => True ∧ (none : Option Addr).map Addr.block ≠ some q) (if c = 2 then some ⟨b0, o0, none⟩ else some ⟨b0, o0 + 2, none⟩) (l.length - 1 - 2) (c - 2) ps := by
                  have h := (Sl.cut hsl1 (k := 2) (by omega)).take (k := l.length - 3) (by omega)
                  rw [if_neg (by omega), ← e9] at h
                  rw [if_neg (by omega)]
                  exact (h.wide (fun _ _ _ => ⟨trivial, fun e => by cases e⟩) (by decide)).cast (by omega)
                refine wpAnyY_one 7 (by kernel_rfl) rfl ?_
                intro K' hK'
                refine step_appN (T := fun _ => True) (base := gh + 1) (xs := ([] : List Bs)) (ys := ps) rfl _ _ eltStr rfl (by decide) rfl rfl rfl (Own.nil _ _ _ _) rfl hsl (by simp only [List.length_nil]; omega) (by simp only [List.length_nil]; omega) HZ.out.lt ?_
                intro A4 c4 w4 hown4 hg4 hat4
                have hb4 : Below W1.heap.size W1 w4 := (Below.refl _ _).grown hg4 (Nat.le_refl _) (fun q hq => by cases hq)
                have hS4 := cell_later hb4 hS
                have HZ4 := Lib.hid (HZ.out.below hb4)
                have HO4 := Lib.hid ((hown4.strT (T' := fun q => gh + 1 ≤ q)).res (by decide))
                clear hown4 hg4 hat4 hb4 hsl
                refine hK'.out _ _ (fun _ => hS4) ?_
                clear hK' K' hS
                have x3 := (cell_blk HZ4.out.hd 3).trans rfl
                have f3 := frz_blk HZ4.out.hd 3
                refine wpAnyY_one 8 (by kernel_rfl) rfl ?_
                intro K' hK'
                go_simp
                refine hK'.out _ _ (fun _ => hS4) ?_
                clear hK' K'
                (refine wpAnyY_one 9 (by kernel_rfl) rfl ?_; intro K' hK'; go_simp; refine hK'.out _ _ (fun h => absurd rfl h) ?_; clear hK' K'; refine wpAnyY_done (by kernel_rfl) ?_ _)
                go_wp2_with fail
                go_meet
                rw [hpl]
                exact ⟨A4, c4, Sl.keep ((HO4.out : Sl w4 _ A4 ps.length c4 ps).cast hpl) (fun q _ hq => set_other _ _ _ _ _ (by omega)), HZ4.out.set 3 _⟩
            case rest =>
            obtain ⟨A3, c3, hsl, hW⟩ := hcut
            have HPSL := Lib.hid (show ∀ x ∈ ps, x ∈ l from fun x hx => by
              rw [HPS.out] at hx
              cases pb with
              | true => exact List.mem_of_mem_drop (List.mem_of_mem_take hx)
              | false => cases hx)
            clear HL HW HPS H3 HNB HPB
            have HS := Lib.hid hsl; have HW := Lib.hid hW
            clear hsl hW
            have hpsl : ∀ x ∈ ps, x.length ≤ 2000000000 := fun x hx => by
              have := HPSL.out x hx
              exact HN.out.2.2 x this
            have hlo := HW.out.lo
            have hR10 := HR9.out
            unfold rp5 at hR10
            obtain ⟨R7, hR7⟩ : ∃ R7 : Hd × Int, R7 = if 8 < ps.length then (noHd, 10) else if 1024 < N then (noHd, 3) else (⟨k, m, nm, ps, N⟩, 0) := ⟨_, rfl⟩
            rw [← hR7] at hR10
            obtain ⟨R6, hR6⟩ : ∃ R6 : Hd × Int, R6 = if dupS [] ps then (noHd, 6) else R7 := ⟨_, rfl⟩
            rw [← hR6] at hR10
            have HRA : Hid (R = if (ps.drop 0).any (fun p => !name5 p) then (noHd, 2) else R6) := Lib.hid hR10
            have HRB : Hid (R6 = if dupS (ps.take 0) (ps.drop 0) then (noHd, 6) else R7) := Lib.hid hR6
            have HRC := Lib.hid hR7; have HPL := Lib.hid hpsl
            clear hR10 hR6 hR7 hpsl HR9 HN HPSL
            have hpn := HS.out.le
            have p3 := (cell_blk HW.out.hd 3).trans rfl
            go_wp2_with fail
            go_loopw [179] (fun i wr => ∃ j : Nat, j ≤ ps.length ∧ i = .int .i64 j ∧ Below wc.heap.size wc wr ∧ Hid (R = if (ps.drop j).any (fun p => !name5 p) then (noHd, 2) else R6)) (fun i _ => ps.length - (intOf i).toNat)
            case atStart => exact ⟨0, by omega, rfl, Below.refl _ _, HRA⟩
            case round =>
              obtain ⟨j, hj, rfl, hb, hf⟩ := hrel
              have HW2 := Lib.hid (HW.out.below hb)
              have HS2 := Lib.hid (HS.out.below hb)
              by_cases hlt : j < ps.length
              · obtain ⟨b3, o3, rfl, -, hbs, c1⟩ := HS2.out.str hlt
                have hxl := HPL.out _ (List.getElem_mem hlt)
                have hd := hf.out
                rw [drop_get hlt, List.any_cons] at hd
                generalize ps[j] = x at *
                have hnm := fun w => name5_any x w (by omega)
                generalize name5 x = qn at *
                have HNX := Lib.hid hnm; have HD := Lib.hid hd; have HB := Lib.hid hb
                clear hnm hd hf HRA hb p3
                go_wp2_with fail
                refine (HNX.out _).mono ?_
                rintro e w5 ⟨rfl, hb5⟩
                have HW3 := Lib.hid (HW2.out.below hb5)
                have HB3 := Lib.hid (HB.out.trans (hb5.mono HB.out.size))
                clear hb5
                cases qn with
                | false =>
                  have HR2 := Lib.hid (show R = (noHd, 2) from HD.out)
                  (have z0 := (cell_blk HW3.out.non 0).trans rfl); (have z1 := (cell_blk HW3.out.non 1).trans rfl); (have z2 := (cell_blk HW3.out.non 2).trans rfl); (have z3 := (cell_blk HW3.out.non 3).trans rfl); (have z4 := (cell_blk HW3.out.non 4).trans rfl); (have r0 := (cell_blk HW3.out.res 0).trans rfl; have r1 := (cell_blk HW3.out.res 1).trans rfl; have r2 := (cell_blk HW3.out.res 2).trans rfl; have r3 := (cell_blk HW3.out.res 3).trans rfl; have r4 := (cell_blk HW3.out.res 4).trans rfl; have fr0 := frz_blk HW3.out.res 0; have fr1 := frz_blk HW3.out.res 1; have fr2 := frz_blk HW3.out.res 2; have fr3 := frz_blk HW3.out.res 3; have fr4 := frz_blk HW3.out.res 4); (go_wp2_with fail); ((have hRF := set5 HW3.out.res (.int .i64 0) (.int .i64 0) (.string ⟨#[]⟩) (.slice none 0 0) (.int .i64 0)); (have q0 := (cell_blk hRF 0).trans rfl); (have q1 := (cell_blk hRF 1).trans rfl); (have q2 := (cell_blk hRF 2).trans rfl); (have q3 := (cell_blk hRF 3).trans rfl); (have q4 := (cell_blk hRF 4).trans rfl); (refine bodyPost_ret (v := .tuple #[.agg #[.int .i64 0, .int .i64 0, .string ⟨#[]⟩, .slice none 0 0, .int .i64 0], .int .i64 2]) (by simp [results, Tryz.results137, go_sem, q0, q1, q2, q3, q4]) rfl ?_)); (exact ⟨_, by rw [HR2.out], by rw [HR2.out]; exact ⟨none, 0, 0, rfl, Sl.nil _ _ _ _ (by decide)⟩, HW3.out.fin _ _ _ _ _⟩)
                | true =>
                  go_wp2_with fail
                  go_roundw
                  case rel => exact ⟨j + 1, by omega, by go_num, HB3.out, HD⟩
                  case measure => simp [intOf]; omega
              · have hq : R = R6 := by
                  have := hf.out
                  rw [drop_end hlt] at this
                  exact this
                have HRD : Hid (R = if dupS (ps.take 0) (ps.drop 0) then (noHd, 6) else R7) := Lib.hid (hq.trans HRB.out)
                clear hq hf HRA HRB HPL hb HW HS
                generalize wr = W6 at *
                clear p3
                have p3 := (cell_blk HW2.out.hd 3).trans rfl
                go_wp2_with fail
                go_loopw [191] (fun i wr => ∃ j : Nat, j ≤ ps.length ∧ i = .int .i64 j ∧ wr = W6 ∧ Hid (R = if dupS (ps.take j) (ps.drop j) then (noHd, 6) else R7)) (fun i _ => ps.length - (intOf i).toNat)
                case atStart => exact ⟨0, by omega, rfl, rfl, HRD⟩
                case round =>
                  obtain ⟨j, hj, rfl, rfl, hf⟩ := hrel
                  by_cases hlt : j < ps.length
                  · obtain ⟨b3, o3, rfl, -, hbs, c1⟩ := HS2.out.str hlt
                    have hd := hf.out
                    rw [drop_get hlt, dupS] at hd
                    have hcn := has5_any _ j c3 wr _ (ps.take j) ps[j] (HS2.out.take (by omega))
                    have htk : ps.take j ++ [ps[j]] = ps.take (j + 1) := by rw [List.take_succ_eq_append_getElem hlt]
                    rw [htk] at hd
                    have hcap3 := HS2.out.2.1
                    generalize (ps.take j).contains ps[j] = q at *
                    generalize ps[j] = x at *
                    have HD := Lib.hid hd; have HC := Lib.hid hcn
                    clear hd hcn hf htk HRD
                    have hjc : (j : Int) ≤ (c3 : Int) := by omega
                    go_wp2_with fail
                    refine HC.out.mono ?_
                    rintro e w7 ⟨rfl, rfl⟩
                    cases q with
                    | true =>
                      have HR2 := Lib.hid (show R = (noHd, 6) from HD.out)
                      clear p3
                      (have z0 := (cell_blk HW2.out.non 0).trans rfl); (have z1 := (cell_blk HW2.out.non 1).trans rfl); (have z2 := (cell_blk HW2.out.non 2).trans rfl); (have z3 := (cell_blk HW2.out.non 3).trans rfl); (have z4 := (cell_blk HW2.out.non 4).trans rfl); (have r0 := (cell_blk HW2.out.res 0).trans rfl; have r1 := (cell_blk HW2.out.res 1).trans rfl; have r2 := (cell_blk HW2.out.res 2).trans rfl; have r3 := (cell_blk HW2.out.res 3).trans rfl; have r4 := (cell_blk HW2.out.res 4).trans rfl; have fr0 := frz_blk HW2.out.res 0; have fr1 := frz_blk HW2.out.res 1; have fr2 := frz_blk HW2.out.res 2; have fr3 := frz_blk HW2.out.res 3; have fr4 := frz_blk HW2.out.res 4); (go_wp2_with fail); ((have hRF := set5 HW2.out.res (.int .i64 0) (.int .i64 0) (.string ⟨#[]⟩) (.slice none 0 0) (.int .i64 0)); (have q0 := (cell_blk hRF 0).trans rfl); (have q1 := (cell_blk hRF 1).trans rfl); (have q2 := (cell_blk hRF 2).trans rfl); (have q3 := (cell_blk hRF 3).trans rfl); (have q4 := (cell_blk hRF 4).trans rfl); (refine bodyPost_ret (v := .tuple #[.agg #[.int .i64 0, .int .i64 0, .string ⟨#[]⟩, .slice none 0 0, .int .i64 0], .int .i64 6]) (by simp [results, Tryz.results137, go_sem, q0, q1, q2, q3, q4]) rfl ?_)); (exact ⟨_, by rw [HR2.out], by rw [HR2.out]; exact ⟨none, 0, 0, rfl, Sl.nil _ _ _ _ (by decide)⟩, HW2.out.fin _ _ _ _ _⟩)
                    | false =>
                      go_wp2_with fail
                      go_roundw
                      case rel => exact ⟨j + 1, by omega, by go_num, by first | rfl | trivial, HD⟩
                      case measure => simp [intOf]; omega
                  · have hq : R = R7 := by
                      have := hf.out
                      rw [drop_end hlt, dupS] at this
                      exact this
                    have hR7 := hq.trans HRC.out
                    clear hq hf HRD HRC
                    have p4 := (cell_blk HW2.out.hd 4).trans rfl
                    by_cases h8 : (8 : Int) < (ps.length : Int)
                    · have HR2 := Lib.hid (hR7.trans (if_pos (by omega)))
                      clear hR7
                      (have z0 := (cell_blk HW2.out.non 0).trans rfl); (have z1 := (cell_blk HW2.out.non 1).trans rfl); (have z2 := (cell_blk HW2.out.non 2).trans rfl); (have z3 := (cell_blk HW2.out.non 3).trans rfl); (have z4 := (cell_blk HW2.out.non 4).trans rfl); (have r0 := (cell_blk HW2.out.res 0).trans rfl; have r1 := (cell_blk HW2.out.res 1).trans rfl; have r2 := (cell_blk HW2.out.res 2).trans rfl; have r3 := (cell_blk HW2.out.res 3).trans rfl; have r4 := (cell_blk HW2.out.res 4).trans rfl; have fr0 := frz_blk HW2.out.res 0; have fr1 := frz_blk HW2.out.res 1; have fr2 := frz_blk HW2.out.res 2; have fr3 := frz_blk HW2.out.res 3; have fr4 := frz_blk HW2.out.res 4); (go_wp2_with fail); ((have hRF := set5 HW2.out.res (.int .i64 0) (.int .i64 0) (.string ⟨#[]⟩) (.slice none 0 0) (.int .i64 0)); (have q0 := (cell_blk hRF 0).trans rfl); (have q1 := (cell_blk hRF 1).trans rfl); (have q2 := (cell_blk hRF 2).trans rfl); (have q3 := (cell_blk hRF 3).trans rfl); (have q4 := (cell_blk hRF 4).trans rfl); (refine bodyPost_ret (v := .tuple #[.agg #[.int .i64 0, .int .i64 0, .string ⟨#[]⟩, .slice none 0 0, .int .i64 0], .int .i64 10]) (by simp [results, Tryz.results137, go_sem, q0, q1, q2, q3, q4]) rfl ?_)); (exact ⟨_, by rw [HR2.out], by rw [HR2.out]; exact ⟨none, 0, 0, rfl, Sl.nil _ _ _ _ (by decide)⟩, HW2.out.fin _ _ _ _ _⟩)
                    · rw [if_neg (by omega)] at hR7
                      by_cases hN1 : 1024 < N
                      · have HR2 := Lib.hid (hR7.trans (if_pos hN1))
                        clear hR7
                        (have z0 := (cell_blk HW2.out.non 0).trans rfl); (have z1 := (cell_blk HW2.out.non 1).trans rfl); (have z2 := (cell_blk HW2.out.non 2).trans rfl); (have z3 := (cell_blk HW2.out.non 3).trans rfl); (have z4 := (cell_blk HW2.out.non 4).trans rfl); (have r0 := (cell_blk HW2.out.res 0).trans rfl; have r1 := (cell_blk HW2.out.res 1).trans rfl; have r2 := (cell_blk HW2.out.res 2).trans rfl; have r3 := (cell_blk HW2.out.res 3).trans rfl; have r4 := (cell_blk HW2.out.res 4).trans rfl; have fr0 := frz_blk HW2.out.res 0; have fr1 := frz_blk HW2.out.res 1; have fr2 := frz_blk HW2.out.res 2; have fr3 := frz_blk HW2.out.res 3; have fr4 := frz_blk HW2.out.res 4); (go_wp2_with fail); ((have hRF := set5 HW2.out.res (.int .i64 0) (.int .i64 0) (.string ⟨#[]⟩) (.slice none 0 0) (.int .i64 0)); (have q0 := (cell_blk hRF 0).trans rfl); (have q1 := (cell_blk hRF 1).trans rfl); (have q2 := (cell_blk hRF 2).trans rfl); (have q3 := (cell_blk hRF 3).trans rfl); (have q4 := (cell_blk hRF 4).trans rfl); (refine bodyPost_ret (v := .tuple #[.agg #[.int .i64 0, .int .i64 0, .string ⟨#[]⟩, .slice none 0 0, .int .i64 0], .int .i64 3]) (by simp [results, Tryz.results137, go_sem, q0, q1, q2, q3, q4]) rfl ?_)); (exact ⟨_, by rw [HR2.out], by rw [HR2.out]; exact ⟨none, 0, 0, rfl, Sl.nil _ _ _ _ (by decide)⟩, HW2.out.fin _ _ _ _ _⟩)
                      · have HR2 := Lib.hid (hR7.trans (if_neg hN1))
                        clear hR7
                        have p0 := (cell_blk HW2.out.hd 0).trans rfl
                        have p1 := (cell_blk HW2.out.hd 1).trans rfl
                        have p2 := (cell_blk HW2.out.hd 2).trans rfl
                        have r0 := (cell_blk HW2.out.res 0).trans rfl; have r1 := (cell_blk HW2.out.res 1).trans rfl; have r2 := (cell_blk HW2.out.res 2).trans rfl; have r3 := (cell_blk HW2.out.res 3).trans rfl; have r4 := (cell_blk HW2.out.res 4).trans rfl; have fr0 := frz_blk HW2.out.res 0; have fr1 := frz_blk HW2.out.res 1; have fr2 := frz_blk HW2.out.res 2; have fr3 := frz_blk HW2.out.res 3; have fr4 := frz_blk HW2.out.res 4
                        go_wp2_with fail
                        (have hRF := set5 HW2.out.res (.int .i64 k) (.int .i64 m) (.string ⟨nm.toArray⟩) (.slice A3 ps.length c3) (.int .i64 N)); (have q0 := (cell_blk hRF 0).trans rfl); (have q1 := (cell_blk hRF 1).trans rfl); (have q2 := (cell_blk hRF 2).trans rfl); (have q3 := (cell_blk hRF 3).trans rfl); (have q4 := (cell_blk hRF 4).trans rfl); (refine bodyPost_ret (v := .tuple #[.agg #[.int .i64 k, .int .i64 m, .string ⟨nm.toArray⟩, .slice A3 ps.length c3, .int .i64 N], .int .i64 0]) (by simp [results, Tryz.results137, go_sem, q0, q1, q2, q3, q4]) rfl ?_)
                        exact ⟨_, by rw [HR2.out], by rw [HR2.out]; exact ⟨A3, ps.length, c3, rfl, (HS2.out.keep (fun q _ hq => (set_other _ _ _ _ _ (by omega)).trans ((set_other _ _ _ _ _ (by omega)).trans ((set_other _ _ _ _ _ (by omega)).trans ((set_other _ _ _ _ _ (by omega)).trans (set_other _ _ _ _ _ (by omega))))))).wide (fun q _ hq => by omega) (by decide)⟩, HW2.out.fin _ _ _ _ _⟩
end Go.Proofs.YtpeamehplhpcjaaGreatDoor
