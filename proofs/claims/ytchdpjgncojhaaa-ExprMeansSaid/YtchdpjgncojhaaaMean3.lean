/- ExprMeans: the law's value. -/
import Derived.Test.YtchdpjgncojhaaaMean2
import Derived.Test.YtchdpjgncojhaaaG9
import Derived.Deep.DeepCutAuto
import Derived.Deep.CutBlock
import Derived.Deep.DrawnRows
set_option linter.unusedVariables false
set_option linter.unusedSimpArgs false
namespace Go.Proofs.Ytchdpjgncojhaaa
open Go.RowKit
open Go.Maps (Keyed int_keyed keyOf_int_mk)
attribute [local go_sem ↓] Go.wp_at_zero Go.wp_at_succ

theorem runC_all {f : List Opn} : ∀ {v v' : Int}, runC f v = some v' → ∀ o ∈ f, 0 ≤ needsS o := by
  induction f with
  | nil => intro v v' _ o ho; cases ho
  | cons a r ih =>
    intro v v' h o ho
    obtain ⟨u, h1, h2⟩ := runC_cons h
    rcases List.mem_cons.1 ho with rfl | ho
    · exact (stepC_ok h1).1
    · exact ih h2 o ho
theorem kind_of {o : Opn} (h : 0 ≤ needsS o) : o.kind = 1 ∨ o.kind = 2 ∨ o.kind = 3 ∨ o.kind = 4 ∨ o.kind = 5 ∨ o.kind = 6 ∨ o.kind = 7 := by
  refine Classical.byContradiction fun hx => ?_
  simp only [not_or] at hx
  unfold needsS at h
  simp [hx] at h
def Rng (x : Int) : Prop := 0 ≤ x ∧ x ≤ 4294967295
theorem mix_rng (l : List Int) : ∀ v, Rng v → Rng (l.foldl mixV v) := by
  induction l with
  | nil => intro v h; exact h
  | cons a r ih => intro v _; exact ih _ (mod_rng _)
theorem res_rng {o : Opn} {args : List Int} {ne : Nat} (ho : Rng o.n) (ha : ∀ x ∈ args, Rng x) : Rng (resV o args ne).1 := by
  have h0 : Rng (args.getD 0 0) := by
    cases args with
    | nil => exact ⟨by simp, by simp⟩
    | cons a r => exact ha _ (by simp)
  unfold resV
  split
  · exact mod_rng _
  · split
    · exact mix_rng _ _ (mod_rng _)
    · split
      · exact unS_rng _ _
      · split
        · exact binS_rng _ _ _ h0.1 h0.2
        · exact ho
theorem mapBelow {wr m1 m2 m3 m4 : World} {o : Obj} (h1 : ((wr.alloc o).alloc (.map #[] 0)).grownBy m1 (some (wr.heap.size + 1))) (h2 : m1.grownBy m2 (some (wr.heap.size + 1))) (h3 : m2.grownBy m3 (some (wr.heap.size + 1))) (h4 : m3.grownBy m4 (some (wr.heap.size + 1))) :
    Below (wr.heap.size + 1) (wr.alloc o) m4 := by
  have k0 : Below (wr.heap.size + 1) (wr.alloc o) ((wr.alloc o).alloc (.map #[] 0)) := (Below.refl _ _).alloc (by simp) _
  have k1 := k0.grown h1 (by simp) (fun k hk => by injection hk with hk; omega)
  have s1 := k1.size
  have k2 := k1.grown h2 (by simp at s1; omega) (fun k hk => by injection hk with hk; omega)
  have s2 := k2.size
  have k3 := k2.grown h3 (by simp at s2; omega) (fun k hk => by injection hk with hk; omega)
  have s3 := k3.size
  exact k3.grown h4 (by simp at s3; omega) (fun k hk => by injection hk with hk; omega)
theorem boxBelow {wr m4 : World} {o : Obj} (h : Below (wr.heap.size + 1) (wr.alloc o) m4) : Below wr.heap.size wr m4 :=
  ((Below.refl _ _).alloc (Nat.le_refl _) o).trans (h.mono (by simp))
/-- What holds at the head of value's loop. -/
def VRel (w : World) (f : List Opn) (fin : VSt) (k : Nat) (As : Option Addr) (ns cs : Nat) (Ae : Option Addr) (ne ce : Nat) (wr : World) : Prop :=
  ∃ s : VSt, ns = s.1.length ∧ ne = s.2.length ∧ Own wr (fun _ => False) w.heap.size 37 As cs s.1 ∧ Own wr (fun _ => False) w.heap.size 50 Ae ce s.2 ∧ (∀ q, As.map Addr.block = some q → Ae.map Addr.block ≠ some q) ∧
    Below w.heap.size w wr ∧ runV (f.drop k) s = some fin ∧ s.1.length ≤ k ∧ s.2.length ≤ k ∧ ∀ x ∈ s.1, Rng x

/-- What the switch leaves. -/
def VCut (w : World) (As : Option Addr) (cs : Nat) (xs : List Int) (ev : List Opn) (Ae : Option Addr) (ne ce : Nat) (wx : World) : Prop :=
  ne = ev.length ∧ Own wx (fun _ => False) w.heap.size 37 As cs xs ∧ Own wx (fun _ => False) w.heap.size 50 Ae ce ev ∧ (∀ q, As.map Addr.block = some q → Ae.map Addr.block ≠ some q) ∧ Below w.heap.size w wx
theorem VCut.drewN {w : World} {As : Option Addr} {cs : Nat} {xs : List Int} {ev : List Opn} {Ae : Option Addr} {ne ce : Nat} {wx : World} (h : VCut w As cs xs ev Ae ne ce wx) (m : Nat) : VCut w As cs xs ev Ae ne ce (wx.drewN m) :=
  ⟨h.1, h.2.1.drewN m, h.2.2.1.drewN m, h.2.2.2.1, h.2.2.2.2.trans ⟨rfl, rfl, rfl, Nat.le_refl _, fun _ _ => rfl⟩⟩
theorem VCut.push {w : World} {As : Option Addr} {cs : Nat} {xs : List Int} {ev : List Opn} {Ae : Option Addr} {ne ce : Nat} {wx wy : World} {o : Obj} (h : VCut w As cs xs ev Ae ne ce wx) {A' : Option Addr} {c' : Nat} {e : Opn}
    (hown : Own wy (fun _ => False) w.heap.size 50 A' c' (ev ++ [e])) (hg : (wx.alloc o).grownBy wy (Ae.map Addr.block)) (hat : A'.map Addr.block = Ae.map Addr.block ∨ A'.map Addr.block = some (wx.alloc o).heap.size) :
    VCut w As cs xs (ev ++ [e]) A' (ne + 1) c' wy := by
  obtain ⟨h1, h2, h3, h4, h5⟩ := h
  refine ⟨by rw [List.length_append, h1]; rfl, (h2.alloc o).keep fun k hk hq => hg.block k hk (fun e => ?_), hown, fun q hq => ?_, (h5.alloc h5.size o).grown hg (by have := h5.size; simp; omega) (fun q hq => (h3.lt q hq).1)⟩
  · rcases hq with hq | hq
    · exact hq.elim
    · exact h4 k hq e.symm
  · have hl := (h2.lt q hq).2
    rcases hat with hat | hat
    · rw [hat]; exact h4 q hq
    · rw [hat]; intro e; injection e with e; simp at e; omega
theorem mix_wrap (u a : Int) : IntKind.u32.wrap (IntKind.u32.wrap (u * 31) + a) = mixV u a := by
  simp only [IntKind.wrap, IntKind.signed, IntKind.bits, mixV]
  simp
theorem mix_wrap2 (u a : Int) : IntKind.u32.wrap (u * 31 + a) = mixV u a := by
  simp only [IntKind.wrap, IntKind.signed, IntKind.bits, mixV]
  simp
theorem nextV_2 {o : Opn} {s : VSt} (h : evV o = false) : (nextV o s).2 = s.2 := by unfold nextV; simp [h]

set_option maxRecDepth 100000 in
set_option maxHeartbeats 8000000 in
theorem valueL_any (A : Option Addr) (n c : Nat) (w : World) (S : Nat → Prop) (f : List Opn) (hl : Sl w S A n c f) (hf : OkF f) (hv : ∀ o ∈ f, 0 ≤ needsS o) (hfl : f.length ≤ 256) {x : Int} {ev : List Opn} (hr : runV f ([], []) = some ([x], ev)) :
    Calls Try.prog 31 #[.slice A n c] w fun e w' => ∃ A' c', e = .returned (.tuple #[.int .u32 x, .slice A' ev.length c', .bool true]) ∧ Sl w' (fun b => w.heap.size ≤ b) A' ev.length c' ev ∧ Below w.heap.size w w' := by
  have hn := hl.le
  have hlen := hl.len
  subst hlen
  have HL := Lib.hid hl; have HF := Lib.hid hf; have HVV := Lib.hid hv; have HR : Hid (runV (f.drop 0) ([], []) = some ([x], ev)) := hr
  clear hl hf hv hr
  have hmm := @run_makeMap Try.prog
  go_enter Try.func31, Try.ntmps31
  go_wp2_with fail
  go_loopw [5, 6, 17] (fun a b i wr => ∃ (k : Nat) (As : Option Addr) (ns cs : Nat) (Ae : Option Addr) (ne ce : Nat), k ≤ f.length ∧ i = .int .i64 k ∧ a = .slice As ns cs ∧ b = .slice Ae ne ce ∧ Hid (VRel w f ([x], ev) k As ns cs Ae ne ce wr)) (fun _ _ i _ => f.length - (intOf i).toNat)
  case atStart => exact ⟨0, none, 0, 0, none, 0, 0, by omega, rfl, rfl, rfl, ([], []), rfl, rfl, Own.nil _ _ _ _, Own.nil _ _ _ _, by simp, Below.refl _ _, HR.out, by simp, by simp, by simp⟩
  case round =>
    obtain ⟨k, As, ns, cs, Ae, ne, ce, hk, rfl, rfl, rfl, hrel⟩ := hrel
    by_cases hlt : k < f.length
    · obtain ⟨s, hns, hne, hos, hoe, hdis, hb, hrun, hsk, hek, hrng⟩ := hrel.out
      clear hrel
      obtain ⟨bb, oo, rfl, -, hbs, h1, h2, h3⟩ := (HL.out.below hb).opn hlt
      rw [drop_get hlt] at hrun
      obtain ⟨ho1, ho2, ho3⟩ := HF.out f[k] (List.getElem_mem hlt)
      have hkd := kind_of (HVV.out f[k] (List.getElem_mem hlt))
      have hnv := (needs_val (HVV.out f[k] (List.getElem_mem hlt))).1
      have hn8 := needsS_le f[k]
      have hn0 := HVV.out f[k] (List.getElem_mem hlt)
      generalize f[k] = op at *
      obtain ⟨u, hst, hrun⟩ := runV_cons hrun
      have hstep : needV op ≤ s.1.length ∧ (resA op s).2 = true ∧ u = nextV op s := by
        unfold stepV at hst
        split at hst
        · cases hst
        · split at hst
          · injection hst with hst; exact ⟨by omega, by assumption, hst.symm⟩
          · cases hst
      obtain ⟨hnl, hok, rfl⟩ := hstep
      have hcs := hos.cap
      obtain ⟨q, hq⟩ : ∃ q, q = needV op := ⟨_, rfl⟩
      rw [← hq] at hnl hnv
      obtain ⟨p, hp⟩ : ∃ p, p = ns - q := ⟨_, rfl⟩
      have hpq : (ns : Int) - (q : Int) = (p : Int) := by omega
      have hsub := fun w => sliceU_from As ns cs p (by omega) w
      have hto := fun w => sliceU_to As ns cs p (by omega) w
      have hargs : Sl wr (fun b => w.heap.size ≤ b) (cutA As cs p 1) (ns - p) (cs - p) (s.1.drop p) := (slCutU (hos.sl (by decide) |>.cast hns.symm) (by omega)).wide (fun b _ hb => hb.elim False.elim (fun hb => (hos.lt b hb).1)) (by decide)
      have hnp : ns - p = q := by omega
      rw [hnp] at hsub hargs
      generalize cutA As cs p 1 = C at *
      have hnat := fun (c : Int) h => needD_at (o := op) hkd ho2 (c := c) h
      obtain ⟨ok, ot, on⟩ := op
      simp only at h1 h2 h3 ho1 ho2 ho3 hkd
      have hq8 : q ≤ 8 := by omega
      have hpb : p ≤ 256 := by omega
      have hnb : ns ≤ 256 := by omega
      have hnlt : ¬ ((ns : Int) < (q : Int)) := by omega
      have HOS := Lib.hid hos; have HOE := Lib.hid hoe; have HDIS := Lib.hid hdis; have HRUN := Lib.hid hrun; have HRNG := Lib.hid hrng; have HAR := Lib.hid hargs; have HNAT := Lib.hid hnat
      have HN0 := Lib.hid hn0; clear hn0
      have HNS := Lib.hid hns; have HNE := Lib.hid hne; have HKD := Lib.hid hkd; have HOK := Lib.hid hok; have HQ := Lib.hid hq; have HP := Lib.hid hp
      clear hos hoe hdis hrun hrng hargs hnat hkd hok hst hns hne hq hp hnv hn8
      have hwn : IntKind.i64.wrap on = on := IntWalk.i64_in _ (by omega)
      have hwfn : (Lit.int .i64 on).wf = true := WalkArith.wf_i64 (by omega)
      have hwfk : (Lit.int .i64 ok).wf = true := WalkArith.wf_i64 (by have := HKD.out; omega)
      have hom : ((wr.alloc (.cells #[.int .i64 ok, .string ⟨ot.toArray⟩, .int .u32 on] 50)).alloc (.map #[] 0)).ownsMap Try.prog 3 (plainElem (H := Unit) Try.prog 3) (wr.heap.size + 1) 0 (.map []) := by
        have := World.ownsMap_made (H := Unit) (wr.alloc (.cells #[.int .i64 ok, .string ⟨ot.toArray⟩, .int .u32 on] 50)) Try.prog 3 (plainElem (H := Unit) Try.prog 3)
        simpa using this
      have tokI0 : True := trivial
      clear hrun
      go_upto_block 2 with (first | (have _t := tokI0; refine wpList_insert_own _ rfl _ _ _ 85 rfl 3 3 keyI Try.underlying85 (plainElem (H := Unit) Try.prog 3) (wr.heap.size + 1) 0 _ rfl hom (by decide) (.int .i64 3) _ (.int .i64 3) rfl rfl (keyI_mk 3 rfl) (.lit (.int .i64 on)) [] (plainElem_int Try.underlying3 hwfn) ?_; intro m1 hom1 hgm1; clear tokI0; have tokI1 : True := trivial) | (have _t := tokI1; refine wpList_insert_own _ rfl _ _ _ 85 rfl 3 3 keyI Try.underlying85 (plainElem (H := Unit) Try.prog 3) (wr.heap.size + 1) 1 _ rfl hom1 (by decide) (.int .i64 4) _ (.int .i64 4) rfl rfl (keyI_mk 4 rfl) (.lit (.int .i64 1)) [] (plainElem_int Try.underlying3 rfl) ?_; intro m2 hom2 hgm2; clear tokI1; have tokI2 : True := trivial) | (have _t := tokI2; refine wpList_insert_own _ rfl _ _ _ 85 rfl 3 3 keyI Try.underlying85 (plainElem (H := Unit) Try.prog 3) (wr.heap.size + 1) 2 _ rfl hom2 (by decide) (.int .i64 6) _ (.int .i64 6) rfl rfl (keyI_mk 6 rfl) (.lit (.int .i64 1)) [] (plainElem_int Try.underlying3 rfl) ?_; intro m3 hom3 hgm3; clear tokI2; have tokI3 : True := trivial) | (have _t := tokI3; refine wpList_insert_own _ rfl _ _ _ 85 rfl 3 3 keyI Try.underlying85 (plainElem (H := Unit) Try.prog 3) (wr.heap.size + 1) 3 _ rfl hom3 (by decide) (.int .i64 7) _ (.int .i64 7) rfl rfl (keyI_mk 7 rfl) (.lit (.int .i64 2)) [] (plainElem_int Try.underlying3 rfl) ?_; go_must (intro m4 hom4 hgm4; clear tokI3; have hbm := mapBelow hgm1 hgm2 hgm3 hgm4; have h60 := (hbm.cell (p := ⟨wr.heap.size, 0, none⟩) (Nat.lt_succ_self _)).trans (cell_blk (blkAt wr _ rfl) 0); have h61 := (hbm.cell (p := ⟨wr.heap.size, 1, none⟩) (Nat.lt_succ_self _)).trans (cell_blk (blkAt wr _ rfl) 1); have h62 := (hbm.cell (p := ⟨wr.heap.size, 2, none⟩) (Nat.lt_succ_self _)).trans (cell_blk (blkAt wr _ rfl) 2); simp only [List.getElem?_toArray, List.getElem?_cons_succ, List.getElem?_cons_zero] at h60 h61 h62; have hbm2 := boxBelow hbm; clear hgm1 hgm2 hgm3 hgm4 hom hom1 hom2 hom3)) | (at_lookup; refine wpList_lookup_own_int _ rfl _ _ 85 rfl 3 3 .i64 keyI Try.underlying85 Try.underlying3 (zeroI _) (wr.heap.size + 1) 4 _ rfl hom4 (.int .i64 ok) (.int .i64 ok) rfl (keyI_mk ok hwfk) ?_; intro cc hat hwc; have hcq : cc = (q : Int) := (HNAT.out cc hat).trans (by rw [HQ.out]); subst hcq; clear hat hom4) | (go_at_call 59; go_must (refine (cloneU_any C q (cs - p) _ _ (s.1.drop p) (HAR.out.below hbm2) (by omega)).mono ?_; rintro e w3 ⟨A9, n9, c9, rfl, hs9, hb9⟩; have h70 := cell_later hb9 h60; have h71 := cell_later hb9 h61; have h72 := cell_later hb9 h62; clear h60 h61 h62)))
      have hbw3 : Below wr.heap.size wr w3 := hbm2.trans (hb9.mono hbm2.size)
      have hB3 : Below w.heap.size w w3 := next hb hbw3 (Nat.le_refl _)
      have hvc : VCut w As cs (s.1.take p) s.2 Ae ne ce w3 := ⟨HNE.out, (HOS.out.below hbw3).take p, HOE.out.below hbw3, HDIS.out, hB3⟩
      have hres : resA ⟨ok, ot, on⟩ s = resV ⟨ok, ot, on⟩ (s.1.drop p) s.2.length := by
        unfold resA
        rw [← HQ.out, ← HNS.out, ← HP.out]
      have hnx1 : (nextV ⟨ok, ot, on⟩ s).1 = s.1.take p ++ [(resV ⟨ok, ot, on⟩ (s.1.drop p) s.2.length).1] := by
        unfold nextV
        rw [← HQ.out, ← HNS.out, ← HP.out, hres]
      have hnx2 : (nextV ⟨ok, ot, on⟩ s).2 = if evV ⟨ok, ot, on⟩ then s.2 ++ [⟨ok, ot, (resV ⟨ok, ot, on⟩ (s.1.drop p) s.2.length).1⟩] else s.2 := by
        unfold nextV
        rw [hres]
      have hxl : (s.1.drop p).length = n9 := hs9.len.symm
      have hxr : ∀ x ∈ s.1.drop p, Rng x := fun x hx => HRNG.out x (List.mem_of_mem_drop hx)
      have hn9q : n9 = q := by rw [← hxl, List.length_drop]; have := HNS.out; omega
      have htp : (s.1.take p).length = p := by have := HNS.out; rw [List.length_take]; omega
      have hrr : Rng (resV ⟨ok, ot, on⟩ (s.1.drop p) s.2.length).1 := res_rng ⟨ho2, ho3⟩ hxr
      have htr : ∀ x ∈ s.1.take p, Rng x := fun x hx => HRNG.out x (List.mem_of_mem_take hx)
      generalize hXD : s.1.drop p = X at *
      have HXD := Lib.hid hXD; clear hXD
      generalize hV : (resV ⟨ok, ot, on⟩ X s.2.length) = V at *
      generalize s.1.take p = Y at *
      have HVC := Lib.hid hvc; have HNX1 := Lib.hid hnx1; have HNX2 := Lib.hid hnx2; have HXL := Lib.hid hxl; have HXR := Lib.hid hxr; have HTP := Lib.hid htp; have HRR := Lib.hid hrr; have HTR := Lib.hid htr; have HV := Lib.hid hV; have HS9 := Lib.hid hs9; have HB3 := Lib.hid hB3; have HQ9 := Lib.hid hn9q
      clear hvc hres hnx1 hnx2 hxl hxr htp hrr htr hV hs9 hB3 hbw3 hbm hbm2 hb9 HAR HOS HOE HDIS HNAT hn9q hsub hto hmm
      go_cut [6, 11, 12, 14] from 50 to 109 (fun e6 e11 e12 _ wx => ∃ (A' : Option Addr) (n' c' : Nat), e6 = .slice A' n' c' ∧ e11 = .int .u32 V.1 ∧ e12 = .bool true ∧ Hid (VCut w As cs Y (nextV ⟨ok, ot, on⟩ s).2 A' n' c' wx))
      case first =>
        rcases HKD.out with rfl | rfl | rfl | rfl | rfl | rfl | rfl
        · have hr : V = (on, true) := by rw [← HV.out]; rfl
          go_wp2
          go_meet
          rw [hr, nextV_2 rfl]
          exact ⟨Ae, ne, ce, rfl, rfl, rfl, HVC⟩
        · have hr : V = ((ot.length : Int) * 2654435761 % 4294967296, true) := by rw [← HV.out]; rfl
          go_wp2
          go_meet
          rw [hr, nextV_2 rfl]
          exact ⟨Ae, ne, ce, rfl, by rw [show ((ot.length : Int) % 4294967296 * 2654435761 % 4294967296) = (ot.length : Int) * 2654435761 % 4294967296 from by omega], rfl, HVC⟩
        · have hr : V = (X.foldl mixV ((s.2.length : Int) * 40503 % 4294967296), true) := by rw [← HV.out]; rfl
          have hnx : (nextV ⟨3, ot, on⟩ s).2 = s.2 ++ [⟨3, ot, V.1⟩] := by rw [HNX2.out]; rfl
          have HNX := Lib.hid hnx
          have HR0 := Lib.hid hr; clear hr hnx
          have hn9b : n9 ≤ 256 := by have := HQ9.out; omega
          go_wp2_with fail
          go_loopw [11, 67] (fun v i wl => ∃ (j : Nat) (u : Int), j ≤ n9 ∧ i = .int .i64 j ∧ v = .int .u32 u ∧ wl = w3 ∧ Hid (V.1 = (X.drop j).foldl mixV u)) (fun _ i _ => n9 - (intOf i).toNat)
          case atStart =>
            refine ⟨0, _, by omega, rfl, rfl, rfl, ?_⟩
            show V.1 = _
            rw [HR0.out, List.drop_zero]
            show X.foldl mixV ((s.2.length : Int) * 40503 % 4294967296) = _
            rw [← HNE.out]
            congr 1
            omega
          case round =>
            obtain ⟨j, u, hj, rfl, rfl, rfl, hf⟩ := hrel
            by_cases hjn : j < n9
            · have hjx : j < X.length := by have := HXL.out; omega
              obtain ⟨b9, o9, rfl, -, -, hc9⟩ := HS9.out.word hjx
              have hd : V.1 = (X.drop (j + 1)).foldl mixV (mixV u X[j]) := by rw [hf.out, drop_get hjx]; rfl
              generalize X[j] = xj at *
              have HD := Lib.hid hd; clear hd hf
              go_wp2
              go_roundw
              case rel =>
                refine ⟨j + 1, _, by omega, by go_num, rfl, by first | rfl | trivial, ?_⟩
                show V.1 = _
                rw [HD.out]
                congr 1
                unfold mixV
                omega
              case measure => simp [intOf]; omega
            · have hd : V.1 = u := by have := HXL.out; rw [hf.out, drop_end (by omega)]; rfl
              have hek' : s.2.length ≤ 256 := by omega
              subst hd
              clear hf
              go_wp2_with (at_builtin; go_must (refine wpList_app1 rfl (.tmp 76) (.tmp 83) eltOpn' rfl (by decide) rfl rfl HNE.out (HVC.out.2.2.1.alloc _) rfl [.int .i64 3, .string ⟨ot.toArray⟩, .int .u32 V.1] ⟨3, ot, V.1⟩ (blkAt _ _ rfl) rfl ⟨rfl, rfl, rfl⟩ (by omega) (by omega) (by have := HVC.out.2.2.2.2.size; simp; omega) ?_; intro A6 c6 w6 hown6 hg6 hat6))
              go_meet
              rw [HNX.out]
              exact ⟨A6, ne + 1, c6, rfl, rfl, rfl, HVC.out.push hown6 hg6 hat6⟩
        · have hr : V = (X.foldl mixV ((s.2.length : Int) * 40503 % 4294967296), true) := by rw [← HV.out]; rfl
          have hnx : (nextV ⟨4, ot, on⟩ s).2 = s.2 ++ [⟨4, ot, V.1⟩] := by rw [HNX2.out]; rfl
          have HNX := Lib.hid hnx
          have HR0 := Lib.hid hr; clear hr hnx
          have hn9b : n9 ≤ 256 := by have := HQ9.out; omega
          go_wp2_with fail
          go_loopw [11, 67] (fun v i wl => ∃ (j : Nat) (u : Int), j ≤ n9 ∧ i = .int .i64 j ∧ v = .int .u32 u ∧ wl = w3 ∧ Hid (V.1 = (X.drop j).foldl mixV u)) (fun _ i _ => n9 - (intOf i).toNat)
          case atStart =>
            refine ⟨0, _, by omega, rfl, rfl, rfl, ?_⟩
            show V.1 = _
            rw [HR0.out, List.drop_zero]
            show X.foldl mixV ((s.2.length : Int) * 40503 % 4294967296) = _
            rw [← HNE.out]
            congr 1
            omega
          case round =>
            obtain ⟨j, u, hj, rfl, rfl, rfl, hf⟩ := hrel
            by_cases hjn : j < n9
            · have hjx : j < X.length := by have := HXL.out; omega
              obtain ⟨b9, o9, rfl, -, -, hc9⟩ := HS9.out.word hjx
              have hd : V.1 = (X.drop (j + 1)).foldl mixV (mixV u X[j]) := by rw [hf.out, drop_get hjx]; rfl
              generalize X[j] = xj at *
              have HD := Lib.hid hd; clear hd hf
              go_wp2
              go_roundw
              case rel =>
                refine ⟨j + 1, _, by omega, by go_num, rfl, by first | rfl | trivial, ?_⟩
                show V.1 = _
                rw [HD.out]
                congr 1
                unfold mixV
                omega
              case measure => simp [intOf]; omega
            · have hd : V.1 = u := by have := HXL.out; rw [hf.out, drop_end (by omega)]; rfl
              have hek' : s.2.length ≤ 256 := by omega
              subst hd
              clear hf
              go_wp2_with (at_builtin; go_must (refine wpList_app1 rfl (.tmp 76) (.tmp 83) eltOpn' rfl (by decide) rfl rfl HNE.out (HVC.out.2.2.1.alloc _) rfl [.int .i64 4, .string ⟨ot.toArray⟩, .int .u32 V.1] ⟨4, ot, V.1⟩ (blkAt _ _ rfl) rfl ⟨rfl, rfl, rfl⟩ (by omega) (by omega) (by have := HVC.out.2.2.2.2.size; simp; omega) ?_; intro A6 c6 w6 hown6 hg6 hat6))
              go_meet
              rw [HNX.out]
              exact ⟨A6, ne + 1, c6, rfl, rfl, rfl, HVC.out.push hown6 hg6 hat6⟩
        · have hr : V = (X.foldl mixV ((s.2.length : Int) * 40503 % 4294967296), true) := by rw [← HV.out]; rfl
          have hnx : (nextV ⟨5, ot, on⟩ s).2 = s.2 ++ [⟨5, ot, V.1⟩] := by rw [HNX2.out]; rfl
          have HNX := Lib.hid hnx
          have HR0 := Lib.hid hr; clear hr hnx
          have hn9b : n9 ≤ 256 := by have := HQ9.out; omega
          go_wp2_with fail
          go_loopw [11, 67] (fun v i wl => ∃ (j : Nat) (u : Int), j ≤ n9 ∧ i = .int .i64 j ∧ v = .int .u32 u ∧ wl = w3 ∧ Hid (V.1 = (X.drop j).foldl mixV u)) (fun _ i _ => n9 - (intOf i).toNat)
          case atStart =>
            refine ⟨0, _, by omega, rfl, rfl, rfl, ?_⟩
            show V.1 = _
            rw [HR0.out, List.drop_zero]
            show X.foldl mixV ((s.2.length : Int) * 40503 % 4294967296) = _
            rw [← HNE.out]
            congr 1
            omega
          case round =>
            obtain ⟨j, u, hj, rfl, rfl, rfl, hf⟩ := hrel
            by_cases hjn : j < n9
            · have hjx : j < X.length := by have := HXL.out; omega
              obtain ⟨b9, o9, rfl, -, -, hc9⟩ := HS9.out.word hjx
              have hd : V.1 = (X.drop (j + 1)).foldl mixV (mixV u X[j]) := by rw [hf.out, drop_get hjx]; rfl
              generalize X[j] = xj at *
              have HD := Lib.hid hd; clear hd hf
              go_wp2
              go_roundw
              case rel =>
                refine ⟨j + 1, _, by omega, by go_num, rfl, by first | rfl | trivial, ?_⟩
                show V.1 = _
                rw [HD.out]
                congr 1
                unfold mixV
                omega
              case measure => simp [intOf]; omega
            · have hd : V.1 = u := by have := HXL.out; rw [hf.out, drop_end (by omega)]; rfl
              have hek' : s.2.length ≤ 256 := by omega
              subst hd
              clear hf
              go_wp2_with (at_builtin; go_must (refine wpList_app1 rfl (.tmp 76) (.tmp 83) eltOpn' rfl (by decide) rfl rfl HNE.out (HVC.out.2.2.1.alloc _) rfl [.int .i64 5, .string ⟨ot.toArray⟩, .int .u32 V.1] ⟨5, ot, V.1⟩ (blkAt _ _ rfl) rfl ⟨rfl, rfl, rfl⟩ (by omega) (by omega) (by have := HVC.out.2.2.2.2.size; simp; omega) ?_; intro A6 c6 w6 hown6 hg6 hat6))
              go_meet
              rw [HNX.out]
              exact ⟨A6, ne + 1, c6, rfl, rfl, rfl, HVC.out.push hown6 hg6 hat6⟩
        · have hq1 : q = 1 := HQ.out
          have hX1 : X.length = 1 := by have := HXL.out; have := HQ9.out; omega
          obtain ⟨b9, o9, rfl, -, -, hc9⟩ := HS9.out.word (k := 0) (by omega)
          have hx0 : X[0] = X.getD 0 0 := by simp [hX1]
          have hr : V = unS ot (X.getD 0 0) := by rw [← HV.out]; rfl
          have hxr := HXR.out _ (List.getElem_mem (show 0 < X.length by omega))
          rw [hx0] at hc9 hxr
          simp only [Nat.add_zero] at hc9
          have hV2 : V.2 = true := by
            have h := (needs_val (o := ⟨6, ot, on⟩) HN0.out).2 s
            unfold resA at h
            rw [← HQ.out, ← HNS.out, ← HP.out, HXD.out, HV.out] at h
            exact h
          have hu8 := fun w => (unary_any ot (X.getD 0 0) w hxr.1 hxr.2).mono (R' := fun e w' => e = .returned (.tuple #[.int .u32 V.1, .bool V.2]) ∧ w' = w) fun e w' h => ⟨by rw [hr]; exact h.1, h.2.symm⟩
          rw [hV2] at hu8
          generalize X.getD 0 0 = x0 at *
          have HU := Lib.hid hu8
          have hn90 : (0 : Int) < (n9 : Int) := by have := HQ9.out; omega
          have hn91 : 0 < n9 := by omega
          clear hu8 hr hV2 hxr hx0 hq1 hX1
          go_wp2_with fail
          go_quiet ((go_at_call 25; exact Calls.quiet_of_same (HU.out _)))
          go_wp2
          go_meet
          rw [nextV_2 rfl]
          exact ⟨Ae, ne, ce, rfl, rfl, rfl, HVC.out.drewN _⟩
        · have hq1 : q = 2 := HQ.out
          have hX1 : X.length = 2 := by have := HXL.out; have := HQ9.out; omega
          obtain ⟨b9, o9, rfl, -, -, hc9⟩ := HS9.out.word (k := 0) (by omega)
          obtain ⟨b9', o9', he9, -, -, hd9⟩ := HS9.out.word (k := 1) (by omega)
          injection he9 with he9
          injection he9 with he1 he2
          subst he1 he2
          have hx0 : X[0] = X.getD 0 0 := by simp [hX1]
          have hx1 : X[1] = X.getD 1 0 := by simp [hX1]
          have hr : V = binS ot (X.getD 0 0) (X.getD 1 0) := by rw [← HV.out]; rfl
          have hxr := HXR.out _ (List.getElem_mem (show 0 < X.length by omega))
          have hyr := HXR.out _ (List.getElem_mem (show 1 < X.length by omega))
          rw [hx0] at hc9 hxr
          rw [hx1] at hd9 hyr
          simp only [Nat.add_zero] at hc9
          have hV2 : V.2 = true := by
            have h := (needs_val (o := ⟨7, ot, on⟩) HN0.out).2 s
            unfold resA at h
            rw [← HQ.out, ← HNS.out, ← HP.out, HXD.out, HV.out] at h
            exact h
          have hu8 := fun w => (binary_any ot (X.getD 0 0) (X.getD 1 0) w hxr.1 hxr.2 hyr.1 hyr.2).mono (R' := fun e w' => e = .returned (.tuple #[.int .u32 V.1, .bool V.2]) ∧ w' = w) fun e w' h => ⟨by rw [hr]; exact h.1, h.2.symm⟩
          rw [hV2] at hu8
          generalize X.getD 0 0 = x0 at *
          generalize X.getD 1 0 = x1 at *
          have HU := Lib.hid hu8
          have hn90 : (0 : Int) < (n9 : Int) := by have := HQ9.out; omega
          have hn91 : 0 < n9 := by omega
          have hn92 : (1 : Int) < (n9 : Int) := by have := HQ9.out; omega
          have hn93 : 1 < n9 := by omega
          clear hu8 hr hV2 hxr hyr hx0 hx1 hq1 hX1
          go_wp2_with fail
          go_quiet ((go_at_call 27; exact Calls.quiet_of_same (HU.out _)))
          go_wp2
          go_meet
          rw [nextV_2 rfl]
          exact ⟨Ae, ne, ce, rfl, rfl, rfl, HVC.out.drewN _⟩
      case rest =>
        obtain ⟨A', n', c', rfl, rfl, rfl, hvc⟩ := hcut
        have hbc := hvc.out.2.2.2.2
        go_wp2_with (at_builtin; go_must (refine wpList_app1 rfl (.tmp 112) (.tmp 114) eltU rfl (by decide) rfl rfl HTP.out.symm (hvc.out.2.1.alloc _) rfl [.int .u32 V.1] V.1 (blkAt _ _ rfl) rfl rfl (by have := HTP.out; omega) (by have := HTP.out; omega) (by have := hbc.size; simp; omega) ?_; intro A6 c6 w6 hown6 hg6 hat6))
        go_roundw
        case rel =>
          obtain ⟨e1, e2, e3, e4, e5⟩ := hvc.out
          have hlen' : (Y ++ [V.1]).length = p + 1 := by rw [List.length_append, HTP.out]; rfl
          have hekk : (nextV ⟨ok, ot, on⟩ s).2.length ≤ k + 1 := by
            rw [HNX2.out]
            split
            · rw [List.length_append]; show _ + 1 ≤ _; omega
            · omega
          refine ⟨k + 1, A6, p + 1, c6, A', n', c', by omega, by go_num, rfl, rfl, Lib.hid ⟨nextV ⟨ok, ot, on⟩ s, ?_, e1, ?_, ?_, ?_, ?_, HRUN.out, ?_, hekk, ?_⟩⟩
          · rw [HNX1.out, hlen']
          · rw [HNX1.out]; exact hown6
          · exact (e3.alloc _).keep fun q hq hk => hg6.block q hq (fun e => by rcases hk with hk | hk; exact hk.elim; exact e4 q e.symm hk)
          · intro q hq hq'
            have hl := (e3.lt q hq').2
            rcases hat6 with hat6 | hat6
            · rw [hat6] at hq; exact e4 q hq hq'
            · rw [hat6] at hq; injection hq with hq; simp at hq; omega
          · exact (e5.alloc e5.size _).grown hg6 (by have := e5.size; simp; omega) (fun q hq => (e2.lt q hq).1)
          · rw [HNX1.out, hlen']; have := HP.out; have := HNS.out; omega
          · rw [HNX1.out]
            intro x hx
            rcases List.mem_append.1 hx with hx | hx
            · exact HTR.out x hx
            · simp only [List.mem_cons, List.not_mem_nil, or_false] at hx; subst hx; exact HRR.out
        case measure => simp [intOf]; omega
    · obtain ⟨s, hns, hne, hos, hoe, hdis, hb, hrun, hsk, hek, hrng⟩ := hrel.out
      clear hrel
      rw [drop_end hlt] at hrun
      injection hrun with hrun
      subst hrun
      simp only at hns hne hos hoe
      obtain rfl : ns = 1 := hns
      subst hne
      obtain ⟨b9, o9, rfl, -, -, hc9⟩ := (hos.sl (by decide)).word (k := 0) (by simp)
      simp only [Nat.add_zero, List.getElem_cons_zero] at hc9
      have hres : Sl wr (fun b => w.heap.size ≤ b) Ae ev.length ce ev := (hoe.sl (by decide)).wide (fun q _ hq => hq.elim False.elim (fun hq => (hoe.lt q hq).1)) (by decide)
      have HRES := Lib.hid hres
      clear hres hos hoe hdis hrng hsk hek
      go_wp2
      go_ret3
      exact ⟨Ae, ce, rfl, HRES.out, hb⟩
end Go.Proofs.Ytchdpjgncojhaaa
