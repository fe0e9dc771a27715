/- A part of the proofs of the laws of one package; see the law's own text, which comes last in 'order'. No conditions of its own. -/
import Derived.Test.YtpeamehplhpcjaaGreatDoorWB22
import Derived.Test.YtpeamehplhpcjaaGreatDoorWB37
import Derived.Test.YtpeamehplhpcjaaGreatDoorWB40
set_option linter.unusedVariables false
set_option linter.unusedSimpArgs false
namespace Go.Proofs.YtpeamehplhpcjaaGreatDoor
open Go.RowKit
theorem isNaN_any (s : Bs) (w : World) : Calls Tryz.prog 100 #[.string ⟨s.toArray⟩] w fun e w' => e = .returned (.bool false) ∧ w' = w := by
  go_enter Tryz.func100, Tryz.ntmps100
  go_wp2_with fail
  go_ret
  exact ⟨ret_bool (by simp), by first | rfl | trivial⟩
theorem cmpLess_any (a b : Bs) (w : World) : Calls Tryz.prog 71 #[.string ⟨a.toArray⟩, .string ⟨b.toArray⟩] w fun e w' => e = .returned (.bool (ltS a b)) ∧ w' = w := by
  rw [← less_ltS]
  go_enter Tryz.func71, Tryz.ntmps71
  go_wp2_with fail
  refine (isNaN_any a _).mono ?_
  rintro e w1 ⟨rfl, rfl⟩
  go_wp2_with fail
  go_ret
  exact ⟨ret_bool (by simp), by first | rfl | trivial⟩
set_option maxHeartbeats 2000000 in
theorem isSorted_any (A : Option Addr) (n c : Nat) (w : World) (S : Nat → Prop) (l : List Bs) (hl : Sl w S A n c l) (hs : Srt ltS l) :
    Calls Tryz.prog 27 #[.slice A n c] w fun e w' => e = .returned (.bool true) ∧ Below w.heap.size w w' := by
  have hn := hl.le
  have hlen := hl.len
  subst hlen
  have HL := Lib.hid hl; have HS := Lib.hid hs
  clear hl hs
  go_enter Tryz.func27, Tryz.ntmps27
  go_wp2_with fail
  go_loopw [3] (fun i wr => ∃ k : Nat, k ≤ l.length ∧ i = .int .i64 ((k : Int) - 1) ∧ Below w.heap.size w wr) (fun i _ => (intOf i).toNat)
  case atStart => exact ⟨l.length, by omega, rfl, Below.refl _ _⟩
  case round =>
    obtain ⟨k, hk, rfl, hb⟩ := hrel
    by_cases h2 : 2 ≤ k
    · obtain ⟨j, rfl⟩ : ∃ j, k = j + 2 := ⟨k - 2, by omega⟩
      have e1 : (((j + 2 : Nat) : Int) - 1) = ((j + 1 : Nat) : Int) := by omega
      rw [e1]
      obtain ⟨b, o, rfl, -, hbs, h1⟩ := (HL.out.below hb).str (k := j + 1) (by omega)
      obtain ⟨b', o', he, -, -, h0⟩ := (HL.out.below hb).str (k := j) (by omega)
      cases he
      have hlt : ltS l[j + 1] l[j] = false := by
        have h := List.pairwise_iff_getElem.1 HS.out j (j + 1) (by omega) (by omega) (by omega)
        cases e : ltS l[j + 1] l[j] with
        | false => rfl
        | true => have := ltS_trans _ _ _ h e; rw [ltS_irr] at this; cases this
      have hq := fun w => cmpLess_any l[j + 1] l[j] w
      rw [hlt] at hq
      have HQ := Lib.hid hq; have HB := Lib.hid hb
      have hi1 : (j : Int) + 1 < (l.length : Int) := by omega
      have hi0 : (j : Int) < (l.length : Int) := by omega
      have hwi : IntKind.i64.wrap (j : Int) = (j : Int) := IntWalk.i64_in _ (by omega)
      clear hq hb e1 hlt h2
      go_wp2_with fail
      go_quiet ((go_at_call 71; exact Calls.quiet_of_same (HQ.out _)))
      go_wp2_with fail
      go_roundw
      case rel => exact ⟨j + 1, by omega, by go_num, dN HB.out _⟩
      case measure => simp [intOf] <;> omega
    · have hk1 : ¬ (0 : Int) < (k : Int) - 1 := by omega
      go_wp2_with fail
      go_ret
      exact ⟨rfl, hb⟩
structure WiW (w W : World) (c1 c2 c3 : Array Value) : Prop where
  bl : Below w.heap.size w W
  b1 : W.heap[w.heap.size]? = some (.cells c1 55 (0, 0))
  b2 : W.heap[w.heap.size + 1]? = some (.cells c2 36 (0, 0))
  b3 : W.heap[w.heap.size + 2]? = some (.cells c3 46 (0, 0))
theorem WiW.below {w W W' : World} {c1 c2 c3 : Array Value} (h : WiW w W c1 c2 c3) (hb : Below W.heap.size W W') : WiW w W' c1 c2 c3 := ⟨h.bl.trans (hb.mono h.bl.size), keptBlk hb h.b1, keptBlk hb h.b2, keptBlk hb h.b3⟩
theorem VUnt.heads {w : World} {u : Unt} {p : Bs} {B1 B2 B3 B4 B5 : Option Addr} {m1 d1 m2 d2 m3 d3 m4 d4 m5 d5 : Nat} (h : VUnt w (.agg #[.string ⟨p.toArray⟩, .slice B1 m1 d1, .slice B2 m2 d2, .slice B3 m3 d3, .slice B4 m4 d4, .slice B5 m5 d5]) u) :
    Sl w (fun _ => True) B1 m1 d1 u.flags ∧ Sl w (fun _ => True) B2 m2 d2 u.macros ∧ Sl w (fun _ => True) B3 m3 d3 u.items ∧ Sl w (fun _ => True) B4 m4 d4 u.heads ∧ Sl w (fun _ => True) B5 m5 d5 u.files := by
  obtain ⟨A1, n1, c1, A2, n2, c2, A3, n3, c3, A4, n4, c4, A5, n5, c5, he, h1, h2, h3, h4, h5⟩ := h
  injection he with he
  simp only [Array.mk.injEq, List.cons.injEq, Value.slice.injEq] at he
  obtain ⟨-, ⟨rfl, rfl, rfl⟩, ⟨rfl, rfl, rfl⟩, ⟨rfl, rfl, rfl⟩, ⟨rfl, rfl, rfl⟩, ⟨rfl, rfl, rfl⟩, -⟩ := he
  exact ⟨h1, h2, h3, h4, h5⟩
set_option maxRecDepth 100000 in
set_option maxHeartbeats 4000000 in
theorem within_any (w : World) (x : Scn) (u : Unt) (s : Spn) (A : Option Addr) (n c : Nat) (A2 : Option Addr) (n2 c2 : Nat) (B1 B2 B3 B4 B5 : Option Addr) (m1 d1 m2 d2 m3 d3 m4 d4 m5 d5 : Nat)
    (hl : Sl w (fun _ => True) A n c x.tree) (hh : Sl w (fun _ => True) B4 m4 d4 u.heads) (hwi : Within x.tree u.heads s) (hda : ∀ f ∈ x.tree, f.data.length ≤ 65536) :
    Calls Tryz.prog 23 #[.agg #[.slice A n c, .string ⟨x.path.toArray⟩, .slice A2 n2 c2, .string ⟨x.ln.path.toArray⟩, .int .i64 x.ln.n, .string ⟨x.text.toArray⟩], .agg #[.string ⟨u.path.toArray⟩, .slice B1 m1 d1, .slice B2 m2 d2, .slice B3 m3 d3, .slice B4 m4 d4, .slice B5 m5 d5], .agg #[.string ⟨s.path.toArray⟩, .int .i64 s.fr, .int .i64 s.tu]] w fun e w' => e = .returned (.bool true) ∧ Below w.heap.size w w' := by
  obtain ⟨xt, xp, xf, ⟨xlp, xln⟩, xx⟩ := x
  obtain ⟨up, uf, um, ui, uh, ul⟩ := u
  obtain ⟨sp, sf, st⟩ := s
  simp only at hl hh hwi hda ⊢
  obtain ⟨d, hd, h1, h2, h3, h4, h5⟩ := hwi
  simp only at hd h1 h2 h3 h4 h5
  have hfi := fun w h => rfindT_any A n c w (fun _ => True) xt h sp
  rw [hd] at hfi
  have hcn := fun w => Tryz.strings_Count_one ⟨d.toArray⟩ 10 w
  have hcc : Lib.countByte (⟨d.toArray⟩ : ByteArray).data.toList 10 = d.count 10 := rfl
  rw [hcc] at hcn
  have hln := fun w z h => hasLn_any B4 m4 d4 w (fun _ => True) uh h sp z
  have h4' : ∀ z, sf ≤ z → z < st → hasLn uh ⟨sp, z⟩ = false := fun z ha hb => by
    cases e : hasLn uh ⟨sp, z⟩ with
    | false => rfl
    | true => exact absurd ((hasLn_iff _ _).1 e) (h4 z ha hb)
  have h5' : hasLn uh ⟨sp, sf - 1⟩ = true := (hasLn_iff _ _).2 h5
  obtain ⟨M, hM⟩ : ∃ M : Int, ((d.count 10 : Nat) : Int) = M := ⟨_, rfl⟩
  rw [hM] at h3
  have hcn : ∀ w, Calls Tryz.prog 69 #[.string ⟨d.toArray⟩, .string ⟨#[10]⟩] w fun e w' => e = .returned (.int .i64 M) ∧ w' = w := fun w => by
    have := hcn w
    rw [← hM]
    exact this
  have hM0 : 0 ≤ M := by omega
  have hM1 : M ≤ 65536 := by
    obtain ⟨f, hf, -, hfd⟩ := find_in hd
    have h6 := hda f hf
    have h7 := List.count_le_length (a := (10 : UInt8)) (l := d)
    rw [hfd] at h6
    omega
  have HFI := Lib.hid hfi; have HCN := Lib.hid hcn; have HLN := Lib.hid hln; have H4 := Lib.hid h4'; have H5 := Lib.hid h5'; have HT := Lib.hid hl; have HH := Lib.hid hh
  clear hfi hcn hcc hln h4' h5' h4 h5 hl hh hd hM hda
  go_enter Tryz.func23, Tryz.ntmps23
  go_upto_region 1 with fail
  have hW : WiW w (((w.alloc (.cells #[.slice A n c, .string ⟨xp.toArray⟩, .slice A2 n2 c2, .string ⟨xlp.toArray⟩, .int .i64 xln, .string ⟨xx.toArray⟩] 55)).alloc (.cells #[.string ⟨up.toArray⟩, .slice B1 m1 d1, .slice B2 m2 d2, .slice B3 m3 d3, .slice B4 m4 d4, .slice B5 m5 d5] 36)).alloc (.cells #[.string ⟨sp.toArray⟩, .int .i64 sf, .int .i64 st] 46)) #[.slice A n c, .string ⟨xp.toArray⟩, .slice A2 n2 c2, .string ⟨xlp.toArray⟩, .int .i64 xln, .string ⟨xx.toArray⟩] #[.string ⟨up.toArray⟩, .slice B1 m1 d1, .slice B2 m2 d2, .slice B3 m3 d3, .slice B4 m4 d4, .slice B5 m5 d5] #[.string ⟨sp.toArray⟩, .int .i64 sf, .int .i64 st] :=
    ⟨by ((repeat (first | (with_reducible exact Below.refl _ _) | (with_reducible refine belowA ?_ _) | (with_reducible refine belowD ?_) | (with_reducible refine belowS ?_ (Nat.le_refl _) _ _) | (with_reducible refine next ?_ (by assumption) (Nat.le_refl _)))); done), blkOld (blkOld (blkAt _ _ rfl) _) _, blkOld (blkAt _ _ (by simp)) _, blkAt _ _ (by simp)⟩
  generalize (((w.alloc (.cells #[.slice A n c, .string ⟨xp.toArray⟩, .slice A2 n2 c2, .string ⟨xlp.toArray⟩, .int .i64 xln, .string ⟨xx.toArray⟩] 55)).alloc (.cells #[.string ⟨up.toArray⟩, .slice B1 m1 d1, .slice B2 m2 d2, .slice B3 m3 d3, .slice B4 m4 d4, .slice B5 m5 d5] 36)).alloc (.cells #[.string ⟨sp.toArray⟩, .int .i64 sf, .int .i64 st] 46)) = W at *
  have HW := Lib.hid hW
  clear hW
  have p0 := (cell_blk HW.out.b1 0).trans rfl; have s0 := (cell_blk HW.out.b3 0).trans rfl
  go_wp2_with fail
  refine (HFI.out W (HT.out.below HW.out.bl)).mono ?_
  rintro e w1 ⟨rfl, hb1⟩
  have HW1 := Lib.hid (HW.out.below hb1)
  clear hb1 p0 s0 HW HFI
  unfold findV
  have s0 := (cell_blk HW1.out.b3 0).trans rfl; have s1 := (cell_blk HW1.out.b3 1).trans rfl; have s2 := (cell_blk HW1.out.b3 2).trans rfl
  have k1 : ¬ sf < 1 := by omega
  have k2 : ¬ st < sf := by omega
  have hwM : IntKind.i64.wrap (1 + M) = 1 + M := IntWalk.i64_in _ (by omega)
  have k3 : ¬ IntKind.i64.wrap (1 + M) < st := by omega
  clear hwM
  go_wp2_with fail
  go_quiet ((go_at_call 69; exact Calls.quiet_of_same (HCN.out _)))
  have HW2 := Lib.hid (HW1.out.below (W' := w1.drewN nq) (dN (Below.refl _ _) nq))
  generalize w1.drewN nq = w2 at *
  clear s0 s1 s2 HW1 HCN
  have s1 := (cell_blk HW2.out.b3 1).trans rfl
  go_wp2_with fail
  clear k1 k2 k3
  go_loopw [9] (fun i wr => ∃ z : Int, sf ≤ z ∧ z ≤ st ∧ i = .int .i64 z ∧ WiW w wr #[.slice A n c, .string ⟨xp.toArray⟩, .slice A2 n2 c2, .string ⟨xlp.toArray⟩, .int .i64 xln, .string ⟨xx.toArray⟩] #[.string ⟨up.toArray⟩, .slice B1 m1 d1, .slice B2 m2 d2, .slice B3 m3 d3, .slice B4 m4 d4, .slice B5 m5 d5] #[.string ⟨sp.toArray⟩, .int .i64 sf, .int .i64 st]) (fun i _ => (st - intOf i).toNat)
  case atStart => exact ⟨sf, by omega, by omega, rfl, HW2.out⟩
  case round =>
    obtain ⟨z, hz1, hz2, rfl, hw⟩ := hrel
    have HWr := Lib.hid hw
    clear hw s1
    have r0 := (cell_blk HWr.out.b3 0).trans rfl; have r2 := (cell_blk HWr.out.b3 2).trans rfl; have r4 := (cell_blk HWr.out.b2 4).trans rfl
    by_cases hlt : z < st
    · have hq := HLN.out wr z (HH.out.below HWr.out.bl)
      rw [H4.out z hz1 hlt] at hq
      have HQ := Lib.hid hq
      clear hq
      go_wp2_with fail
      refine HQ.out.mono ?_
      rintro e w3 ⟨rfl, hb3⟩
      have HW3 := Lib.hid (HWr.out.below hb3)
      clear hb3 r0 r2 r4
      go_wp2_with fail
      go_roundw
      case rel => exact ⟨z + 1, by omega, by omega, by go_num, HW3.out⟩
      case measure => simp [intOf] <;> omega
    · have hq := HLN.out wr (sf - 1) (HH.out.below HWr.out.bl)
      rw [H5.out] at hq
      have HQ := Lib.hid hq
      have r1 := (cell_blk HWr.out.b3 1).trans rfl
      clear hq
      go_wp2_with fail
      refine HQ.out.mono ?_
      rintro e w3 ⟨rfl, hb3⟩
      have HW3 := Lib.hid (HWr.out.below hb3)
      clear hb3 r0 r1 r2 r4
      go_wp2_with fail
      go_ret
      exact ⟨rfl, HW3.out.bl⟩
end Go.Proofs.YtpeamehplhpcjaaGreatDoor
