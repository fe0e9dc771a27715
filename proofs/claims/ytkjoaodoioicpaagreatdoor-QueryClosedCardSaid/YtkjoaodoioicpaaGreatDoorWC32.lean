/- Query (package licitlaw54): a part of the proofs of its laws; see the law's own text, which comes last in 'order'. No conditions of its own. -/
import Derived.Deep.Slices
import Derived.Deep.Strs
import Derived.ProofKit
import Derived.OpenShut
import Derived.Test.YtkjoaodoioicpaaGreatDoorRows
import Derived.Lib.LaidTab
import Derived.Lib.LaidU8
import Derived.Shelf.Vars
import Derived.Stop.LaidErr
import Derived.MakeChecks
import Derived.Handed
import Derived.SizedLaws
import Derived.Test.YtkjoaodoioicpaaGreatDoorWC01
import Derived.Test.YtkjoaodoioicpaaGreatDoorWC02
import Derived.Test.YtkjoaodoioicpaaGreatDoorWC03
import Derived.Test.YtkjoaodoioicpaaGreatDoorWC12
import Derived.Test.YtkjoaodoioicpaaGreatDoorWC31
set_option linter.unusedVariables false
set_option linter.unusedSimpArgs false
namespace Go.Proofs.YtkjoaodoioicpaaGreatDoor
open Go.RowKit
section
variable {w : World} {S : Nat → Prop} {A : Option Addr} {n c k : Nat}
theorem Sl.num {xs : List Int} (h : Sl w S A n c xs) (hk : k < xs.length) : ∃ b o, A = some ⟨b, o, none⟩ ∧ S b ∧ b < w.heap.size ∧ w.cell? ⟨b, o + k, none⟩ = some (.int .i64 xs[k]) := by
  obtain ⟨b, o, hA, hS, hb, g, hc, h0⟩ := h.plain (by decide) hk
  have c0 := hc 0 (by decide)
  rw [h0] at c0
  refine ⟨b, o, hA, hS, hb, ?_⟩
  rw [← c0]
  show w.cell? ⟨b, o + k, none⟩ = w.cell? ⟨b, o + k * 1 + 0, none⟩
  rw [Nat.mul_one, Nat.add_zero]
end
set_option maxRecDepth 100000 in
set_option maxHeartbeats 4000000 in
theorem equalI_any (A : Option Addr) (n c : Nat) (xs : List Int) (B : Option Addr) (m d : Nat) (ys : List Int) (w : World) (S T : Nat → Prop) (hl : Sl w S A n c xs) (hr : Sl w T B m d ys) :
    Calls Tryz.prog 21 #[.slice A n c, .slice B m d] w fun e w' => e = .returned (.bool (decide (xs = ys))) ∧ Below w.heap.size w w' := by
  obtain ⟨v, hv⟩ : ∃ v, v = decide (xs = ys) := ⟨_, rfl⟩
  rw [← hv]
  have hn := hl.len; have hm := hr.len
  subst hn hm
  have hle := hl.le; have hle2 := hr.le
  by_cases hlen : xs.length = ys.length
  · have HV : Hid (v = decide (xs.drop 0 = ys.drop 0)) := hv
    have HL := Lib.hid hl; have HR := Lib.hid hr; have HLEN := Lib.hid hlen
    have hlb : ((xs.length : Int) != (ys.length : Int)) = false := by simp [hlen]
    clear hv hl hr
    go_enter Tryz.func21, Tryz.ntmps21
    clear hlen
    go_wp2_with fail
    clear hlb
    go_loopw [13] (fun i wr => ∃ k : Nat, k ≤ xs.length ∧ i = .int .i64 k ∧ Below w.heap.size w wr ∧ Hid (v = decide (xs.drop k = ys.drop k))) (fun i _ => xs.length - (intOf i).toNat)
    case atStart => exact ⟨0, by omega, rfl, Below.refl _ _, HV⟩
    case round =>
      obtain ⟨k, hk, rfl, hb, hf⟩ := hrel
      by_cases hlt : k < xs.length
      · obtain ⟨b1, o1, rfl, -, hbs1, h1⟩ := (HL.out.below hb).num hlt
        obtain ⟨b2, o2, rfl, -, hbs2, g1⟩ := (HR.out.below hb).num (k := k) (by have := HLEN.out; omega)
        have hd := hf.out
        rw [drop_get hlt, drop_get (l := ys) (k := k) (by have := HLEN.out; omega)] at hd
        generalize xs[k] = p at *
        generalize ys[k]'_ = q at *
        have HD := Lib.hid hd
        have HX := Lib.hid (fun (x : World) (hx : Below wr.heap.size wr x) => And.intro (cell_later hx h1) (cell_later hx g1))
        have HBW := Lib.hid hb
        have q0 : (0 : Int) ≤ (k : Int) := by omega
        have q1 : (k : Int) < (xs.length : Int) := by omega
        have q2 : (k : Int) < (ys.length : Int) := by have := HLEN.out; omega
        clear hd hf
        go_wp2_with fail
        refine wpH_region (fun x => Below wr.heap.size wr x) (by kernel_rfl) ?_
        have hS : Below wr.heap.size wr wr.drew := (Below.refl _ _).drew
        clear h1 g1 hb
        (refine tkW 0 (v := ?_) hS ?_ ?_; rotate_left; (focus (intro x hx; have fx := HX.out x hx; go_simp; (try with_reducible rfl); done)); (try simp only [Act.put, lsa, lsz, lss]))
        (refine tkW 1 (v := ?_) hS ?_ ?_; rotate_left; (focus (intro x hx; have fx := HX.out x hx; go_simp; (try with_reducible rfl); done)); (try simp only [Act.put, lsa, lsz, lss]))
        (refine tkW 2 (v := ?_) hS ?_ ?_; rotate_left; (focus (intro x hx; have fx := HX.out x hx; go_simp; (try with_reducible rfl); done)); (try simp only [Act.put, lsa, lsz, lss]))
        (refine tkW 3 (v := ?_) hS ?_ ?_; rotate_left; (focus (intro x hx; have fx := HX.out x hx; go_simp; (try with_reducible rfl); done)); (try simp only [Act.put, lsa, lsz, lss]))
        (refine tkW 4 (v := ?_) hS ?_ ?_; rotate_left; (focus (intro x hx; have fx := HX.out x hx; go_simp; (try with_reducible rfl); done)); (try simp only [Act.put, lsa, lsz, lss]))
        (refine tkW 5 (v := ?_) hS ?_ ?_; rotate_left; (focus (intro x hx; have fx := HX.out x hx; go_simp; (try with_reducible rfl); done)); (try simp only [Act.put, lsa, lsz, lss]))
        (refine tkW 6 (v := ?_) hS ?_ ?_; rotate_left; (focus (intro x hx; have fx := HX.out x hx; go_simp; (try with_reducible rfl); done)); (try simp only [Act.put, lsa, lsz, lss]))
        (refine tkW 7 (v := ?_) hS ?_ ?_; rotate_left; (focus (intro x hx; have fx := HX.out x hx; go_simp; (try with_reducible rfl); done)); (try simp only [Act.put, lsa, lsz, lss]))
        by_cases hpq : p = q
        · subst hpq
          (refine tkW 8 (v := ?_) hS ?_ ?_; rotate_left; (focus (intro x hx; have fx := HX.out x hx; go_simp; (try with_reducible rfl); done)); (try simp only [Act.put, lsa, lsz, lss]))
          refine wpAnyH_done (by kernel_rfl) ?_ _
          go_wp2_with fail
          go_roundw
          case rel =>
            refine ⟨k + 1, by omega, by go_num, HBW.out.trans (hS.mono HBW.out.size), Lib.hid ?_⟩
            rw [HD.out, Bool.eq_iff_iff]
            simp
          case measure => simp [intOf]; omega
        · refine wpAnyH_takeW 8 rfl rfl (by kernel_rfl) (by kernel_rfl) (by kernel_rfl) (fun _ _ _ h => h) (v := .bool true) (by kernel_rfl) hS (fun x hx => by have fx := HX.out x hx; go_simp; (try exact hpq); (try exact fun a => hpq a)) ?_
          simp only [Act.put, lsa, lsz, lss]
          refine wpAnyH_done (by kernel_rfl) ?_ _
          have hd : v = false := by
            rw [HD.out, decide_eq_false_iff_not]
            intro e
            injection e with e
            exact hpq e
          have HF := Lib.hid hd; clear hd hpq
          go_wp2_with fail
          go_ret
          exact ⟨ret_bool HF.out, HBW.out.trans (hS.mono HBW.out.size)⟩
      · have hd := hf.out
        rw [drop_end hlt, drop_end (by have := HLEN.out; omega)] at hd
        have HD := Lib.hid (show v = true by rw [hd]; rfl)
        clear hd hf
        go_wp2_with fail
        go_ret
        exact ⟨ret_bool HD.out, hb⟩
  · have HV := Lib.hid (show v = false by rw [hv, decide_eq_false_iff_not]; intro e; exact hlen (by rw [e]))
    have hlb : ((xs.length : Int) != (ys.length : Int)) = true := by rw [bne_iff_ne]; omega
    clear hv hl hr hlen
    go_enter Tryz.func21, Tryz.ntmps21
    go_wp2_with fail
    go_ret
    exact ⟨ret_bool HV.out, Below.refl _ _⟩
set_option maxHeartbeats 1000000 in
theorem cp54_any (A : Option Addr) (n c : Nat) (l : List Rul) (w : World) (S : Nat → Prop) (hl : Sl w S A n c l) (hlen : l.length ≤ 10000000) :
    Calls Tryz.prog 9 #[.slice A n c] w fun e w' => ∃ A' c', e = .returned (.slice A' l.length c') ∧ Own w' (fun k => k < w.heap.size) w.heap.size 34 A' c' l ∧ Below w.heap.size w w' := by
  have hn := hl.len
  subst hn
  have hle := hl.le
  have HL := Lib.hid hl; clear hl
  go_enter Tryz.func9, Tryz.ntmps9
  go_wp2_with (at_builtin; go_loud (refine wpList_appN (e := 34) (T := fun k => k < w.heap.size) (base := w.heap.size) (xs := ([] : List Rul)) rfl (.tmp 3) (.tmp 4) eltRul rfl (by decide) rfl rfl rfl (Own.emp (blkAt _ _ rfl) (Nat.le_refl _)) rfl ((HL.out.wide (fun k hk1 hk => ⟨hk1, fun e => by injection e with e; exact absurd e (by have := hk1; simp only; omega)⟩) (by decide)).alloc _) (by simp; omega) (by simp; omega) (by simp) ?_); intro A' c' w2 hown' hg hat)
  go_ret
  exact ⟨A', c', by simp, by simpa using hown', boxed.grown hg (by simp) (fun k hk => by have hk : some w.heap.size = some k := hk; injection hk with hk; omega)⟩
set_option maxHeartbeats 1000000 in
theorem ca54_any (A : Option Addr) (n c : Nat) (l : List Atm) (w : World) (S : Nat → Prop) (hl : Sl w S A n c l) (hlen : l.length ≤ 10000000) :
    Calls Tryz.prog 10 #[.slice A n c] w fun e w' => ∃ A' c', e = .returned (.slice A' l.length c') ∧ Own w' (fun k => k < w.heap.size) w.heap.size 31 A' c' l ∧ Below w.heap.size w w' := by
  have hn := hl.len
  subst hn
  have hle := hl.le
  have HL := Lib.hid hl; clear hl
  go_enter Tryz.func10, Tryz.ntmps10
  go_wp2_with (at_builtin; go_loud (refine wpList_appN (e := 31) (T := fun k => k < w.heap.size) (base := w.heap.size) (xs := ([] : List Atm)) rfl (.tmp 3) (.tmp 4) eltAtm rfl (by decide) rfl rfl rfl (Own.emp (blkAt _ _ rfl) (Nat.le_refl _)) rfl ((HL.out.wide (fun k hk1 hk => ⟨hk1, fun e => by injection e with e; exact absurd e (by have := hk1; simp only; omega)⟩) (by decide)).alloc _) (by simp; omega) (by simp; omega) (by simp) ?_); intro A' c' w2 hown' hg hat)
  go_ret
  exact ⟨A', c', by simp, by simpa using hown', boxed.grown hg (by simp) (fun k hk => by have hk : some w.heap.size = some k := hk; injection hk with hk; omega)⟩
def numA (z : Int) : Arg := ⟨3, [], z⟩
theorem set2 {w : World} {b : Nat} {a0 a1 : Value} {t : TypeId} (h : w.heap[b]? = some (.cells #[a0, a1] t (0, 0))) (b0 b1 : Value) :
    ((w.setCell ⟨b, 0, none⟩ b0).setCell ⟨b, 1, none⟩ b1).heap[b]? = some (.cells #[b0, b1] t (0, 0)) := by
  have h1 := Blk.set w h 0 b0
  rw [Blk.set _ h1 1 b1]
  simp
set_option maxRecDepth 100000 in
set_option maxHeartbeats 4000000 in
theorem factO_any (s : Bs) (L : List Int) (B : Option Addr) (m d : Nat) (w : World) (S : Nat → Prop) (hl : Sl w S B m d L) (hlen : L.length ≤ 1000) :
    Calls Tryz.prog 15 #[.string ⟨s.toArray⟩, .slice B m d] w fun e w' => ∃ A c, e = .returned (.agg #[.string ⟨s.toArray⟩, .slice A L.length c]) ∧ Own w' (fun _ => False) (w.heap.size + 2) 46 A c (L.map numA) ∧ Below w.heap.size w w' := by
  have hn := hl.len
  subst hn
  have hle := hl.le
  have HL := Lib.hid hl; clear hl
  go_enter Tryz.func15, Tryz.ntmps15
  go_wp2_with fail
  have hB0 := blkOld (blkAt w (.cells #[.string ⟨#[]⟩, .slice none 0 0] 31) rfl) (.cells #[.string ⟨s.toArray⟩, .slice none 0 0] 31)
  have hB1 : ((w.alloc (.cells #[.string ⟨#[]⟩, .slice none 0 0] 31)).alloc (.cells #[.string ⟨s.toArray⟩, .slice none 0 0] 31)).heap[w.heap.size + 1]? = some (.cells #[.string ⟨s.toArray⟩, .slice none 0 0] 31 (0, 0)) := blkAt _ _ (by simp)
  have hBB : Below w.heap.size w ((w.alloc (.cells #[.string ⟨#[]⟩, .slice none 0 0] 31)).alloc (.cells #[.string ⟨s.toArray⟩, .slice none 0 0] 31)) := boxed.alloc (by simp) _
  have hsz : w.heap.size + 2 ≤ ((w.alloc (.cells #[.string ⟨#[]⟩, .slice none 0 0] 31)).alloc (.cells #[.string ⟨s.toArray⟩, .slice none 0 0] 31)).heap.size := by simp
  generalize (w.alloc (.cells #[.string ⟨#[]⟩, .slice none 0 0] 31)).alloc (.cells #[.string ⟨s.toArray⟩, .slice none 0 0] 31) = W at *
  have HBB := Lib.hid (show Below w.heap.size w W ∧ w.heap.size + 2 ≤ W.heap.size ∧ W.heap[w.heap.size]? = some (.cells #[.string ⟨#[]⟩, .slice none 0 0] 31 (0, 0)) ∧ ∃ A c, W.heap[w.heap.size + 1]? = some (.cells #[.string ⟨s.toArray⟩, .slice A ((0 : Nat) : Int).toNat c] 31 (0, 0)) ∧ Own W (fun _ => False) (w.heap.size + 2) 46 A c ((L.take 0).map numA) from ⟨hBB, hsz, hB0, none, 0, hB1, Own.nil _ _ _ _⟩)
  clear hB0 hB1 hBB hsz
  go_loopw [12] (fun i wr => ∃ k : Nat, k ≤ L.length ∧ i = .int .i64 k ∧ Hid (Below w.heap.size w wr ∧ w.heap.size + 2 ≤ wr.heap.size ∧ wr.heap[w.heap.size]? = some (.cells #[.string ⟨#[]⟩, .slice none 0 0] 31 (0, 0)) ∧ ∃ A c, wr.heap[w.heap.size + 1]? = some (.cells #[.string ⟨s.toArray⟩, .slice A k c] 31 (0, 0)) ∧ Own wr (fun _ => False) (w.heap.size + 2) 46 A c ((L.take k).map numA))) (fun i _ => L.length - (intOf i).toNat)
  case atStart => exact ⟨0, by omega, rfl, HBB⟩
  case round =>
    obtain ⟨k, hk, rfl, hqq⟩ := hrel
    obtain ⟨hb, hwsz, hB0, A3, c3, hbox, hown⟩ := hqq.out
    clear hqq HBB
    by_cases hlt : k < L.length
    · obtain ⟨b1, o1, rfl, -, hbs1, g1⟩ := (HL.out.below hb).num hlt
      have htk : (L.take (k + 1)).map numA = (L.take k).map numA ++ [numA L[k]] := by rw [List.take_succ_eq_append_getElem hlt, List.map_append]; rfl
      generalize L[k] = z at *
      have hxl : ((L.take k).map numA).length = k := by rw [List.length_map, List.length_take]; omega
      have e1 := (cell_blk hbox 1).trans rfl
      have hkb : ∀ w5, (wr.alloc (.cells #[.int .i64 3, .string ⟨#[]⟩, .int .i64 z] 46)).grownBy w5 (A3.map Addr.block) → w5.heap[w.heap.size + 1]? = some (.cells #[.string ⟨s.toArray⟩, .slice A3 k c3] 31 (0, 0)) := fun w5 hg5 => grownBlk hg5 (blkOld hbox _) (fun e => by have := (hown.lt _ e).1; omega)
      have hkb0 : ∀ w5, (wr.alloc (.cells #[.int .i64 3, .string ⟨#[]⟩, .int .i64 z] 46)).grownBy w5 (A3.map Addr.block) → w5.heap[w.heap.size]? = some (.cells #[.string ⟨#[]⟩, .slice none 0 0] 31 (0, 0)) := fun w5 hg5 => grownBlk hg5 (blkOld hB0 _) (fun e => by have := (hown.lt _ e).1; omega)
      have HB := Lib.hid hb; have HOWN := Lib.hid hown; have HTK := Lib.hid htk; have HKB := Lib.hid hkb; have HKB0 := Lib.hid hkb0; have HXL := Lib.hid hxl
      clear hb hown htk hkb hkb0 hbox hB0 hxl
      go_wp2_with (at_builtin; go_loud (refine wpList_app1 rfl _ _ eltArg rfl (by decide) rfl rfl HXL.out.symm (HOWN.out.alloc _) rfl [.int .i64 3, .string ⟨#[]⟩, .int .i64 z] (numA z) (blkAt _ _ rfl) rfl ⟨rfl, rfl, rfl⟩ (by rw [HXL.out]; omega) (by rw [HXL.out]; omega) (Nat.le_trans hwsz (Nat.le_of_lt (lt_alloc _ _))) ?_); intro A5 c5 w5 hown5 hg5 hat5; have k5 := (cell_blk (HKB.out w5 hg5) 1).trans rfl; have z5 := frz_blk (HKB.out w5 hg5) 1; have HX5 := Lib.hid (HKB.out w5 hg5); have HX50 := Lib.hid (HKB0.out w5 hg5); have HO5 := Lib.hid hown5; have HG5 := Lib.hid hg5; clear hown5 hg5 hat5)
      have hsA : (wr.alloc (.cells #[.int .i64 3, .string ⟨#[]⟩, .int .i64 z] 46)).heap.size = wr.heap.size + 1 := by simp
      have hg5s := HG5.out.size
      have hx6 : (w5.setCell ⟨w.heap.size + 1, 1, none⟩ (.slice A5 (k + 1) c5)).heap[w.heap.size + 1]? = some (.cells #[.string ⟨s.toArray⟩, .slice A5 (k + 1) c5] 31 (0, 0)) := by rw [Blk.set w5 HX5.out 1]; simp
      have hx60 : (w5.setCell ⟨w.heap.size + 1, 1, none⟩ (.slice A5 (k + 1) c5)).heap[w.heap.size]? = some (.cells #[.string ⟨#[]⟩, .slice none 0 0] 31 (0, 0)) := by rw [set_other _ _ _ _ _ (by omega)]; exact HX50.out
      have hb6 : Below w.heap.size w (w5.setCell ⟨w.heap.size + 1, 1, none⟩ (.slice A5 (k + 1) c5)) := ((HB.out.alloc HB.out.size _).grown HG5.out (by have := HB.out.size; omega) (fun k hk => by have := (HOWN.out.lt k hk).1; omega)).setCell (p := ⟨w.heap.size + 1, 1, none⟩) (Nat.le_succ _) _
      have ho6 : Own (w5.setCell ⟨w.heap.size + 1, 1, none⟩ (.slice A5 (k + 1) c5)) (fun _ => False) (w.heap.size + 2) 46 A5 c5 ((L.take (k + 1)).map numA) := by
        rw [HTK.out]
        exact HO5.out.keep fun k _ hT => set_other _ _ _ _ _ (by rcases hT with hT | hT; exact hT.elim; have := (HO5.out.lt k hT).1; omega)
      have hz6 : (w5.setCell ⟨w.heap.size + 1, 1, none⟩ (.slice A5 (k + 1) c5)).heap.size = w5.heap.size := by simp [World.setCell]
      have HQ := Lib.hid (show Below w.heap.size w (w5.setCell ⟨w.heap.size + 1, 1, none⟩ (.slice A5 (k + 1) c5)) ∧ w.heap.size + 2 ≤ (w5.setCell ⟨w.heap.size + 1, 1, none⟩ (.slice A5 (k + 1) c5)).heap.size ∧ (w5.setCell ⟨w.heap.size + 1, 1, none⟩ (.slice A5 (k + 1) c5)).heap[w.heap.size]? = some (.cells #[.string ⟨#[]⟩, .slice none 0 0] 31 (0, 0)) ∧ ∃ A c, (w5.setCell ⟨w.heap.size + 1, 1, none⟩ (.slice A5 (k + 1) c5)).heap[w.heap.size + 1]? = some (.cells #[.string ⟨s.toArray⟩, .slice A (k + 1) c] 31 (0, 0)) ∧ Own (w5.setCell ⟨w.heap.size + 1, 1, none⟩ (.slice A5 (k + 1) c5)) (fun _ => False) (w.heap.size + 2) 46 A c ((L.take (k + 1)).map numA) from ⟨hb6, by omega, hx60, A5, c5, hx6, ho6⟩)
      clear hx6 hx60 hb6 ho6 hz6 k5 z5 hsA hg5s
      go_wp2_with fail
      go_roundw
      case rel => exact ⟨k + 1, by omega, by go_num, HQ⟩
      case measure => simp [intOf]; omega
    · have hke : k = L.length := by omega
      subst hke
      rw [List.take_length] at hown
      have e0 := (cell_blk hbox 0).trans rfl; have e1 := (cell_blk hbox 1).trans rfl
      have f0 := (cell_blk hB0 0).trans rfl; have f1 := (cell_blk hB0 1).trans rfl
      have z0 := frz_blk hB0 0; have z1 := frz_blk hB0 1
      have HB := Lib.hid hb; have HOWN := Lib.hid hown; have HX0 := Lib.hid hB0
      clear hb hown hbox hB0
      go_wp2_with fail
      have hRF := set2 HX0.out (.string ⟨s.toArray⟩) (.slice A3 L.length c3)
      have q0 := (cell_blk hRF 0).trans rfl; have q1 := (cell_blk hRF 1).trans rfl
      refine bodyPost_ret (v := .agg #[.string ⟨s.toArray⟩, .slice A3 L.length c3]) (by simp [results, Tryz.results15, go_sem, q0, q1]) rfl ?_
      have h9 := (HOWN.out.keep (w' := (wr.setCell ⟨w.heap.size, 0, none⟩ (.string ⟨s.toArray⟩)).setCell ⟨w.heap.size, 1, none⟩ (.slice A3 L.length c3)) fun k _ hT => by
        have hne : k ≠ w.heap.size := by rcases hT with hT | hT; exact hT.elim; have := (HOWN.out.lt k hT).1; omega
        rw [set_other _ _ _ _ _ hne, set_other _ _ _ _ _ hne])
      exact ⟨A3, c3, rfl, h9, (HB.out.setCell (p := ⟨w.heap.size, 0, none⟩) (Nat.le_refl _) _).setCell (p := ⟨w.heap.size, 1, none⟩) (Nat.le_refl _) _⟩
theorem fact_any (s : Bs) (L : List Int) (B : Option Addr) (m d : Nat) (w : World) (S : Nat → Prop) (hl : Sl w S B m d L) (hlen : L.length ≤ 1000) :
    Calls Tryz.prog 15 #[.string ⟨s.toArray⟩, .slice B m d] w fun e w' => ∃ A c, e = .returned (.agg #[.string ⟨s.toArray⟩, .slice A L.length c]) ∧ Sl w' (fun k => w.heap.size ≤ k) A L.length c (L.map numA) ∧ Below w.heap.size w w' := by
  refine (factO_any s L B m d w S hl hlen).mono ?_
  rintro e w' ⟨A, c, rfl, h9, hb⟩
  exact ⟨A, c, rfl, ((h9.sl (by decide)).wide (fun k _ hk => hk.elim (fun h => h.elim) fun h => by have := (h9.lt k h).1; omega) (by decide)).cast (by rw [List.length_map]), hb⟩
end Go.Proofs.YtkjoaodoioicpaaGreatDoor
namespace Go.Proofs.YtkjoaodoioicpaaGreatDoor
open Go.RowKit
theorem Own.blk {α : Type} [GoT α] {w : World} {T : Nat → Prop} {base e c : Nat} {A : Option Addr} {xs : List α} (h : Own w T base e A c xs) (hz : 0 < xs.length) : ∃ g cs, A = some ⟨g, 0, none⟩ ∧ w.heap[g]? = some (.cells cs e (0, 0)) ∧ xs.length * GoT.size α ≤ cs.size := by
  obtain ⟨l0, ⟨h1, h2⟩, h3⟩ := h
  rcases h2 with ⟨h2, h0⟩ | ⟨g', cap, cur, hv, hbb, hg, hn, hm, hcs, htk⟩
  · omega
  · injection hv with hA
    exact ⟨g', cur, hA, hg, by rw [hcs]; exact Nat.mul_le_mul_right _ hn⟩
theorem Own.base {α : Type} [GoT α] {w : World} {T : Nat → Prop} {base b e c : Nat} {A : Option Addr} {xs : List α} (h : Own w T base e A c xs) (hb : b ≤ base) : Own w T b e A c xs := by
  obtain ⟨cs, ⟨h1, h2⟩, h3⟩ := h
  refine ⟨cs, ⟨h1, ?_⟩, h3⟩
  rcases h2 with h2 | ⟨g, cap, cur, hv, hbb, h⟩
  · exact .inl h2
  · exact .inr ⟨g, cap, cur, hv, Nat.le_trans hb hbb, h⟩
structure Pr where
  a : Nat
  b : Nat
instance : Inhabited Pr := ⟨⟨0, 0⟩⟩
instance : GoT Pr where
  size := 2
  rd := fun _ _ g x => g 0 = .int .u8 (x.a : Int) ∧ g 1 = .int .u8 (x.b : Int)
  keep := fun _ h => h
  wide := fun _ h => h
  same := fun hg h => ⟨(hg 0 (by omega)).trans h.1, (hg 1 (by omega)).trans h.2⟩
  one := fun h j hj => by
    match j, hj with
    | 0, _ => rw [h.1]; rfl
    | 1, _ => rw [h.2]; rfl
end Go.Proofs.YtkjoaodoioicpaaGreatDoor
namespace Go.Proofs.YtkjoaodoioicpaaGreatDoor
open Go.RowKit Go.Deep Go.ChangeShapes
theorem cellsOfInt : Tryz.prog.cellsOf 3 = 1 := by kernel_rfl
theorem cellsOfStr : Tryz.prog.cellsOf 9 = 1 := by kernel_rfl
theorem cellsOfBool : Tryz.prog.cellsOf 4 = 1 := by kernel_rfl
theorem cellsOfArg : Tryz.prog.cellsOf 46 = 3 := by kernel_rfl
theorem cellsOfArgs : Tryz.prog.cellsOf 29 = 1 := by kernel_rfl
theorem cellsOfAtm : Tryz.prog.cellsOf 31 = 2 := by kernel_rfl
theorem cellsOfLtl : Tryz.prog.cellsOf 60 = 4 := by kernel_rfl
theorem cellsOfLtls : Tryz.prog.cellsOf 32 = 1 := by kernel_rfl
theorem cellsOfRul : Tryz.prog.cellsOf 34 = 3 := by kernel_rfl
theorem undArg : ∃ f0 f1 f2 : Field, Tryz.prog.underlying 46 = some (.struct #[f0, f1, f2]) ∧ f0.type = 3 ∧ f0.offset = 0 ∧ f1.type = 9 ∧ f1.offset = 1 ∧ f2.type = 3 ∧ f2.offset = 2 :=
  ⟨_, _, _, Tryz.underlying46, rfl, rfl, rfl, rfl, rfl, rfl⟩
theorem undAtm : ∃ f0 f1 : Field, Tryz.prog.underlying 31 = some (.struct #[f0, f1]) ∧ f0.type = 9 ∧ f0.offset = 0 ∧ f1.type = 29 ∧ f1.offset = 1 :=
  ⟨_, _, Tryz.underlying31, rfl, rfl, rfl, rfl⟩
theorem undLtl : ∃ f0 f1 f2 : Field, Tryz.prog.underlying 60 = some (.struct #[f0, f1, f2]) ∧ f0.type = 4 ∧ f0.offset = 0 ∧ f1.type = 9 ∧ f1.offset = 1 ∧ f2.type = 31 ∧ f2.offset = 2 :=
  ⟨_, _, _, Tryz.underlying60, rfl, rfl, rfl, rfl, rfl, rfl⟩
theorem undRul : ∃ f0 f1 : Field, Tryz.prog.underlying 34 = some (.struct #[f0, f1]) ∧ f0.type = 31 ∧ f0.offset = 0 ∧ f1.type = 32 ∧ f1.offset = 2 :=
  ⟨_, _, Tryz.underlying34, rfl, rfl, rfl, rfl⟩
section
variable {H : Type} {enc : TypeId × Value → H} {W : World} {base : Nat} {spare : Nat → Bool} {held : Bool}
def Opens (enc : TypeId × Value → H) (W : World) (base : Nat) (spare : Nat → Bool) (held : Bool) (α : Type) [GoT α] (t : TypeId) (Ok : α → Prop) : Prop :=
  ∀ (fuel : Nat) (cs : List Value) (x : DataW H × List MemPlace), DataW.trod enc Tryz.prog W base spare held fuel t cs = some x →
    cs.length = GoT.size α ∧ ∃ o : α, GoT.rd W (fun _ => True) (fun j => cs.getD j undef) o ∧ Ok o
theorem opens_slice {α : Type} [GoT α] [Inhabited α] {t e : TypeId} {Ok : α → Prop} (hu : Tryz.prog.underlying t = some (.slice e)) (hz : Tryz.prog.cellsOf e = GoT.size α) (h : Opens enc W base spare held α e Ok)
    {fuel : Nat} {cs : List Value} {x : DataW H × List MemPlace} (hx : DataW.trod enc Tryz.prog W base spare held fuel t cs = some x) :
    ∃ A n c, ∃ l : List α, cs = [.slice A n c] ∧ Sl W (fun _ => True) A n c l ∧ ∀ o ∈ l, Ok o := by
  rcases open_slice hu hx with ⟨rfl, _⟩ | ⟨a, len, cap, m, n', D, Pl, rfl, _, hl, hm, hmm, _, hx⟩
  · exact ⟨none, 0, 0, [], rfl, Sl.nil _ _ _ _ (by decide), fun o ho => by cases ho⟩
  · have hlm : len ≤ m := by rw [hmm]; split <;> omega
    rw [hz] at hx
    obtain ⟨g, hg⟩ := choose_lt (α := List Value × α) (n := len) (p := fun i o => (∀ j, j < GoT.size α → W.cell? ((a.add (i * GoT.size α)).add j) = o.1[j]?) ∧ o.1.length = GoT.size α ∧ GoT.rd W (fun _ => True) (fun j => o.1.getD j undef) o.2 ∧ Ok o.2) (fun i hi => by
      obtain ⟨cs', h1, h2⟩ := hx i (by omega)
      obtain ⟨hlen, o, h3, h4⟩ := h _ _ _ h2
      obtain ⟨-, -, hcell⟩ := World.cells?_some h1
      exact ⟨(cs', o), hcell, hlen, h3, h4⟩)
    refine ⟨some a, len, cap, (List.range len).map fun i => (g i).2, rfl, ⟨by simp, hl, by simpa [maxLen] using hm, fun i hi => ?_⟩, fun o ho => ?_⟩
    · have hi' : i < len := by simpa using hi
      obtain ⟨h1, h2, h3, h4⟩ := hg i hi'
      refine ⟨a, rfl, trivial, fun j => (g i).1.getD j undef, fun j hj => ?_, ?_⟩
      · have := h1 j hj
        rw [add_of_add] at this
        show _ = some ((g i).1.getD j undef)
        rw [this, List.getD_eq_getElem?_getD, List.getElem?_eq_getElem (by omega)]
        rfl
      · simp only [List.getElem_map, List.getElem_range]
        exact h3
    · obtain ⟨i, hi, rfl⟩ := List.mem_map.1 ho
      exact (hg i (List.mem_range.1 hi)).2.2.2
theorem opens_arg : Opens enc W base spare held Arg 46 OkA := by
  intro fuel cs x h
  obtain ⟨f0, f1, f2, hu, t0, o0, t1, o1, t2, o2⟩ := undArg
  obtain ⟨y0, y1, y2, n, -, hl, h0, h1, h2⟩ := trod_struct3 hu h
  rw [t0, o0, cellsOfInt] at h0
  rw [t1, o1, cellsOfStr] at h1
  rw [t2, o2, cellsOfInt] at h2
  rw [cellsOfArg] at hl
  obtain ⟨a, b, c, rfl⟩ : ∃ a b c, cs = [a, b, c] := by
    match cs, hl with
    | [a, b, c], _ => exact ⟨a, b, c, rfl⟩
  obtain ⟨k, e0, -, -⟩ := DataW.trod_int Tryz.underlying3 h0
  obtain ⟨s, e1, -, hs⟩ := DataW.trod_string Tryz.underlying9 h1
  obtain ⟨m, e2, -, hw⟩ := DataW.trod_int Tryz.underlying3 h2
  simp at e0 e1 e2
  subst e0 e1 e2
  have hb : -9223372036854775808 ≤ m ∧ m ≤ 9223372036854775807 := by simpa [Lit.wf, IntKind.min, IntKind.max, IntKind.signed, IntKind.bits] using hw
  exact ⟨rfl, ⟨k, s.data.toList, m⟩, ⟨rfl, rfl, rfl⟩, by simpa [maxLen] using hs, hb.1, hb.2⟩
set_option maxRecDepth 100000 in
theorem opens_atm : Opens enc W base spare held Atm 31 OkT := by
  intro fuel cs x h
  obtain ⟨f0, f1, hu, t0, o0, t1, o1⟩ := undAtm
  obtain ⟨xs, n, -, -, hl, hlen, hf⟩ := DataW.trod_struct hu h
  have h0 := hf 0 f0 rfl
  have h1 := hf 1 f1 rfl
  rw [t0, o0, cellsOfStr] at h0
  rw [t1, o1, cellsOfArgs] at h1
  rw [cellsOfAtm] at hl
  obtain ⟨a, b, rfl⟩ : ∃ a b, cs = [a, b] := by
    match cs, hl with
    | [a, b], _ => exact ⟨a, b, rfl⟩
  obtain ⟨y0, y1, rfl⟩ : ∃ a b, xs = [a, b] := by
    match xs, hlen with
    | [a, b], _ => exact ⟨a, b, rfl⟩
  simp only [List.getElem?_cons_zero, List.getElem?_cons_succ] at h0 h1
  obtain ⟨s, e1, -, hs⟩ := DataW.trod_string Tryz.underlying9 h0
  obtain ⟨A, n, c, l, e2, hsl, hk⟩ := opens_slice Tryz.underlying29 cellsOfArg opens_arg h1
  simp at e1 e2
  subst e1 e2
  exact ⟨rfl, ⟨s.data.toList, l⟩, ⟨rfl, A, n, c, rfl, hsl⟩, by simpa [maxLen] using hs, hk⟩
theorem opens_ltl : Opens enc W base spare held Ltl 60 OkL := by
  intro fuel cs x h
  obtain ⟨f0, f1, f2, hu, t0, o0, t1, o1, t2, o2⟩ := undLtl
  obtain ⟨y0, y1, y2, n, -, hl, h0, h1, h2⟩ := trod_struct3 hu h
  rw [t0, o0, cellsOfBool] at h0
  rw [t1, o1, cellsOfStr] at h1
  rw [t2, o2, cellsOfAtm] at h2
  rw [cellsOfLtl] at hl
  obtain ⟨a, b, c, d, rfl⟩ : ∃ a b c d, cs = [a, b, c, d] := by
    match cs, hl with
    | [a, b, c, d], _ => exact ⟨a, b, c, d, rfl⟩
  obtain ⟨k, e0, -⟩ := DataW.trod_bool Tryz.underlying4 h0
  obtain ⟨s, e1, -, hs⟩ := DataW.trod_string Tryz.underlying9 h1
  obtain ⟨-, o, hrd, hok⟩ := opens_atm _ _ _ h2
  simp at e0 e1
  subst e0 e1
  obtain ⟨q0, A, n, c', q1, hsl⟩ := hrd
  have q0 : c = .string ⟨o.name.toArray⟩ := q0
  have q1 : d = .slice A n c' := q1
  subst q0 q1
  exact ⟨rfl, ⟨k, s.data.toList, o⟩, ⟨rfl, rfl, rfl, A, n, c', rfl, hsl⟩, by simpa [maxLen] using hs, hok⟩
set_option maxRecDepth 100000 in
theorem opens_rul : Opens enc W base spare held Rul 34 OkR := by
  intro fuel cs x h
  obtain ⟨f0, f1, hu, t0, o0, t1, o1⟩ := undRul
  obtain ⟨xs, n, -, -, hl, hlen, hf⟩ := DataW.trod_struct hu h
  have h0 := hf 0 f0 rfl
  have h1 := hf 1 f1 rfl
  rw [t0, o0, cellsOfAtm] at h0
  rw [t1, o1, cellsOfLtls] at h1
  rw [cellsOfRul] at hl
  obtain ⟨a, b, c, rfl⟩ : ∃ a b c, cs = [a, b, c] := by
    match cs, hl with
    | [a, b, c], _ => exact ⟨a, b, c, rfl⟩
  obtain ⟨y0, y1, rfl⟩ : ∃ a b, xs = [a, b] := by
    match xs, hlen with
    | [a, b], _ => exact ⟨a, b, rfl⟩
  simp only [List.getElem?_cons_zero, List.getElem?_cons_succ] at h0 h1
  obtain ⟨-, o, hrd, hok⟩ := opens_atm _ _ _ h0
  obtain ⟨A2, n2, c2, l, e2, hsl2, hk⟩ := opens_slice Tryz.underlying32 cellsOfLtl opens_ltl h1
  simp at e2
  subst e2
  obtain ⟨q0, A, n, c', q1, hsl⟩ := hrd
  have q0 : a = .string ⟨o.name.toArray⟩ := q0
  have q1 : b = .slice A n c' := q1
  subst q0 q1
  exact ⟨rfl, ⟨o, l⟩, ⟨rfl, ⟨A, n, c', rfl, hsl⟩, A2, n2, c2, rfl, hsl2⟩, hok, hk⟩
theorem openRules {A : Option Addr} {n c : Nat} {d : DataW H} {p : List MemPlace} (h : DataW.Trod enc Tryz.prog W base spare held 22 (.slice A n c) d p) : ∃ l : List Rul, Sl W (fun _ => True) A n c l ∧ ∀ r ∈ l, OkR r := by
  obtain ⟨fuel, hf⟩ := h
  obtain ⟨A', n', c', l, e, hs, hk⟩ := opens_slice Tryz.underlying22 cellsOfRul opens_rul hf
  simp [Value.cells] at e
  obtain ⟨rfl, rfl, rfl⟩ := e
  exact ⟨l, hs, hk⟩
end
end Go.Proofs.YtkjoaodoioicpaaGreatDoor
namespace Go.Proofs.YtkjoaodoioicpaaGreatDoor
open Go.RowKit Go.ChangeShapes
theorem tab_of_reads {W : World} {name : String} {k : IntKind} {zs : List Int} {g t e : Nat} {n : Nat} (hg : Tryz.prog.globalNamed name = some g) (hty : (Tryz.prog.globals[g]?).map (·.type) = some t) (ht : Tryz.prog.underlying t = some (.array n e)) (he : Tryz.prog.underlying e = some (.int k))
    (hce : Tryz.prog.cellsOf e = 1) (hct : Tryz.prog.cellsOf t = n) (h : Lib.VarReads Tryz.prog W name (Lib.tabData k zs)) : Lib.TabIs Tryz.prog W name k zs := by
  obtain ⟨g', t', cs, fuel, p, hg', ht', hvar, hd⟩ := h
  obtain rfl := Option.some.inj (hg.symm.trans hg')
  obtain rfl := Option.some.inj (hty.symm.trans ht')
  unfold Lib.TabIs
  rw [hvar, ← Lib.cells_of_tab ht he hce hct hd]
def laidL : List (String × DataW Unit) := Rows.queryGrowsRow.laid
set_option maxRecDepth 100000 in
theorem ld_of {W : World} (hL : laidMetH Tryz.prog laidL W) (hs : W.ShapedOpen Tryz.prog) : LD W := by
  rw [MakeChecks.laidMetH_plain _ _ _ (by kernel_rfl)] at hL
  have r := fun n d hm => Lib.laidMet.reads (n := n) (d := d) hL hm
  refine ⟨tab_of_reads (g := 3) (t := 244) (by kernel_rfl) (by kernel_rfl) Tryz.underlying244 Tryz.underlying170 (by kernel_rfl) (by kernel_rfl) ?_,
    tab_of_reads (g := 0) (t := 215) (by kernel_rfl) (by kernel_rfl) Tryz.underlying215 Tryz.underlying5 (by kernel_rfl) (by kernel_rfl) ?_,
    Go.Proofs.cell_of_shapedOpen_int (zero := #[.int .i64 0]) (t := 3) hs (of_decide_eq_true (by kernel_rfl)) (by kernel_rfl) rfl (by kernel_rfl) (by kernel_rfl) Tryz.underlying3⟩
  · have e : Lib.tabData .u64 Lib.pow10Tab = (Rows.laid_internal_strconv_uint64pow10 : DataW Unit) := by kernel_rfl
    rw [e]
    exact r _ _ (.tail _ (.tail _ (.head _)))
  · have e : Lib.tabData .u8 Lib.asciiSpaceTab = (Rows.laid_strings_asciiSpace : DataW Unit) := by kernel_rfl
    rw [e]
    first | exact r _ _ (.tail _ (.tail _ (.tail _ (.head _)))) | exact r _ _ (.tail _ (.tail _ (.tail _ (.tail _ (.head _)))))
end Go.Proofs.YtkjoaodoioicpaaGreatDoor
namespace Go.Proofs.YtkjoaodoioicpaaGreatDoor
open Go.RowKit Go.ChangeShapes
section
variable {H : Type} {enc : TypeId × Value → H}
theorem handed {a : Assume} {C : Checked} {os : Os} {f : FuncId} {fn : Func} {s : ChangeSpec} {conds : List PathCond} {apart fresh handsOn again : Bool} {X : World → Array Value → Prop}
    (hX : ∀ (w w' : World) (args : Array Value), w.heap = w'.heap → X w args → X w' args)
    (own : ownKnob C.prog.godebug = none) (started : os.Started) (noInit : C.prog.inits.idxOf? f = none) (hfn : C.prog.funcs[f]? = some fn)
    (witness : ∃ (w : World) (tape : Tape) (i : Input), w.os = os ∧ (w.forCall tape i).Shaped C.prog ∧ i.vars = [] ∧ Input.okWide C.prog (w.forCall tape i) .any w.heap.size f i ∧
      ((s.pre enc C.prog fn conds apart (w.forCall tape i).memory i.args ∧ X (w.forCall tape i).memory i.args) ∧ sizedMet enc C.prog fn (OpenSpec.ofChange s) apart (w.forCall tape i).memory i.args) ∧ a.holds C.prog (lone (Frame.enter C.prog f i.args .normal) [] (w.forCall tape i)))
    (contract : ∀ (W : World) (base : Nat) (args : Array Value) (ds gs : List (DataW H)) (before : List MemPlace),
      (∀ (j : Nat) t v, fn.params[j]? = some t → args[j]? = some v → Value.okWide C.prog W .any base t v) →
      DataW.Whole enc C.prog fn.params.toList s.vars apart W args.toList ds gs before →
      X W args → W.ShapedOpen C.prog →
      Calls C.prog f args W fun e W' => ∃ v, e = .returned v ∧ s.post enc C.prog fn apart fresh handsOn again W args v W') :
    ReturnsInHanded a C os f .any (fun w args => (s.pre enc C.prog fn conds apart w args ∧ X w args) ∧ sizedMet enc C.prog fn (OpenSpec.ofChange s) apart w args) (s.post enc C.prog fn apart fresh handsOn again) := by
  refine returnsInHanded_of_calls own started noInit witness ?_
  intro w tape i _ hsh _ hok hpre hholds
  obtain ⟨_, _, _, fn', hfn', _, _, _, _, hval⟩ := hok
  have e : fn' = fn := Option.some.inj (hfn'.symm.trans hfn)
  subst e
  obtain ⟨⟨⟨ds, gs, before, hw, hc⟩, hx⟩, hz⟩ := hpre
  have hw' := DataW.Whole.of_heap (w' := w.forCall tape i) (by rfl) hw
  refine (contract (w.forCall tape i) w.heap.size i.args ds gs before hval hw' (hX _ _ _ (by rfl) hx) hsh).mono fun e W' ⟨v, he, hp⟩ => ?_
  subst he
  exact ChangeSpec.post_blind hp
end
end Go.Proofs.YtkjoaodoioicpaaGreatDoor
namespace Go.Proofs.YtkjoaodoioicpaaGreatDoor
open Go.RowKit Go.Deep Go.ChangeShapes
section
variable {H : Type} {enc : TypeId × Value → H} {W : World} {base : Nat} {spare : Nat → Bool} {held : Bool}
theorem openAtoms {A : Option Addr} {n c : Nat} {d : DataW H} {p : List MemPlace} (h : DataW.Trod enc Tryz.prog W base spare held 23 (.slice A n c) d p) : ∃ l : List Atm, Sl W (fun _ => True) A n c l ∧ ∀ r ∈ l, OkT r := by
  obtain ⟨fuel, hf⟩ := h
  obtain ⟨A', n', c', l, e, hs, hk⟩ := opens_slice Tryz.underlying23 cellsOfAtm opens_atm hf
  simp [Value.cells] at e
  obtain ⟨rfl, rfl, rfl⟩ := e
  exact ⟨l, hs, hk⟩
end
end Go.Proofs.YtkjoaodoioicpaaGreatDoor
namespace Go.Proofs.YtkjoaodoioicpaaGreatDoor
theorem flatK_len {α β : Type} (g : α → List β) (K : Nat) : ∀ l : List α, (∀ a ∈ l, (g a).length ≤ K) → (l.flatMap g).length ≤ l.length * K
  | [], _ => by simp
  | a :: r, h => by
    rw [List.flatMap_cons, List.length_append, List.length_cons, Nat.succ_mul]
    have h1 := h a List.mem_cons_self
    have h2 := flatK_len g K r (fun x hx => h x (List.mem_cons_of_mem _ hx))
    omega
theorem binds_len (known : List Atm) : ∀ (body : List Ltl) (v : Bnd), (bindsS known body v).length ≤ (known.length + 1) ^ body.length
  | [], v => by simp [bindsS]
  | l :: r, v => by
    unfold bindsS
    have hp : (known.length + 1) ^ (l :: r).length = known.length * (known.length + 1) ^ r.length + (known.length + 1) ^ r.length := by
      rw [List.length_cons, Nat.pow_succ, Nat.mul_comm, Nat.succ_mul]
    rw [hp]
    split
    · have := binds_len known r v
      omega
    · refine Nat.le_trans (flatK_len _ ((known.length + 1) ^ r.length) _ ?_) ?_
      · intro f _
        split
        · exact binds_len known r _
        · simp
      · refine Nat.le_trans (Nat.mul_le_mul_right _ (show (candS known l.atom).length ≤ known.length from List.length_filter_le _ _)) (Nat.le_add_right _ _)
theorem each_len (body : List Ltl) (known all : List Atm) : (eachQ body known all).length ≤ (known.length + 1) ^ body.length :=
  Nat.le_trans (List.length_filter_le _ _) (binds_len _ _ _)
def vZ : Arg := ⟨1, [90], 0⟩
def sReach : Bs := [114, 101, 97, 99, 104]
def sEdge : Bs := [101, 100, 103, 101]
def ruA : List Rul := [⟨⟨sReach, [vX, vY]⟩, [⟨false, [], ⟨sEdge, [vX, vY]⟩⟩]⟩, ⟨⟨sReach, [vX, vZ]⟩, [⟨false, [], ⟨sReach, [vX, vY]⟩⟩, ⟨false, [], ⟨sEdge, [vY, vZ]⟩⟩]⟩]
def nA (z : Int) : Arg := ⟨3, [], z⟩
def faA : List Atm := [⟨sEdge, [nA 2, nA 3]⟩, ⟨sEdge, [nA 1, nA 2]⟩]
def moA : List Atm := [⟨sEdge, [nA 1, nA 2]⟩, ⟨sEdge, [nA 2, nA 3]⟩, ⟨sReach, [nA 1, nA 2]⟩, ⟨sReach, [nA 1, nA 3]⟩, ⟨sReach, [nA 2, nA 3]⟩]
def quA : List Ltl := [⟨false, [], ⟨sReach, [nA 1, vX]⟩⟩, ⟨false, [33, 61], ⟨[], [vX, nA 2]⟩⟩]
def txA : Bs := [114, 101, 97, 99, 104, 40, 88, 44, 32, 89, 41, 32, 58, 45, 32, 101, 100, 103, 101, 40, 88, 44, 32, 89, 41, 46, 10, 114, 101, 97, 99, 104, 40, 88, 44, 32, 90, 41, 32, 58, 45, 32, 114, 101, 97, 99, 104, 40, 88, 44, 32, 89, 41, 44, 32, 101, 100, 103, 101, 40, 89, 44, 32, 90, 41, 46]
theorem aw_parse : rparseS txA = (ruA, 0, 0) := by decide +kernel
theorem aw_eval : evalS ruA faA = (moA, -1, 0) := by decide +kernel
theorem aw_model : (modelS ruA faA).1.length = 5 := by decide +kernel
theorem aw_ranks : ranksS ruA faA = some ([0, 0, 1, 2, 1], -1, 0) := by decide +kernel
theorem aw_ask : askS moA quA = ([[nA 3]], 0) := by decide +kernel
theorem aw_hB : ∀ known : List Atm, known.length < (modelS ruA faA).1.length → ∀ r ∈ ruA, (eachQ r.body known (modelS ruA faA).1).length ≤ 1000 := by
  rw [aw_model]
  intro known hk r hr
  refine Nat.le_trans (each_len _ _ _) ?_
  have hb : r.body.length ≤ 2 := by
    simp only [ruA, List.mem_cons, List.not_mem_nil, or_false] at hr
    rcases hr with rfl | rfl <;> simp
  have h1 : (known.length + 1) ^ r.body.length ≤ 5 ^ r.body.length := Nat.pow_le_pow_left (by omega) _
  have h2 : 5 ^ r.body.length ≤ 5 ^ 2 := Nat.pow_le_pow_right (by decide) hb
  omega
theorem aw_askr : ruleS ⟨⟨sAsk, (varsS ⟨⟨sAsk, []⟩, quA⟩).map fun s => ⟨1, s, 0⟩⟩, quA⟩ = true ∧ safeS ⟨⟨sAsk, (varsS ⟨⟨sAsk, []⟩, quA⟩).map fun s => ⟨1, s, 0⟩⟩, quA⟩ = true := by decide +kernel
end Go.Proofs.YtkjoaodoioicpaaGreatDoor
