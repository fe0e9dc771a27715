/- Query (package licitlaw54): a part of the proofs of its laws; see the law's own text, which comes last in 'order'. No conditions of its own. -/
import Derived.OrdersHeld
import Derived.StillTail
import Derived.Deep.RegionHeld
import Derived.Test.YtkjoaodoioicpaaGreatDoorWA01
import Derived.Test.YtkjoaodoioicpaaGreatDoorWA33
set_option linter.unusedVariables false
set_option linter.unusedSimpArgs false
namespace Go.Proofs.YtkjoaodoioicpaaGreatDoor
open Go.RowKit
section
variable {w : World} {S : Nat → Prop} {A : Option Addr} {n c k : Nat}
theorem Sl.num {xs : List Int} (h : Sl w S A n c xs) (hk : k < xs.length) : ∃ b o, A = some ⟨b, o, none⟩ ∧ S b ∧ b < w.heap.size ∧ w.cell? ⟨b, o + k, none⟩ = some (.int .i64 xs[k]) := by
  obtain ⟨b, o, hA, hS, hb, g, hc, h0⟩ := h.plain (by decide) hk
  have c0 := hc 0 (by decide)
  rw [h0] at c0
  refine ⟨b, o, hA, hS, hb, ?_⟩
  rw [← c0]
  show w.cell? ⟨b, o + k, none⟩ = w.cell? ⟨b, o + k * 1 + 0, none⟩
  rw [Nat.mul_one, Nat.add_zero]
end
set_option maxRecDepth 100000 in
set_option maxHeartbeats 4000000 in
theorem equalI_any (A : Option Addr) (n c : Nat) (xs : List Int) (B : Option Addr) (m d : Nat) (ys : List Int) (w : World) (S T : Nat → Prop) (hl : Sl w S A n c xs) (hr : Sl w T B m d ys) :
    Calls Tryz.prog 21 #[.slice A n c, .slice B m d] w fun e w' => e = .returned (.bool (decide (xs = ys))) ∧ Below w.heap.size w w' := by
  obtain ⟨v, hv⟩ : ∃ v, v = decide (xs = ys) := ⟨_, rfl⟩
  rw [← hv]
  have hn := hl.len; have hm := hr.len
  subst hn hm
  have hle := hl.le; have hle2 := hr.le
  by_cases hlen : xs.length = ys.length
  · have HV : Hid (v = decide (xs.drop 0 = ys.drop 0)) := hv
    have HL := Lib.hid hl; have HR := Lib.hid hr; have HLEN := Lib.hid hlen
    have hlb : ((xs.length : Int) != (ys.length : Int)) = false := by simp [hlen]
    clear hv hl hr
    go_enter Tryz.func21, Tryz.ntmps21
    clear hlen
    go_wp2_with fail
    clear hlb
    go_loopw [13] (fun i wr => ∃ k : Nat, k ≤ xs.length ∧ i = .int .i64 k ∧ Below w.heap.size w wr ∧ Hid (v = decide (xs.drop k = ys.drop k))) (fun i _ => xs.length - (intOf i).toNat)
    case atStart => exact ⟨0, by omega, rfl, Below.refl _ _, HV⟩
    case round =>
      obtain ⟨k, hk, rfl, hb, hf⟩ := hrel
      by_cases hlt : k < xs.length
      · obtain ⟨b1, o1, rfl, -, hbs1, h1⟩ := (HL.out.below hb).num hlt
        obtain ⟨b2, o2, rfl, -, hbs2, g1⟩ := (HR.out.below hb).num (k := k) (by have := HLEN.out; omega)
        have hd := hf.out
        rw [drop_get hlt, drop_get (l := ys) (k := k) (by have := HLEN.out; omega)] at hd
        generalize xs[k] = p at *
        generalize ys[k]'_ = q at *
        have HD := Lib.hid hd
        have HX := Lib.hid (fun (x : World) (hx : Below wr.heap.size wr x) => And.intro (cell_later hx h1) (cell_later hx g1))
        have HBW := Lib.hid hb
        have q0 : (0 : Int) ≤ (k : Int) := by omega
        have q1 : (k : Int) < (xs.length : Int) := by omega
        have q2 : (k : Int) < (ys.length : Int) := by have := HLEN.out; omega
        clear hd hf
        go_wp2_with fail
        refine wpH_region (fun x => Below wr.heap.size wr x) (by kernel_rfl) ?_
        have hS : Below wr.heap.size wr wr.drew := (Below.refl _ _).drew
        clear h1 g1 hb
        (refine tkW 0 (v := ?_) hS ?_ ?_; rotate_left; (focus (intro x hx; have fx := HX.out x hx; go_simp; (try with_reducible rfl); done)); (try simp only [Act.put, lsa, lsz, lss]))
        (refine tkW 1 (v := ?_) hS ?_ ?_; rotate_left; (focus (intro x hx; have fx := HX.out x hx; go_simp; (try with_reducible rfl); done)); (try simp only [Act.put, lsa, lsz, lss]))
        (refine tkW 2 (v := ?_) hS ?_ ?_; rotate_left; (focus (intro x hx; have fx := HX.out x hx; go_simp; (try with_reducible rfl); done)); (try simp only [Act.put, lsa, lsz, lss]))
        (refine tkW 3 (v := ?_) hS ?_ ?_; rotate_left; (focus (intro x hx; have fx := HX.out x hx; go_simp; (try with_reducible rfl); done)); (try simp only [Act.put, lsa, lsz, lss]))
        (refine tkW 4 (v := ?_) hS ?_ ?_; rotate_left; (focus (intro x hx; have fx := HX.out x hx; go_simp; (try with_reducible rfl); done)); (try simp only [Act.put, lsa, lsz, lss]))
        (refine tkW 5 (v := ?_) hS ?_ ?_; rotate_left; (focus (intro x hx; have fx := HX.out x hx; go_simp; (try with_reducible rfl); done)); (try simp only [Act.put, lsa, lsz, lss]))
        (refine tkW 6 (v := ?_) hS ?_ ?_; rotate_left; (focus (intro x hx; have fx := HX.out x hx; go_simp; (try with_reducible rfl); done)); (try simp only [Act.put, lsa, lsz, lss]))
        (refine tkW 7 (v := ?_) hS ?_ ?_; rotate_left; (focus (intro x hx; have fx := HX.out x hx; go_simp; (try with_reducible rfl); done)); (try simp only [Act.put, lsa, lsz, lss]))
        by_cases hpq : p = q
        · subst hpq
          (refine tkW 8 (v := ?_) hS ?_ ?_; rotate_left; (focus (intro x hx; have fx := HX.out x hx; go_simp; (try with_reducible rfl); done)); (try simp only [Act.put, lsa, lsz, lss]))
          refine wpAnyH_done (by kernel_rfl) ?_ _
          go_wp2_with fail
          go_roundw
          case rel =>
            refine ⟨k + 1, by omega, by go_num, HBW.out.trans (hS.mono HBW.out.size), Lib.hid ?_⟩
            rw [HD.out, Bool.eq_iff_iff]
            simp
          case measure => simp [intOf]; omega
        · refine wpAnyH_takeW 8 rfl rfl (by kernel_rfl) (by kernel_rfl) (by kernel_rfl) (fun _ _ _ h => h) (v := .bool true) (by kernel_rfl) hS (fun x hx => by have fx := HX.out x hx; go_simp; (try exact hpq); (try exact fun a => hpq a)) ?_
          simp only [Act.put, lsa, lsz, lss]
          refine wpAnyH_done (by kernel_rfl) ?_ _
          have hd : v = false := by
            rw [HD.out, decide_eq_false_iff_not]
            intro e
            injection e with e
            exact hpq e
          have HF := Lib.hid hd; clear hd hpq
          go_wp2_with fail
          go_ret
          exact ⟨ret_bool HF.out, HBW.out.trans (hS.mono HBW.out.size)⟩
      · have hd := hf.out
        rw [drop_end hlt, drop_end (by have := HLEN.out; omega)] at hd
        have HD := Lib.hid (show v = true by rw [hd]; rfl)
        clear hd hf
        go_wp2_with fail
        go_ret
        exact ⟨ret_bool HD.out, hb⟩
  · have HV := Lib.hid (show v = false by rw [hv, decide_eq_false_iff_not]; intro e; exact hlen (by rw [e]))
    have hlb : ((xs.length : Int) != (ys.length : Int)) = true := by rw [bne_iff_ne]; omega
    clear hv hl hr hlen
    go_enter Tryz.func21, Tryz.ntmps21
    go_wp2_with fail
    go_ret
    exact ⟨ret_bool HV.out, Below.refl _ _⟩
set_option maxHeartbeats 1000000 in
theorem cp54_any (A : Option Addr) (n c : Nat) (l : List Rul) (w : World) (S : Nat → Prop) (hl : Sl w S A n c l) (hlen : l.length ≤ 10000000) :
    Calls Tryz.prog 9 #[.slice A n c] w fun e w' => ∃ A' c', e = .returned (.slice A' l.length c') ∧ Own w' (fun k => k < w.heap.size) w.heap.size 34 A' c' l ∧ Below w.heap.size w w' := by
  have hn := hl.len
  subst hn
  have hle := hl.le
  have HL := Lib.hid hl; clear hl
  go_enter Tryz.func9, Tryz.ntmps9
  go_wp2_with (at_builtin; go_loud (refine wpList_appN (e := 34) (T := fun k => k < w.heap.size) (base := w.heap.size) (xs := ([] : List Rul)) rfl (.tmp 3) (.tmp 4) eltRul rfl (by decide) rfl rfl rfl (Own.emp (blkAt _ _ rfl) (Nat.le_refl _)) rfl ((HL.out.wide (fun k hk1 hk => ⟨hk1, fun e => by injection e with e; exact absurd e (by have := hk1; simp only; omega)⟩) (by decide)).alloc _) (by simp; omega) (by simp; omega) (by simp) ?_); intro A' c' w2 hown' hg hat)
  go_ret
  exact ⟨A', c', by simp, by simpa using hown', boxed.grown hg (by simp) (fun k hk => by have hk : some w.heap.size = some k := hk; injection hk with hk; omega)⟩
set_option maxHeartbeats 1000000 in
theorem ca54_any (A : Option Addr) (n c : Nat) (l : List Atm) (w : World) (S : Nat → Prop) (hl : Sl w S A n c l) (hlen : l.length ≤ 10000000) :
    Calls Tryz.prog 10 #[.slice A n c] w fun e w' => ∃ A' c', e = .returned (.slice A' l.length c') ∧ Own w' (fun k => k < w.heap.size) w.heap.size 31 A' c' l ∧ Below w.heap.size w w' := by
  have hn := hl.len
  subst hn
  have hle := hl.le
  have HL := Lib.hid hl; clear hl
  go_enter Tryz.func10, Tryz.ntmps10
  go_wp2_with (at_builtin; go_loud (refine wpList_appN (e := 31) (T := fun k => k < w.heap.size) (base := w.heap.size) (xs := ([] : List Atm)) rfl (.tmp 3) (.tmp 4) eltAtm rfl (by decide) rfl rfl rfl (Own.emp (blkAt _ _ rfl) (Nat.le_refl _)) rfl ((HL.out.wide (fun k hk1 hk => ⟨hk1, fun e => by injection e with e; exact absurd e (by have := hk1; simp only; omega)⟩) (by decide)).alloc _) (by simp; omega) (by simp; omega) (by simp) ?_); intro A' c' w2 hown' hg hat)
  go_ret
  exact ⟨A', c', by simp, by simpa using hown', boxed.grown hg (by simp) (fun k hk => by have hk : some w.heap.size = some k := hk; injection hk with hk; omega)⟩
def numA (z : Int) : Arg := ⟨3, [], z⟩
theorem set2 {w : World} {b : Nat} {a0 a1 : Value} {t : TypeId} (h : w.heap[b]? = some (.cells #[a0, a1] t (0, 0))) (b0 b1 : Value) :
    ((w.setCell ⟨b, 0, none⟩ b0).setCell ⟨b, 1, none⟩ b1).heap[b]? = some (.cells #[b0, b1] t (0, 0)) := by
  have h1 := Blk.set w h 0 b0
  rw [Blk.set _ h1 1 b1]
  simp
set_option maxRecDepth 100000 in
set_option maxHeartbeats 4000000 in
theorem factO_any (s : Bs) (L : List Int) (B : Option Addr) (m d : Nat) (w : World) (S : Nat → Prop) (hl : Sl w S B m d L) (hlen : L.length ≤ 1000) :
    Calls Tryz.prog 15 #[.string ⟨s.toArray⟩, .slice B m d] w fun e w' => ∃ A c, e = .returned (.agg #[.string ⟨s.toArray⟩, .slice A L.length c]) ∧ Own w' (fun _ => False) (w.heap.size + 2) 46 A c (L.map numA) ∧ Below w.heap.size w w' := by
  have hn := hl.len
  subst hn
  have hle := hl.le
  have HL := Lib.hid hl; clear hl
  go_enter Tryz.func15, Tryz.ntmps15
  go_wp2_with fail
  have hB0 := blkOld (blkAt w (.cells #[.string ⟨#[]⟩, .slice none 0 0] 31) rfl) (.cells #[.string ⟨s.toArray⟩, .slice none 0 0] 31)
  have hB1 : ((w.alloc (.cells #[.string ⟨#[]⟩, .slice none 0 0] 31)).alloc (.cells #[.string ⟨s.toArray⟩, .slice none 0 0] 31)).heap[w.heap.size + 1]? = some (.cells #[.string ⟨s.toArray⟩, .slice none 0 0] 31 (0, 0)) := blkAt _ _ (by simp)
  have hBB : Below w.heap.size w ((w.alloc (.cells #[.string ⟨#[]⟩, .slice none 0 0] 31)).alloc (.cells #[.string ⟨s.toArray⟩, .slice none 0 0] 31)) := boxed.alloc (by simp) _
  have hsz : w.heap.size + 2 ≤ ((w.alloc (.cells #[.string ⟨#[]⟩, .slice none 0 0] 31)).alloc (.cells #[.string ⟨s.toArray⟩, .slice none 0 0] 31)).heap.size := by simp
  generalize (w.alloc (.cells #[.string ⟨#[]⟩, .slice none 0 0] 31)).alloc (.cells #[.string ⟨s.toArray⟩, .slice none 0 0] 31) = W at *
  have HBB := Lib.hid (show Below w.heap.size w W ∧ w.heap.size + 2 ≤ W.heap.size ∧ W.heap[w.heap.size]? = some (.cells #[.string ⟨#[]⟩, .slice none 0 0] 31 (0, 0)) ∧ ∃ A c, W.heap[w.heap.size + 1]? = some (.cells #[.string ⟨s.toArray⟩, .slice A ((0 : Nat) : Int).toNat c] 31 (0, 0)) ∧ Own W (fun _ => False) (w.heap.size + 2) 46 A c ((L.take 0).map numA) from ⟨hBB, hsz, hB0, none, 0, hB1, Own.nil _ _ _ _⟩)
  clear hB0 hB1 hBB hsz
  go_loopw [12] (fun i wr => ∃ k : Nat, k ≤ L.length ∧ i = .int .i64 k ∧ Hid (Below w.heap.size w wr ∧ w.heap.size + 2 ≤ wr.heap.size ∧ wr.heap[w.heap.size]? = some (.cells #[.string ⟨#[]⟩, .slice none 0 0] 31 (0, 0)) ∧ ∃ A c, wr.heap[w.heap.size + 1]? = some (.cells #[.string ⟨s.toArray⟩, .slice A k c] 31 (0, 0)) ∧ Own wr (fun _ => False) (w.heap.size + 2) 46 A c ((L.take k).map numA))) (fun i _ => L.length - (intOf i).toNat)
  case atStart => exact ⟨0, by omega, rfl, HBB⟩
  case round =>
    obtain ⟨k, hk, rfl, hqq⟩ := hrel
    obtain ⟨hb, hwsz, hB0, A3, c3, hbox, hown⟩ := hqq.out
    clear hqq HBB
    by_cases hlt : k < L.length
    · obtain ⟨b1, o1, rfl, -, hbs1, g1⟩ := (HL.out.below hb).num hlt
      have htk : (L.take (k + 1)).map numA = (L.take k).map numA ++ [numA L[k]] := by rw [List.take_succ_eq_append_getElem hlt, List.map_append]; rfl
      generalize L[k] = z at *
      have hxl : ((L.take k).map numA).length = k := by rw [List.length_map, List.length_take]; omega
      have e1 := (cell_blk hbox 1).trans rfl
      have hkb : ∀ w5, (wr.alloc (.cells #[.int .i64 3, .string ⟨#[]⟩, .int .i64 z] 46)).grownBy w5 (A3.map Addr.block) → w5.heap[w.heap.size + 1]? = some (.cells #[.string ⟨s.toArray⟩, .slice A3 k c3] 31 (0, 0)) := fun w5 hg5 => grownBlk hg5 (blkOld hbox _) (fun e => by have := (hown.lt _ e).1; omega)
      have hkb0 : ∀ w5, (wr.alloc (.cells #[.int .i64 3, .string ⟨#[]⟩, .int .i64 z] 46)).grownBy w5 (A3.map Addr.block) → w5.heap[w.heap.size]? = some (.cells #[.string ⟨#[]⟩, .slice none 0 0] 31 (0, 0)) := fun w5 hg5 => grownBlk hg5 (blkOld hB0 _) (fun e => by have := (hown.lt _ e).1; omega)
      have HB := Lib.hid hb; have HOWN := Lib.hid hown; have HTK := Lib.hid htk; have HKB := Lib.hid hkb; have HKB0 := Lib.hid hkb0; have HXL := Lib.hid hxl
      clear hb hown htk hkb hkb0 hbox hB0 hxl
      go_wp2_with (at_builtin; go_loud (refine wpList_app1 rfl _ _ eltArg rfl (by decide) rfl rfl HXL.out.symm (HOWN.out.alloc _) rfl [.int .i64 3, .string ⟨#[]⟩, .int .i64 z] (numA z) (blkAt _ _ rfl) rfl ⟨rfl, rfl, rfl⟩ (by rw [HXL.out]; omega) (by rw [HXL.out]; omega) (Nat.le_trans hwsz (Nat.le_of_lt (lt_alloc _ _))) ?_); intro A5 c5 w5 hown5 hg5 hat5; have k5 := (cell_blk (HKB.out w5 hg5) 1).trans rfl; have z5 := frz_blk (HKB.out w5 hg5) 1; have HX5 := Lib.hid (HKB.out w5 hg5); have HX50 := Lib.hid (HKB0.out w5 hg5); have HO5 := Lib.hid hown5; have HG5 := Lib.hid hg5; clear hown5 hg5 hat5)
      have hsA : (wr.alloc (.cells #[.int .i64 3, .string ⟨#[]⟩, .int .i64 z] 46)).heap.size = wr.heap.size + 1 := by simp
      have hg5s := HG5.out.size
      have hx6 : (w5.setCell ⟨w.heap.size + 1, 1, none⟩ (.slice A5 (k + 1) c5)).heap[w.heap.size + 1]? = some (.cells #[.string ⟨s.toArray⟩, .slice A5 (k + 1) c5] 31 (0, 0)) := by rw [Blk.set w5 HX5.out 1]; simp
      have hx60 : (w5.setCell ⟨w.heap.size + 1, 1, none⟩ (.slice A5 (k + 1) c5)).heap[w.heap.size]? = some (.cells #[.string ⟨#[]⟩, .slice none 0 0] 31 (0, 0)) := by rw [set_other _ _ _ _ _ (by omega)]; exact HX50.out
      have hb6 : Below w.heap.size w (w5.setCell ⟨w.heap.size + 1, 1, none⟩ (.slice A5 (k + 1) c5)) := ((HB.out.alloc HB.out.size _).grown HG5.out (by have := HB.out.size; omega) (fun k hk => by have := (HOWN.out.lt k hk).1; omega)).setCell (p := ⟨w.heap.size + 1, 1, none⟩) (Nat.le_succ _) _
      have ho6 : Own (w5.setCell ⟨w.heap.size + 1, 1, none⟩ (.slice A5 (k + 1) c5)) (fun _ => False) (w.heap.size + 2) 46 A5 c5 ((L.take (k + 1)).map numA) := by
        rw [HTK.out]
        exact HO5.out.keep fun k _ hT => set_other _ _ _ _ _ (by rcases hT with hT | hT; exact hT.elim; have := (HO5.out.lt k hT).1; omega)
      have hz6 : (w5.setCell ⟨w.heap.size + 1, 1, none⟩ (.slice A5 (k + 1) c5)).heap.size = w5.heap.size := by simp [World.setCell]
      have HQ := Lib.hid (show Below w.heap.size w (w5.setCell ⟨w.heap.size + 1, 1, none⟩ (.slice A5 (k + 1) c5)) ∧ w.heap.size + 2 ≤ (w5.setCell ⟨w.heap.size + 1, 1, none⟩ (.slice A5 (k + 1) c5)).heap.size ∧ (w5.setCell ⟨w.heap.size + 1, 1, none⟩ (.slice A5 (k + 1) c5)).heap[w.heap.size]? = some (.cells #[.string ⟨#[]⟩, .slice none 0 0] 31 (0, 0)) ∧ ∃ A c, (w5.setCell ⟨w.heap.size + 1, 1, none⟩ (.slice A5 (k + 1) c5)).heap[w.heap.size + 1]? = some (.cells #[.string ⟨s.toArray⟩, .slice A (k + 1) c] 31 (0, 0)) ∧ Own (w5.setCell ⟨w.heap.size + 1, 1, none⟩ (.slice A5 (k + 1) c5)) (fun _ => False) (w.heap.size + 2) 46 A c ((L.take (k + 1)).map numA) from ⟨hb6, by omega, hx60, A5, c5, hx6, ho6⟩)
      clear hx6 hx60 hb6 ho6 hz6 k5 z5 hsA hg5s
      go_wp2_with fail
      go_roundw
      case rel => exact ⟨k + 1, by omega, by go_num, HQ⟩
      case measure => simp [intOf]; omega
    · have hke : k = L.length := by omega
      subst hke
      rw [List.take_length] at hown
      have e0 := (cell_blk hbox 0).trans rfl; have e1 := (cell_blk hbox 1).trans rfl
      have f0 := (cell_blk hB0 0).trans rfl; have f1 := (cell_blk hB0 1).trans rfl
      have z0 := frz_blk hB0 0; have z1 := frz_blk hB0 1
      have HB := Lib.hid hb; have HOWN := Lib.hid hown; have HX0 := Lib.hid hB0
      clear hb hown hbox hB0
      go_wp2_with fail
      have hRF := set2 HX0.out (.string ⟨s.toArray⟩) (.slice A3 L.length c3)
      have q0 := (cell_blk hRF 0).trans rfl; have q1 := (cell_blk hRF 1).trans rfl
      refine bodyPost_ret (v := .agg #[.string ⟨s.toArray⟩, .slice A3 L.length c3]) (by simp [results, Tryz.results15, go_sem, q0, q1]) rfl ?_
      have h9 := (HOWN.out.keep (w' := (wr.setCell ⟨w.heap.size, 0, none⟩ (.string ⟨s.toArray⟩)).setCell ⟨w.heap.size, 1, none⟩ (.slice A3 L.length c3)) fun k _ hT => by
        have hne : k ≠ w.heap.size := by rcases hT with hT | hT; exact hT.elim; have := (HOWN.out.lt k hT).1; omega
        rw [set_other _ _ _ _ _ hne, set_other _ _ _ _ _ hne])
      exact ⟨A3, c3, rfl, h9, (HB.out.setCell (p := ⟨w.heap.size, 0, none⟩) (Nat.le_refl _) _).setCell (p := ⟨w.heap.size, 1, none⟩) (Nat.le_refl _) _⟩
theorem fact_any (s : Bs) (L : List Int) (B : Option Addr) (m d : Nat) (w : World) (S : Nat → Prop) (hl : Sl w S B m d L) (hlen : L.length ≤ 1000) :
    Calls Tryz.prog 15 #[.string ⟨s.toArray⟩, .slice B m d] w fun e w' => ∃ A c, e = .returned (.agg #[.string ⟨s.toArray⟩, .slice A L.length c]) ∧ Sl w' (fun k => w.heap.size ≤ k) A L.length c (L.map numA) ∧ Below w.heap.size w w' := by
  refine (factO_any s L B m d w S hl hlen).mono ?_
  rintro e w' ⟨A, c, rfl, h9, hb⟩
  exact ⟨A, c, rfl, ((h9.sl (by decide)).wide (fun k _ hk => hk.elim (fun h => h.elim) fun h => by have := (h9.lt k h).1; omega) (by decide)).cast (by rw [List.length_map]), hb⟩
end Go.Proofs.YtkjoaodoioicpaaGreatDoor
namespace Go.Proofs.YtkjoaodoioicpaaGreatDoor
open Go.RowKit
section
variable {P : Program} {ops : Array Oper} {Q : Exit → Act → World → Prop} {md : Region.Mode} {S : World → Prop} {N : List Nat}
def wpAnyV (P : Program) (md : Region.Mode) (ops : Array Oper) (Q : Exit → Act → World → Prop) (S : World → Prop) (N : List Nat) : Nat → Array Bool → Act → World → Prop
  | 0, listed, a, w => Region.ready md ops listed = [] ∧ Q .normal a w
  | fuel + 1, listed, a, w =>
    (Region.ready md ops listed = [] → Q .normal a w) ∧
    ∀ i ∈ Region.ready md ops listed, wpOp P ops Q i (fun a' w' => (i ∉ N → S w → S w') ∧ wpAnyV P md ops Q S N fuel (listed.setIfInBounds i true) a' w') a w
theorem wpAny_of_V : ∀ (fuel : Nat) (listed : Array Bool) (a : Act) (w : World), wpAnyV P md ops Q S N fuel listed a w → wpAny P md ops Q fuel listed a w
  | 0, _, _, _, h => h
  | fuel + 1, _, _, _, h => ⟨h.1, fun i hi => wpOp_mono (fun a' w' h' => wpAny_of_V fuel _ a' w' h'.2) (h.2 i hi)⟩
theorem wpAnyV_first {i : Nat} {oi : Oper} {v : Value} (hi : ops[i]? = some oi) (hsel : ∀ (j : Nat) (o : Oper) cs b, ops[j]? = some o → o.op ≠ .select cs b)
    (hQ : ∀ c a w, Q (.panic c) (a.put oi.dst v) w → Q (.panic c) a w) (hw : N.all (fun n => Region.waitsFor md ops n i) = true) :
    ∀ (fuel : Nat) (listed : Array Bool) (a : Act) (w : World),
      (∀ j oj, ops[j]? = some oj → j ≠ i → listed.getD j true = false → (∀ e ∈ oj.after, Region.binds md e = true → e.on ≠ i) → oi.apart ops oj = true) →
      i ∈ Region.ready md ops listed → YieldsIf P ops S oi v a → S w →
      wpAnyV P md ops Q S N fuel (listed.setIfInBounds i true) (a.put oi.dst v) w → wpAnyV P md ops Q S N (fuel + 1) listed a w := by
  intro fuel
  induction fuel with
  | zero =>
    intro listed a w _ hr hy hS H
    refine ⟨fun h => (by rw [h] at hr; cases hr), fun j hj => ?_⟩
    by_cases hji : j = i
    · subst hji; exact hy.wpOp hi hS ⟨fun _ h => h, H⟩
    · have := ready_mono hj hji
      rw [H.1] at this
      cases this
  | succ fuel ih =>
    intro listed a w hfree hr hy hS H
    refine ⟨fun h => (by rw [h] at hr; cases hr), fun j hj => ?_⟩
    by_cases hji : j = i
    · subst hji; exact hy.wpOp hi hS ⟨fun _ h => h, H⟩
    · have h1 := H.2 j (ready_mono hj hji)
      obtain ⟨hjun, oj, hoj, hall⟩ := mem_ready.1 hj
      have hnot : ∀ e ∈ oj.after, Region.binds md e = true → e.on ≠ i := fun e he hb heq => by
        have h1 := hall e he hb
        have h0 := (mem_ready.1 hr).1
        rw [heq] at h1
        rcases Nat.lt_or_ge i listed.size with h' | h'
        · simp [h'] at h0 h1; rw [h0] at h1; cases h1
        · simp [Array.getElem?_eq_none h'] at h1
      have hjn : j ∉ N := fun hjn => by
        obtain ⟨o', ho', e, he, hb, hon⟩ := Region.waitsFor_spec (List.all_eq_true.1 hw j hjn)
        rw [hoj] at ho'
        injection ho' with ho'
        subst ho'
        exact absurd hon (hnot e he hb)
      have h2 := wpOp_putIf hoj (hfree j oj hoj hji hjun hnot) (fun cs b => hsel i oi cs b hi) (fun cs b => hsel j oj cs b hoj) hQ hy h1
      have hfree' : ∀ k ok, ops[k]? = some ok → k ≠ i → (listed.setIfInBounds j true).getD k true = false →
          (∀ e ∈ ok.after, Region.binds md e = true → e.on ≠ i) → oi.apart ops ok = true := fun k ok hk hki hun hno => by
        refine hfree k ok hk hki ?_ hno
        by_cases hjk : j = k
        · subst hjk; exact hjun
        · rw [getD_set_ne true hjk] at hun; exact hun
      refine wpOp_mono (fun a' w' h3 => ⟨h3.2.1, ih (listed.setIfInBounds j true) a' w' hfree' (ready_mono hr (Ne.symm hji)) h3.1 (h3.2.1 hjn hS) ?_⟩) h2
      rw [Array.setIfInBounds_comm _ _ hji]
      exact h3.2.2
theorem wpAnyV_pure {i : Nat} {oi : Oper} {v : Value} (hi : ops[i]? = some oi) (hsel : ∀ (j : Nat) (o : Oper) cs b, ops[j]? = some o → o.op ≠ .select cs b)
    (hQ : ∀ c a w, Q (.panic c) (a.put oi.dst v) w → Q (.panic c) a w) :
    ∀ (fuel : Nat) (listed : Array Bool) (a : Act) (w : World),
      (∀ j oj, ops[j]? = some oj → j ≠ i → listed.getD j true = false → (∀ e ∈ oj.after, Region.binds md e = true → e.on ≠ i) → oi.apart ops oj = true) →
      i ∈ Region.ready md ops listed → YieldsIf P ops (fun _ => True) oi v a →
      wpAnyV P md ops Q S N fuel (listed.setIfInBounds i true) (a.put oi.dst v) w → wpAnyV P md ops Q S N (fuel + 1) listed a w := by
  intro fuel
  induction fuel with
  | zero =>
    intro listed a w _ hr hy H
    refine ⟨fun h => (by rw [h] at hr; cases hr), fun j hj => ?_⟩
    by_cases hji : j = i
    · subst hji; exact hy.wpOp hi trivial ⟨fun _ h => h, H⟩
    · have := ready_mono hj hji
      rw [H.1] at this
      cases this
  | succ fuel ih =>
    intro listed a w hfree hr hy H
    refine ⟨fun h => (by rw [h] at hr; cases hr), fun j hj => ?_⟩
    by_cases hji : j = i
    · subst hji; exact hy.wpOp hi trivial ⟨fun _ h => h, H⟩
    · have h1 := H.2 j (ready_mono hj hji)
      obtain ⟨hjun, oj, hoj, hall⟩ := mem_ready.1 hj
      have hnot : ∀ e ∈ oj.after, Region.binds md e = true → e.on ≠ i := fun e he hb heq => by
        have h1 := hall e he hb
        have h0 := (mem_ready.1 hr).1
        rw [heq] at h1
        rcases Nat.lt_or_ge i listed.size with h' | h'
        · simp [h'] at h0 h1; rw [h0] at h1; cases h1
        · simp [Array.getElem?_eq_none h'] at h1
      have h2 := wpOp_putIf hoj (hfree j oj hoj hji hjun hnot) (fun cs b => hsel i oi cs b hi) (fun cs b => hsel j oj cs b hoj) hQ hy h1
      have hfree' : ∀ k ok, ops[k]? = some ok → k ≠ i → (listed.setIfInBounds j true).getD k true = false →
          (∀ e ∈ ok.after, Region.binds md e = true → e.on ≠ i) → oi.apart ops ok = true := fun k ok hk hki hun hno => by
        refine hfree k ok hk hki ?_ hno
        by_cases hjk : j = k
        · subst hjk; exact hjun
        · rw [getD_set_ne true hjk] at hun; exact hun
      refine wpOp_mono (fun a' w' h3 => ⟨h3.2.1, ih (listed.setIfInBounds j true) a' w' hfree' (ready_mono hr (Ne.symm hji)) h3.1 ?_⟩) h2
      rw [Array.setIfInBounds_comm _ _ hji]
      exact h3.2.2
theorem wpAnyV_takeW (i : Nat) {oi : Oper} {d : Nat} {v : Value} {fuel : Nat} {listed : Array Bool} {a : Act} {w : World} (hi : ops[i]? = some oi) (hd : oi.dst = some d)
    (hs : Region.noSelect ops = true) (hf : Region.free md ops listed i = true) (hr : (Region.ready md ops listed).contains i = true) (hw : N.all (fun n => Region.waitsFor md ops n i) = true)
    (hQ : ∀ c a w, Q (.panic c) (a.put oi.dst v) w → Q (.panic c) a w) (hwt : Region.wanted oi (yielded ops a.tmps) = true) (hS : S w) (hy : ∀ x, S x → (execOp a.eval oi).run P x = .ok (.value v) x)
    (h : wpAnyV P md ops Q S N fuel (listed.setIfInBounds i true) { a with tmps := a.tmps.setIfInBounds d v } w) : wpAnyV P md ops Q S N (fuel + 1) listed a w :=
  wpAnyV_first hi (Region.noSelect_spec hs) hQ hw fuel listed a w (Region.free_spec hi hf) (by simpa using hr) (.inl ⟨hwt, hy⟩) hS (by rw [hd]; exact h)
theorem wpAnyV_takeP (i : Nat) {oi : Oper} {d : Nat} {v : Value} {fuel : Nat} {listed : Array Bool} {a : Act} {w : World} (hi : ops[i]? = some oi) (hd : oi.dst = some d)
    (hs : Region.noSelect ops = true) (hf : Region.free md ops listed i = true) (hr : (Region.ready md ops listed).contains i = true)
    (hQ : ∀ c a w, Q (.panic c) (a.put oi.dst v) w → Q (.panic c) a w) (hwt : Region.wanted oi (yielded ops a.tmps) = true) (hy : ∀ x, (execOp a.eval oi).run P x = .ok (.value v) x)
    (h : wpAnyV P md ops Q S N fuel (listed.setIfInBounds i true) { a with tmps := a.tmps.setIfInBounds d v } w) : wpAnyV P md ops Q S N (fuel + 1) listed a w :=
  wpAnyV_pure hi (Region.noSelect_spec hs) hQ fuel listed a w (Region.free_spec hi hf) (by simpa using hr) (.inl ⟨hwt, fun x _ => hy x⟩) (by rw [hd]; exact h)
theorem wpAnyV_one (i : Nat) {o : Oper} {fuel : Nat} {listed : Array Bool} {a : Act} {w : World} (hr : Region.ready md ops listed = [i]) (ho : ops[i]? = some o)
    (h : ∀ K' : Act → World → Prop, Shut (∀ a' w', (i ∉ N → S w → S w') → wpAnyV P md ops Q S N fuel (listed.setIfInBounds i true) a' w' → K' a' w') → if Region.wanted o (yielded ops a.tmps) = true then Oper.wp P o a w K' Q else K' (a.put o.dst undef) w) :
    wpAnyV P md ops Q S N (fuel + 1) listed a w := by
  refine ⟨fun h0 => (by rw [hr] at h0; cases h0), fun j hj => ?_⟩
  rw [hr] at hj
  have hji : j = i := by simpa using hj
  subst hji
  exact wpOp_step ho (fun K' hK => h K' (fun a w hS hW => hK a w ⟨hS, hW⟩))
theorem wpAnyV_done {listed : Array Bool} {a : Act} {w : World} (hr : Region.ready md ops listed = []) (h : Q .normal a w) : ∀ fuel, wpAnyV P md ops Q S N fuel listed a w
  | 0 => ⟨hr, h⟩
  | _ + 1 => ⟨fun _ => h, by rw [hr]; simp⟩
theorem wpV_region (S : World → Prop) (N : List Nat) {id : Nat} {a : Act} {w : World} (hm : P.follows .mixedOrders = true)
    (h : wpAnyV P .any ops Q S N ops.size (Array.replicate ops.size false) a w.drew) : (Code.region id ops true).wp P Q a w :=
  wp_region_any hm (wpAny_of_V _ _ _ _ h)
end
end Go.Proofs.YtkjoaodoioicpaaGreatDoor
namespace Go.Proofs.YtkjoaodoioicpaaGreatDoor
open Go.RowKit
theorem Own.turn {α : Type} [GoT α] {w w' : World} {T : Nat → Prop} {base e g c : Nat} {xs ys : List α} (h : Own w T base e (some ⟨g, 0, none⟩) c xs) (hl : ys.length = xs.length)
    {cs cs' : Array Value} (hb : w.heap[g]? = some (.cells cs e (0, 0))) (hb' : w'.heap[g]? = some (.cells cs' e (0, 0))) (hsz : cs'.size = cs.size)
    (hk : ∀ k, k < w.heap.size → k ≠ g → w'.heap[k]? = w.heap[k]?)
    (hy : ∀ i (hi : i < ys.length), ∃ j, ∃ hj : j < xs.length, ys[i] = xs[j] ∧ ∀ m, m < GoT.size α → cs'[i * GoT.size α + m]? = cs[j * GoT.size α + m]?) : Own w' T base e (some ⟨g, 0, none⟩) c ys := by
  obtain ⟨l0, ⟨h1, h2⟩, h3⟩ := h
  rcases h2 with ⟨h2, -⟩ | ⟨g', cap, cur, hv, hbb, hg, hn, hm, hcs, htk⟩
  · cases h2
  · injection hv with hA hn' hc'
    injection hA with hA
    injection hA with hA
    subst hA
    rw [hb] at hg
    injection hg with hg
    injection hg with hg
    subst hg
    have hle : xs.length * GoT.size α ≤ cs.size := by
      rw [hcs]
      exact Nat.mul_le_mul_right _ hn
    have hin : ∀ i, i < xs.length → ∀ m, m < GoT.size α → i * GoT.size α + m < xs.length * GoT.size α := by
      intro i hi m hm
      have : (i + 1) * GoT.size α ≤ xs.length * GoT.size α := Nat.mul_le_mul_right _ hi
      rw [Nat.add_mul, Nat.one_mul] at this
      omega
    refine ⟨cs'.toList.take (ys.length * GoT.size α), ⟨by rw [List.length_take, hl]; exact Nat.min_eq_left (show _ ≤ cs'.size by rw [hsz]; exact hle), .inr ⟨g, cap, cs', by rw [hl, hc'], hbb, hb', by omega, hm, by rw [hsz]; exact hcs, rfl⟩⟩, fun i hi => ?_⟩
    obtain ⟨j, hj, hey, hc⟩ := hy i hi
    rw [hey]
    refine GoT.keep (w := w) (fun k hk1 hk2 => hk k hk1 (fun e => hk2.2 (by rw [e]; rfl))) (GoT.same (fun m hm => ?_) (h3 j hj))
    have b1 := hin i (by omega) m hm
    have b2 := hin j hj m hm
    rw [← htk]
    simp only [List.getD_eq_getElem?_getD, List.getElem?_take]
    rw [if_pos (by rw [hl]; exact b1), if_pos b2]
    simp only [Array.getElem?_toList, hc m hm]
theorem Own.blk {α : Type} [GoT α] {w : World} {T : Nat → Prop} {base e c : Nat} {A : Option Addr} {xs : List α} (h : Own w T base e A c xs) (hz : 0 < xs.length) : ∃ g cs, A = some ⟨g, 0, none⟩ ∧ w.heap[g]? = some (.cells cs e (0, 0)) ∧ xs.length * GoT.size α ≤ cs.size := by
  obtain ⟨l0, ⟨h1, h2⟩, h3⟩ := h
  rcases h2 with ⟨h2, h0⟩ | ⟨g', cap, cur, hv, hbb, hg, hn, hm, hcs, htk⟩
  · omega
  · injection hv with hA
    exact ⟨g', cur, hA, hg, by rw [hcs]; exact Nat.mul_le_mul_right _ hn⟩
def swapL {α : Type} (l : List α) (i k : Nat) (hi : i < l.length) (hk : k < l.length) : List α := (l.set i l[k]).set k l[i]
theorem swapL_len {α : Type} {l : List α} {i k : Nat} {hi : i < l.length} {hk : k < l.length} : (swapL l i k hi hk).length = l.length := by simp [swapL]
theorem swapL_get {α : Type} {l : List α} {i k : Nat} {hi : i < l.length} {hk : k < l.length} {p : Nat} (hp : p < l.length) : (swapL l i k hi hk)[p]'(by rw [swapL_len]; exact hp) = if k = p then l[i] else if i = p then l[k] else l[p] := by
  unfold swapL
  rw [List.getElem_set]
  split
  · rfl
  · rw [List.getElem_set]
theorem swapL_mem {α : Type} {l : List α} {i k : Nat} {hi : i < l.length} {hk : k < l.length} {x : α} : x ∈ swapL l i k hi hk ↔ x ∈ l := by
  have hto : ∀ p, (hp : p < l.length) → (swapL l i k hi hk)[p]'(by rw [swapL_len]; exact hp) ∈ l := by
    intro p hp
    rw [swapL_get hp]
    split
    · exact List.getElem_mem _
    · split <;> exact List.getElem_mem _
  constructor
  · intro h
    obtain ⟨p, hp, rfl⟩ := List.getElem_of_mem h
    exact hto p (by rw [swapL_len] at hp; exact hp)
  · intro h
    obtain ⟨p, hp, rfl⟩ := List.getElem_of_mem h
    by_cases h1 : p = k
    · subst h1
      have := List.getElem_mem (l := swapL l i p hi hk) (n := i) (by rw [swapL_len]; exact hi)
      rw [swapL_get hi] at this
      split at this
      · rename_i e; subst e; exact this
      · rw [if_pos rfl] at this; exact this
    · by_cases h2 : p = i
      · subst h2
        have := List.getElem_mem (l := swapL l p k hi hk) (n := k) (by rw [swapL_len]; exact hk)
        rw [swapL_get hk, if_pos rfl] at this
        exact this
      · have := List.getElem_mem (l := swapL l i k hi hk) (n := p) (by rw [swapL_len]; exact hp)
        rw [swapL_get hp, if_neg (fun e => h1 e.symm), if_neg (fun e => h2 e.symm)] at this
        exact this
theorem Own.base {α : Type} [GoT α] {w : World} {T : Nat → Prop} {base b e c : Nat} {A : Option Addr} {xs : List α} (h : Own w T base e A c xs) (hb : b ≤ base) : Own w T b e A c xs := by
  obtain ⟨cs, ⟨h1, h2⟩, h3⟩ := h
  refine ⟨cs, ⟨h1, ?_⟩, h3⟩
  rcases h2 with h2 | ⟨g, cap, cur, hv, hbb, h⟩
  · exact .inl h2
  · exact .inr ⟨g, cap, cur, hv, Nat.le_trans hb hbb, h⟩
structure Pr where
  a : Nat
  b : Nat
instance : Inhabited Pr := ⟨⟨0, 0⟩⟩
instance : GoT Pr where
  size := 2
  rd := fun _ _ g x => g 0 = .int .u8 (x.a : Int) ∧ g 1 = .int .u8 (x.b : Int)
  keep := fun _ h => h
  wide := fun _ h => h
  same := fun hg h => ⟨(hg 0 (by omega)).trans h.1, (hg 1 (by omega)).trans h.2⟩
  one := fun h j hj => by
    match j, hj with
    | 0, _ => rw [h.1]; rfl
    | 1, _ => rw [h.2]; rfl
def OkPr (x : Pr) : Prop := x.a ≤ 255 ∧ x.b ≤ 255
theorem Sl.pr {w : World} {S : Nat → Prop} {A : Option Addr} {n c k : Nat} {xs : List Pr} (h : Sl w S A n c xs) (hk : k < xs.length) : ∃ b o, A = some ⟨b, o, none⟩ ∧ S b ∧ b < w.heap.size ∧ w.cell? ⟨b, o + k * 2, none⟩ = some (.int .u8 (xs[k].a : Int)) ∧ w.cell? ⟨b, o + k * 2 + 1, none⟩ = some (.int .u8 (xs[k].b : Int)) := by
  obtain ⟨b, o, hA, hS, hb, g, hc, h0, h1⟩ := h.plain (by decide) hk
  have c0 := hc 0 (by decide)
  have c1 := hc 1 (by decide)
  rw [h0] at c0
  rw [h1] at c1
  exact ⟨b, o, hA, hS, hb, c0, c1⟩
set_option maxHeartbeats 1000000 in
theorem cpS_any (A : Option Addr) (n c : Nat) (l : List Rul) (w : World) (S : Nat → Prop) (hl : Sl w S A n c l) (hlen : l.length ≤ 10000000) (hS : ∀ k, S k → k < w.heap.size) :
    Calls Tryz.prog 9 #[.slice A n c] w fun e w' => ∃ A' c', e = .returned (.slice A' l.length c') ∧ Own w' S w.heap.size 34 A' c' l ∧ Below w.heap.size w w' := by
  have hn := hl.len
  subst hn
  have hle := hl.le
  have HL := Lib.hid hl; have HSS := Lib.hid hS; clear hl hS
  go_enter Tryz.func9, Tryz.ntmps9
  go_wp2_with (at_builtin; go_loud (refine wpList_appN (e := 34) (T := S) (base := w.heap.size) (xs := ([] : List Rul)) rfl (.tmp 3) (.tmp 4) eltRul rfl (by decide) rfl rfl rfl (Own.emp (blkAt _ _ rfl) (Nat.le_refl _)) rfl ((HL.out.wide (fun k hk1 hk => ⟨hk, fun e => by injection e with e; exact absurd e (by have := hk1; simp only; omega)⟩) (by decide)).alloc _) (by simp; omega) (by simp; omega) (by simp) ?_); intro A' c' w2 hown' hg hat)
  go_ret
  exact ⟨A', c', by simp, by simpa using hown', boxed.grown hg (by simp) (fun k hk => by have hk : some w.heap.size = some k := hk; injection hk with hk; omega)⟩
set_option maxHeartbeats 1000000 in
theorem caS_any (A : Option Addr) (n c : Nat) (l : List Atm) (w : World) (S : Nat → Prop) (hl : Sl w S A n c l) (hlen : l.length ≤ 10000000) (hS : ∀ k, S k → k < w.heap.size) :
    Calls Tryz.prog 10 #[.slice A n c] w fun e w' => ∃ A' c', e = .returned (.slice A' l.length c') ∧ Own w' S w.heap.size 31 A' c' l ∧ Below w.heap.size w w' := by
  have hn := hl.len
  subst hn
  have hle := hl.le
  have HL := Lib.hid hl; have HSS := Lib.hid hS; clear hl hS
  go_enter Tryz.func10, Tryz.ntmps10
  go_wp2_with (at_builtin; go_loud (refine wpList_appN (e := 31) (T := S) (base := w.heap.size) (xs := ([] : List Atm)) rfl (.tmp 3) (.tmp 4) eltAtm rfl (by decide) rfl rfl rfl (Own.emp (blkAt _ _ rfl) (Nat.le_refl _)) rfl ((HL.out.wide (fun k hk1 hk => ⟨hk, fun e => by injection e with e; exact absurd e (by have := hk1; simp only; omega)⟩) (by decide)).alloc _) (by simp; omega) (by simp; omega) (by simp) ?_); intro A' c' w2 hown' hg hat)
  go_ret
  exact ⟨A', c', by simp, by simpa using hown', boxed.grown hg (by simp) (fun k hk => by have hk : some w.heap.size = some k := hk; injection hk with hk; omega)⟩
end Go.Proofs.YtkjoaodoioicpaaGreatDoor
