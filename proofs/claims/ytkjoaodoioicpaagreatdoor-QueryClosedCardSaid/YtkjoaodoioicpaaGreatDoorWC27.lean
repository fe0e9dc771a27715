/- Query (package licitlaw54): a part of the proofs of its laws; see the law's own text, which comes last in 'order'. No conditions of its own. -/
import Derived.Test.YtkjoaodoioicpaaGreatDoorWC26
set_option linter.unusedVariables false
set_option linter.unusedSimpArgs false
namespace Go.Proofs.YtkjoaodoioicpaaGreatDoor
open Go.RowKit
structure RkX (w0 : World) (pk kr kk kh : Nat) (A : Option Addr) (n c : Nat) (B : Option Addr) (m d : Nat) (head : Atm) (Fk Ik : Nat → Prop) (Lk : List Atm) (R : Nat → Prop) (w : World) (sh : List Atm) (Th : Nat → Prop) (Ah : Option Addr) (ch : Nat) : Prop where
  hb : w.heap[kh]? = some (.cells #[.slice Ah sh.length ch] 23 (0, 0))
  ho : Own w Th w0.heap.size 31 Ah ch sh
  d3 : ∀ k, Th k → k < w.heap.size ∧ k ≠ kh ∧ Ah.map Addr.block ≠ some k ∧ w0.heap.size ≤ k
  d4 : Ah.map Addr.block ≠ some kh ∧ w0.heap.size ≤ kh
  base : BaseR w Fk Ik pk Lk
  b1 : w.heap[kr]? = some (.cells #[.string ⟨head.name.toArray⟩, .slice A n c, .slice B m d] 34 (0, 0))
  b2 : w.heap[kk]? = some (.cells #[.pointer (some ⟨pk, 0, none⟩)] 65 (0, 0))
  sl : Sl w R A n c head.args
  rd : ∀ k, (k = kr ∨ k = kk ∨ R k ∨ Fk k ∨ Ik k ∨ k = pk) → k < w.heap.size ∧ k ≠ kh ∧ Ah.map Addr.block ≠ some k
  bel : Below w0.heap.size w0 w
section
variable {w0 : World} {pk kr kk kh : Nat} {A : Option Addr} {n c : Nat} {B : Option Addr} {m d : Nat} {head : Atm} {Fk Ik : Nat → Prop} {Lk : List Atm} {R : Nat → Prop} {w w' : World} {sh : List Atm} {Th : Nat → Prop} {Ah : Option Addr} {ch : Nat}
theorem RkX.below (h : RkX w0 pk kr kk kh A n c B m d head Fk Ik Lk R w sh Th Ah ch) (hb : Below w.heap.size w w') : RkX w0 pk kr kk kh A n c B m d head Fk Ik Lk R w' sh Th Ah ch where
  hb := keptBlk hb h.hb
  ho := h.ho.below hb
  d3 := fun k hk => ⟨Nat.lt_of_lt_of_le (h.d3 k hk).1 hb.size, (h.d3 k hk).2⟩
  d4 := h.d4
  base := h.base.below hb
  b1 := keptBlk hb h.b1
  b2 := keptBlk hb h.b2
  sl := h.sl.below hb
  rd := fun k hk => ⟨Nat.lt_of_lt_of_le (h.rd k hk).1 hb.size, (h.rd k hk).2⟩
  bel := h.bel.trans (hb.mono h.bel.size)
theorem RkX.app (h : RkX w0 pk kr kk kh A n c B m d head Fk Ik Lk R w sh Th Ah ch) {J : Nat → Prop} (hJ : ∀ k, J k → k < w.heap.size ∧ k ≠ kh ∧ Ah.map Addr.block ≠ some k ∧ w0.heap.size ≤ k) (o : Obj) :
    Own (w.alloc o) (fun k => Th k ∨ J k) w0.heap.size 31 Ah ch sh ∧ (∀ k, J k → (fun k => Th k ∨ J k) k ∧ Ah.map Addr.block ≠ some k) ∧
    ∀ (y : Atm) (w2 : World) A' c', Own w2 (fun k => Th k ∨ J k) w0.heap.size 31 A' c' (sh ++ [y]) → (w.alloc o).grownBy w2 (Ah.map Addr.block) → (A'.map Addr.block = Ah.map Addr.block ∨ A'.map Addr.block = some (w.alloc o).heap.size) →
      RkX w0 pk kr kk kh A n c B m d head Fk Ik Lk R (w2.setCell ⟨kh, 0, none⟩ (.slice A' (sh.length + 1) c')) (sh ++ [y]) (fun k => Th k ∨ J k) A' c' := by
  have hkh := (Array.getElem?_eq_some_iff.1 h.hb).1
  have hsz : (w.alloc o).heap.size = w.heap.size + 1 := by simp
  refine ⟨(h.ho.alloc o).wide fun k _ hk => .inl hk, fun k hk => ⟨.inr hk, (hJ k hk).2.2.1⟩, fun y w2 A' c' ho2 hg2 hat => ?_⟩
  have hz2 := hg2.size
  have hall : ∀ k, k < w.heap.size → k ≠ kh → Ah.map Addr.block ≠ some k → (w2.setCell ⟨kh, 0, none⟩ (.slice A' (sh.length + 1) c')).heap[k]? = w.heap[k]? := fun k hk hne hA => by
    rw [set_other _ _ _ _ _ hne, hg2.block k (by omega) (fun e => hA e.symm), Below.heap_alloc w o k hk]
  have hkh2 : w2.heap[kh]? = some (.cells #[.slice Ah sh.length ch] 23 (0, 0)) := by
    rw [hg2.block kh (by omega) (fun e => h.d4.1 e.symm), Below.heap_alloc w o kh hkh]; exact h.hb
  have hA' : ∀ k, k < w.heap.size → Ah.map Addr.block ≠ some k → A'.map Addr.block ≠ some k := fun k hk hA e => by
    rcases hat with hat | hat
    · exact hA (by rw [← hat]; exact e)
    · rw [hat] at e; injection e with e; omega
  have hk : ∀ k, (k = kr ∨ k = kk ∨ R k ∨ Fk k ∨ Ik k ∨ k = pk) → (w2.setCell ⟨kh, 0, none⟩ (.slice A' (sh.length + 1) c')).heap[k]? = w.heap[k]? := fun k hk => hall k (h.rd k hk).1 (h.rd k hk).2.1 (h.rd k hk).2.2
  have hz3 : (w2.setCell ⟨kh, 0, none⟩ (.slice A' (sh.length + 1) c')).heap.size = w2.heap.size := by simp [World.setCell]
  refine ⟨?_, ho2.keep fun k _ hT => set_other _ _ _ _ _ ?_, fun k hk' => ?_, ⟨hA' kh hkh h.d4.1, h.d4.2⟩, h.base.keep fun k _ hk' => hk k (by rcases hk' with e | e | e <;> simp [e]), (hk kr (by simp)).trans h.b1, (hk kk (by simp)).trans h.b2, h.sl.keep fun k _ hr => hk k (by simp [hr]),
    fun k hk' => ⟨by have := (h.rd k hk').1; omega, (h.rd k hk').2.1, hA' k (h.rd k hk').1 (h.rd k hk').2.2⟩, ?_⟩
  · rw [Blk.set w2 hkh2 0]
    simp
  · rcases hT with (hT | hT) | hT
    · exact (h.d3 k hT).2.1
    · exact (hJ k hT).2.1
    · intro e
      rw [e] at hT
      exact hA' kh hkh h.d4.1 hT
  · rcases hk' with hk' | hk'
    · have := h.d3 k hk'; exact ⟨by omega, this.2.1, hA' k this.1 this.2.2.1, this.2.2.2⟩
    · have := hJ k hk'; exact ⟨by omega, this.2.1, hA' k this.1 this.2.2.1, this.2.2.2⟩
  · have hb1 : Below w0.heap.size w0 (w.alloc o) := h.bel.alloc h.bel.size o
    exact (hb1.grown hg2 hb1.size (fun k hk => (h.ho.lt k hk).1)).setCell (p := ⟨kh, 0, none⟩) h.d4.2 _
end
def StK (w0 : World) (pk kr kk kh : Nat) (A : Option Addr) (n c : Nat) (B : Option Addr) (m d : Nat) (head : Atm) (Fk Ik : Nat → Prop) (Lk : List Atm) (R : Nat → Prop) (w : World) (s : List Atm) (G : Nat → Prop) : Prop :=
  ∃ Th Ah ch, RkX w0 pk kr kk kh A n c B m d head Fk Ik Lk R w s Th Ah ch ∧ ∀ k, G k ↔ (k = kh ∨ Ah.map Addr.block = some k)
set_option maxRecDepth 100000 in
set_option maxHeartbeats 16000000 in
theorem rank1_any (w0 : World) (hL : LD w0) (pk kr kk kh : Nat) (A : Option Addr) (n c : Nat) (B : Option Addr) (m d : Nat) (head : Atm) (Fk Ik : Nat → Prop) (Lk : List Atm) (R : Nat → Prop) (hok : OkT head) (hN : head.args.length ≤ 1000000)
    (w : World) (s : List Atm) (G : Nat → Prop) (b : Nat) (v : Bnd) (hst : StK w0 pk kr kk kh A n c B m d head Fk Ik Lk R w s G) (hlv : s.length + 1 ≤ 100000) (hm : MapA w b v) (hnb : ¬ G b) (hg : groundP (atomV v head) = true) :
    Calls Tryz.prog 43 (#[.map (some b)] ++ #[.pointer (some ⟨kr, 0, none⟩), .pointer (some ⟨kk, 0, none⟩), .pointer (some ⟨kh, 0, none⟩)]) w fun e w' => e = .returned (.bool (rankF Lk head s v).2) ∧
      ∃ G', StK w0 pk kr kk kh A n c B m d head Fk Ik Lk R w' (rankF Lk head s v).1 G' ∧ (∀ k, G' k → G k ∨ w.heap.size ≤ k) ∧ Frm G w w' := by
  obtain ⟨Th, Ah, ch, hx, hG⟩ := hst
  have hn := hx.sl.len
  subst hn
  have hat := fun w' (hb' : Below w.heap.size w w') => atomQ_any v head b A head.args.length c w' R (hm.below hb') (hx.sl.below hb') hok hN
  have hhas := fun (w' : World) (hb' : Below w.heap.size w w') (A' : Option Addr) (n' c' : Nat) (S' : Nat → Prop) (hs' : Sl w' S' A' n' c' (atomV v head).args) => hasQ_any Fk Ik pk Lk (atomV v head) A' n' c' w' S' (hx.base.below hb') hs' (ground_okT hg).1 (hL.below (hx.bel.trans (hb'.mono hx.bel.size)))
  obtain ⟨V, hV⟩ : ∃ V, V = rankF Lk head s v := ⟨_, rfl⟩
  rw [← hV]
  unfold rankF at hV
  generalize atomV v head = y at *
  have HVV := Lib.hid hV; clear hV
  have hGh : G kh := (hG kh).2 (.inl rfl)
  have hGA : ∀ k, Ah.map Addr.block = some k → G k := fun k hk => (hG k).2 (.inr hk)
  have k0 := (cell_blk hx.b1 0).trans rfl; have k1 := (cell_blk hx.b1 1).trans rfl
  have HAT := Lib.hid (hat w (Below.refl _ _)); have HHAS := Lib.hid hhas; have HX0 := Lib.hid hx; have HGH := Lib.hid hGh; have HGA := Lib.hid hGA; have HG := Lib.hid hG
  clear hat hhas hx hG hGh hGA hm hnb hok hN hg hL
  go_enter Tryz.func43, Tryz.ntmps43
  go_wp2_with fail
  refine HAT.out.mono ?_
  rintro e w1 ⟨⟨A1, n1, c1, rfl, hs1⟩, hb1⟩
  obtain rfl : n1 = y.args.length := hs1.len
  have hX1 := HX0.out.below hb1
  have k2 := (cell_blk hX1.b2 0).trans rfl
  have HB1 := Lib.hid hb1; have HX1 := Lib.hid hX1
  have hs1' := hs1.wide (S' := fun k => w.heap.size ≤ k ∧ k < w1.heap.size) (fun k hk h => ⟨h, hk⟩) (by decide)
  have HS1 := Lib.hid hs1'
  have hkb : kk < w1.heap.size := (Array.getElem?_eq_some_iff.1 HX1.out.b2).1
  clear hs1 hb1 hX1 k0 k1 HAT hs1'
  go_wp2_with fail
  have hb2 : Below w.heap.size w (w1.alloc (.cells #[.string ⟨y.name.toArray⟩, .slice A1 y.args.length c1] 31)) := HB1.out.alloc HB1.out.size _
  have hX2 := HX1.out.below (w' := w1.alloc (.cells #[.string ⟨y.name.toArray⟩, .slice A1 y.args.length c1] 31)) boxed
  have hy2 := blkAt w1 (.cells #[.string ⟨y.name.toArray⟩, .slice A1 y.args.length c1] 31) rfl
  have hs2 := HS1.out.alloc (.cells #[.string ⟨y.name.toArray⟩, .slice A1 y.args.length c1] 31)
  generalize w1.alloc (.cells #[.string ⟨y.name.toArray⟩, .slice A1 y.args.length c1] 31) = W2 at *
  clear k2 hkb
  refine (HHAS.out W2 hb2 _ _ _ _ hs2).mono ?_
  rintro e w3 ⟨rfl, hb3⟩
  have hb3' := hb2.trans (hb3.mono hb2.size)
  have hX3 := hX2.below hb3
  have hy3 := keptBlk hb3 hy2
  have hs3 := hs2.below hb3
  have hw13 : w1.heap.size < w3.heap.size := (Array.getElem?_eq_some_iff.1 hy3).1
  have hww1 := HB1.out.size
  have HX3 := Lib.hid hX3; have HY3 := Lib.hid hy3; have HS3 := Lib.hid hs3; have HB3 := Lib.hid hb3'
  clear hb2 hX2 hy2 hs2 hb3 hb3' hX3 hy3 hs3 HHAS
  cases hcb : Lk.contains y
  case true =>
    have hv := HVV.out
    rw [hcb, if_pos rfl] at hv
    have HV := Lib.hid hv
    clear hcb hv HVV
    go_wp2_with fail
    refine bodyPost_ret (v := .bool true) (by simp [results, Tryz.results43, go_sem]) rfl ?_
    rw [HV.out]
    exact ⟨rfl, _, ⟨_, _, _, HX3.out, fun k => Iff.rfl⟩, fun k hk => .inl ((HG.out k).2 hk), Frm.any HB3.out⟩
  case false =>
    have hv := HVV.out
    rw [hcb, if_neg (by decide)] at hv
    have HV := Lib.hid hv
    clear hcb hv HVV
    have hkl := (Array.getElem?_eq_some_iff.1 HX0.out.hb).1
    have hAl := HX0.out.ho.lt
    have happ := HX3.out.app (J := fun k => w.heap.size ≤ k ∧ k < w1.heap.size) (fun k hk => ⟨by have := hk.2; omega, fun e => by have := hk.1; omega, fun e => by have := (hAl k e).2; have := hk.1; omega, by have := HX0.out.bel.size; have := hk.1; omega⟩) (.cells #[.string ⟨y.name.toArray⟩, .slice A1 y.args.length c1] 31)
    have hkh5 : ∀ w5, (w3.alloc (.cells #[.string ⟨y.name.toArray⟩, .slice A1 y.args.length c1] 31)).grownBy w5 (Ah.map Addr.block) → w5.heap[kh]? = some (.cells #[.slice Ah s.length ch] 23 (0, 0)) := fun w5 hg5 => grownBlk hg5 (blkOld HX3.out.hb _) HX3.out.d4.1
    have k4 := (cell_blk HX3.out.hb 0).trans rfl
    have y0 := (cell_blk HY3.out 0).trans rfl; have y1 := (cell_blk HY3.out 1).trans rfl
    have hb0 : w0.heap.size ≤ (w3.alloc (.cells #[.string ⟨y.name.toArray⟩, .slice A1 y.args.length c1] 31)).heap.size := Nat.le_trans HX3.out.bel.size (Nat.le_of_lt (lt_alloc _ _))
    have HAPP := Lib.hid happ; have HKH := Lib.hid hkh5; have HAL := Lib.hid hAl
    clear happ hkh5 hAl
    go_wp2_with (at_builtin; go_loud (refine wpList_app1 rfl _ _ eltAtm rfl (by decide) rfl rfl rfl HAPP.out.1 rfl [.string ⟨y.name.toArray⟩, .slice A1 y.args.length c1] y (blkAt _ _ rfl) rfl ⟨rfl, A1, _, c1, rfl, (HS3.out.alloc _).wide (fun k _ hk => HAPP.out.2.1 k hk) (by decide)⟩ (by omega) (by omega) hb0 ?_); intro A3 c3 w5 hown5 hg5 hat5; have k5 := (cell_blk (HKH.out w5 hg5) 0).trans rfl; have z5 := frz_blk (HKH.out w5 hg5) 0; have hX6 := HAPP.out.2.2 y w5 A3 c3 hown5 hg5 hat5; have hfr6 : Frm G w (w5.setCell ⟨kh, 0, none⟩ (.slice A3 (s.length + 1) c3)) := (((Frm.any HB3.out).alloc _).grown hg5 (fun k hk _ => HGA.out k hk)).setCell (p := ⟨kh, 0, none⟩) (fun _ => HGH.out) _; have HX6 := Lib.hid hX6; have HFR6 := Lib.hid hfr6; have HAT5 := Lib.hid hat5; clear hown5 hg5 hat5 hX6 hfr6)
    refine bodyPost_ret (v := .bool true) (by simp [results, Tryz.results43, go_sem]) rfl ?_
    have hsA : (w3.alloc (.cells #[.string ⟨y.name.toArray⟩, .slice A1 y.args.length c1] 31)).heap.size = w3.heap.size + 1 := by simp
    have hat5 := HAT5.out
    rw [hsA] at hat5
    have hb3s := HB3.out.size
    rw [HV.out]
    refine ⟨rfl, _, ⟨_, _, _, HX6.out, fun k => Iff.rfl⟩, fun k hk => ?_, HFR6.out⟩
    rcases hk with hk | hk
    · exact .inl (by rw [hk]; exact HGH.out)
    · rcases hat5 with h | h
      · exact .inl (HGA.out k (by rw [← h]; exact hk))
      · rw [h] at hk; injection hk with hk; exact .inr (by omega)
theorem rank1_ok (w0 : World) (hL : LD w0) (pk kr kk kh : Nat) (A : Option Addr) (n c : Nat) (B : Option Addr) (m d : Nat) (head : Atm) (Fk Ik : Nat → Prop) (Lk : List Atm) (R : Nat → Prop) (hok : OkT head) (hN : head.args.length ≤ 1000000) :
    CbOk 43 #[.pointer (some ⟨kr, 0, none⟩), .pointer (some ⟨kk, 0, none⟩), .pointer (some ⟨kh, 0, none⟩)] (rankF Lk head) (fun v => groundP (atomV v head) = true) (fun s n => s.length + n ≤ 100000) (StK w0 pk kr kk kh A n c B m d head Fk Ik Lk R) where
  enter := fun _ _ => by kernel_rfl
  keep := fun h hb => by
    obtain ⟨Th, Ah, ch, hx, hG⟩ := h
    exact ⟨Th, Ah, ch, hx.below hb, hG⟩
  ld := fun h => by
    obtain ⟨Th, Ah, ch, hx, hG⟩ := h
    exact hL.below hx.bel
  bd := fun h k hk => by
    obtain ⟨Th, Ah, ch, hx, hG⟩ := h
    rcases (hG k).1 hk with e | e
    · rw [e]; exact (Array.getElem?_eq_some_iff.1 hx.hb).1
    · exact (hx.ho.lt k e).2
  lvm := fun s n m h1 h2 => by omega
  lv := fun s v n h1 h2 => by
    unfold rankF
    simp only
    split
    · omega
    · rw [List.length_append, List.length_singleton]; omega
  call := fun w s G b v h1 h2 h3 h4 h5 => rank1_any w0 hL pk kr kk kh A n c B m d head Fk Ik Lk R hok hN w s G b v h1 h2 h3 h4 h5
end Go.Proofs.YtkjoaodoioicpaaGreatDoor
namespace Go.Proofs.YtkjoaodoioicpaaGreatDoor
open Go.RowKit
theorem gK_cons (p : Bs × Int) (r : KMap) (s : Bs) : getK (p :: r) s = if p.1 == s then some p.2 else getK r s := by
  unfold getK
  rw [List.find?_cons]
  cases h : p.1 == s <;> rfl
theorem setK_new : ∀ (m : KMap) (s : Bs) (v : Int), getK m s = none → setK m s v = m ++ [(s, v)]
  | [], _, _, _ => rfl
  | p :: r, s, v, h => by
    rw [gK_cons] at h
    rw [setK]
    cases hn : p.1 == s
    · rw [hn] at h
      simp only [Bool.false_eq_true, if_false] at h ⊢
      rw [setK_new r s v h]
      rfl
    · rw [hn] at h
      simp at h
def rkMap (rk : List (Atm × Int)) : KMap := rk.map fun p => ((printAtomS p.1).1, p.2)
theorem rkMap_get : ∀ (rk : List (Atm × Int)), (∀ p ∈ rk, groundP p.1 = true) → ∀ a, groundP a = true → getV (rkMap rk) (printAtomS a).1 = rankOf rk a ∧ ((∀ p ∈ rk, p.1 ≠ a) → getK (rkMap rk) (printAtomS a).1 = none)
  | [], _, a, _ => ⟨rfl, fun _ => rfl⟩
  | p :: r, hg, a, ha => by
    obtain ⟨h1, h2⟩ := rkMap_get r (fun q hq => hg q (List.mem_cons_of_mem _ hq)) a ha
    have hp := hg p List.mem_cons_self
    have hm : rkMap (p :: r) = ((printAtomS p.1).1, p.2) :: rkMap r := rfl
    by_cases he : p.1 = a
    · refine ⟨?_, fun h => absurd he (h p List.mem_cons_self)⟩
      rw [hm, getV, gK_cons, rankOf, he]
      simp
    · have hne : ((printAtomS p.1).1 == (printAtomS a).1) = false := by rw [beq_eq_false_iff_ne]; exact fun e => he (print_inj hp ha e)
      refine ⟨?_, fun h => ?_⟩
      · rw [hm, getV, gK_cons, rankOf, if_neg he]
        simp only [hne, Bool.false_eq_true, if_false]
        exact h1
      · rw [hm, gK_cons]
        simp only [hne, Bool.false_eq_true, if_false]
        exact h2 fun q hq => h q (List.mem_cons_of_mem _ hq)
theorem rankAdd_cons (n : Int) (h : Atm) (t known : List Atm) (rk : List (Atm × Int)) : rankAdd n (h :: t) known rk = if known.contains h then rankAdd n t known rk else rankAdd n t (known ++ [h]) (rk ++ [(h, n)]) := rfl
theorem rankH_cons (known all : List Atm) (r : Rul) (t : List Rul) (s : List Atm) : rankH known all (r :: t) s = rankH known all t (iterF (rankF known r.head) (eachQ r.body known all) s).1 := rfl
theorem rankGo_succ (l : List Rul) (all : List Atm) (f : Nat) (n : Int) (known : List Atm) (rk : List (Atm × Int)) : rankGo l all (f + 1) n known rk = if known.length < all.length then rankGo l all f (n + 1) (rankAdd n (rankH known all l []) known rk).1 (rankAdd n (rankH known all l []) known rk).2 else some rk := rfl
theorem rank_len (known : List Atm) (head : Atm) : ∀ (L : List Bnd) (s : List Atm), (iterF (rankF known head) L s).1.length ≤ s.length + L.length
  | [], s => by rw [iterF]; exact Nat.le_refl _
  | v :: r, s => by
    rw [iterF]
    have h1 : (rankF known head s v).1.length ≤ s.length + 1 := by
      unfold rankF
      simp only
      split
      · omega
      · rw [List.length_append, List.length_singleton]; omega
    have h2 : (rankF known head s v).2 = true := rfl
    rw [h2, if_pos rfl, List.length_cons]
    have := rank_len known head r (rankF known head s v).1
    omega
theorem rank_ground (known : List Atm) (head : Atm) : ∀ (L : List Bnd) (s : List Atm), (∀ h ∈ s, groundP h = true) → (∀ v ∈ L, groundP (atomV v head) = true) → ∀ h ∈ (iterF (rankF known head) L s).1, groundP h = true
  | [], s, hs, _ => by rw [iterF]; exact hs
  | v :: r, s, hs, hl => by
    rw [iterF]
    have h2 : (rankF known head s v).2 = true := rfl
    rw [h2, if_pos rfl]
    refine rank_ground known head r _ ?_ fun u hu => hl u (List.mem_cons_of_mem _ hu)
    unfold rankF
    simp only
    split
    · exact hs
    · intro h hh
      rcases List.mem_append.1 hh with hh | hh
      · exact hs h hh
      · rw [List.mem_singleton.1 hh]; exact hl v List.mem_cons_self
structure RkI (W0 wr : World) (F0 I0 Fk Ik : Nat → Prop) (pk mb : Nat) (known : List Atm) (rk : List (Atm × Int)) : Prop where
  base : BaseR wr Fk Ik pk known
  map : MapR wr mb (rkMap rk)
  f2 : ∀ k, Fk k → F0 k ∨ W0.heap.size ≤ k
  i2 : ∀ k, Ik k → I0 k ∨ W0.heap.size ≤ k
  b : ∀ k, Fk k ∨ Ik k → k < wr.heap.size
  frm : Frm (fun k => F0 k ∨ k = mb) W0 wr
  nm : ¬ Fk mb ∧ ¬ Ik mb ∧ mb ≠ pk
  gr : ∀ p ∈ rk, groundP p.1 = true ∧ p.1 ∈ known
  ln : rk.length ≤ known.length
theorem RkI.below {W0 wr wx : World} {F0 I0 Fk Ik : Nat → Prop} {pk mb : Nat} {known : List Atm} {rk : List (Atm × Int)} (h : RkI W0 wr F0 I0 Fk Ik pk mb known rk) (hb : Below wr.heap.size wr wx) : RkI W0 wx F0 I0 Fk Ik pk mb known rk :=
  ⟨h.base.below hb, h.map.below hb, h.f2, h.i2, fun k hk => Nat.lt_of_lt_of_le (h.b k hk) hb.size, h.frm.trans (Frm.any hb), h.nm, h.gr, h.ln⟩
theorem RkI.same {W0 wr wx : World} {F0 I0 Fk Ik F' I' : Nat → Prop} {pk mb : Nat} {known : List Atm} {rk : List (Atm × Int)} (h : RkI W0 wr F0 I0 Fk Ik pk mb known rk) {known' : List Atm} (hk : ∀ a ∈ known, a ∈ known') (hln : known.length ≤ known'.length) (hb : BaseR wx F' I' pk known') (hg : Grw wr wx Fk Ik F' I') : RkI W0 wx F0 I0 F' I' pk mb known' rk := by
  have hml := h.map.lt
  have hsz := h.frm.size
  refine ⟨hb, h.map.keep (hg.frm.block mb hml h.nm.1), fun k hk' => ?_, fun k hk' => ?_, hg.b, h.frm.transM hg.frm fun i hi hF => ?_, ⟨fun e => ?_, fun e => ?_, h.nm.2.2⟩, fun p hp => ⟨(h.gr p hp).1, hk _ (h.gr p hp).2⟩, Nat.le_trans h.ln hln⟩
  · rcases hg.f2 k hk' with e | e
    · exact h.f2 k e
    · exact .inr (by omega)
  · rcases hg.i2 k hk' with e | e
    · exact h.i2 k e
    · exact .inr (by omega)
  · rcases h.f2 i hF with e | e
    · exact .inl e
    · omega
  · rcases hg.f2 mb e with e | e
    · exact h.nm.1 e
    · omega
  · rcases hg.i2 mb e with e | e
    · exact h.nm.2.1 e
    · omega
theorem RkI.put {W0 wr wx : World} {F0 I0 Fk Ik : Nat → Prop} {pk mb : Nat} {known : List Atm} {rk : List (Atm × Int)} (h : RkI W0 wr F0 I0 Fk Ik pk mb known rk) {a : Atm} {n : Int} (ha : groundP a = true) (hk : a ∈ known) (hln : rk.length + 1 ≤ known.length) (hm : MapR wx mb (rkMap (rk ++ [(a, n)]))) (hg : wr.grownBy wx (some mb)) : RkI W0 wx F0 I0 Fk Ik pk mb known (rk ++ [(a, n)]) := by
  have hblk : ∀ k, k < wr.heap.size → k ≠ mb → wx.heap[k]? = wr.heap[k]? := fun k hk hne => hg.block k hk (fun e => hne (by injection e))
  refine ⟨h.base.keep fun k hk hF => hblk k hk ?_, hm, h.f2, h.i2, fun k hk => Nat.lt_of_lt_of_le (h.b k hk) hg.size, h.frm.grown hg (fun k hk _ => by injection hk with hk; exact .inr hk.symm), h.nm, fun p hp => ?_, by rw [List.length_append, List.length_singleton]; exact hln⟩
  · rcases hF with e | e | e
    · exact fun e2 => h.nm.1 (by rw [← e2]; exact e)
    · exact fun e2 => h.nm.2.1 (by rw [← e2]; exact e)
    · rw [e]; exact fun e2 => h.nm.2.2 e2.symm
  · rcases List.mem_append.1 hp with hp | hp
    · exact h.gr p hp
    · rw [List.mem_singleton.1 hp]; exact ⟨ha, hk⟩
end Go.Proofs.YtkjoaodoioicpaaGreatDoor
