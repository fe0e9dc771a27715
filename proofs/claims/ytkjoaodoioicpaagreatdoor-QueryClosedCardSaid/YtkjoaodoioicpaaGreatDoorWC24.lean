/- Query (package licitlaw54): a part of the proofs of its laws; see the law's own text, which comes last in 'order'. No conditions of its own. -/
import Derived.Test.YtkjoaodoioicpaaGreatDoorWC23
set_option linter.unusedVariables false
set_option linter.unusedSimpArgs false
namespace Go.Proofs.YtkjoaodoioicpaaGreatDoor
open Go.RowKit
structure StX (w0 : World) (pf pb kr kb kf kh km : Nat) (A : Option Addr) (n c : Nat) (B : Option Addr) (m d : Nat) (head : Atm) (Fb Ib : Nat → Prop) (Lb : List Atm) (most : Nat) (R : Nat → Prop) (w : World) (sf sh : List Atm) (Ff If Th : Nat → Prop) (Ah : Option Addr) (ch : Nat) : Prop where
  fr : BaseR w Ff If pf sf
  fbd : ∀ k, Ff k ∨ If k → k < w.heap.size
  hb : w.heap[kh]? = some (.cells #[.slice Ah sh.length ch] 23 (0, 0))
  ho : Own w Th w0.heap.size 31 Ah ch sh
  d1 : ∀ k, Ff k → k ≠ kh ∧ Ah.map Addr.block ≠ some k ∧ w0.heap.size ≤ k
  d2 : ∀ k, If k → k ≠ kh ∧ Ah.map Addr.block ≠ some k
  d3 : ∀ k, Th k → k < w.heap.size ∧ k ≠ kh ∧ Ah.map Addr.block ≠ some k ∧ ¬ Ff k ∧ w0.heap.size ≤ k
  d4 : Ah.map Addr.block ≠ some kh ∧ w0.heap.size ≤ kh ∧ pf ≠ kh ∧ Ah.map Addr.block ≠ some pf
  base : BaseR w Fb Ib pb Lb
  b1 : w.heap[kr]? = some (.cells #[.string ⟨head.name.toArray⟩, .slice A n c, .slice B m d] 34 (0, 0))
  b2 : w.heap[kb]? = some (.cells #[.pointer (some ⟨pb, 0, none⟩)] 65 (0, 0))
  b3 : w.heap[kf]? = some (.cells #[.pointer (some ⟨pf, 0, none⟩)] 65 (0, 0))
  b4 : w.heap[km]? = some (.cells #[.int .i64 most] 3 (0, 0))
  sl : Sl w R A n c head.args
  rd : ∀ k, (k = kr ∨ k = kb ∨ k = kf ∨ k = km ∨ R k ∨ Fb k ∨ Ib k ∨ k = pb) → k < w.heap.size ∧ ¬ Ff k ∧ k ≠ kh ∧ Ah.map Addr.block ≠ some k
  bel : Below w0.heap.size w0 w
section
variable {w0 : World} {pf pb kr kb kf kh km : Nat} {A : Option Addr} {n c : Nat} {B : Option Addr} {m d : Nat} {head : Atm} {Fb Ib : Nat → Prop} {Lb : List Atm} {most : Nat} {R : Nat → Prop} {w w' : World} {sf sh : List Atm} {Ff If Th : Nat → Prop} {Ah : Option Addr} {ch : Nat}
theorem StX.below (h : StX w0 pf pb kr kb kf kh km A n c B m d head Fb Ib Lb most R w sf sh Ff If Th Ah ch) (hb : Below w.heap.size w w') : StX w0 pf pb kr kb kf kh km A n c B m d head Fb Ib Lb most R w' sf sh Ff If Th Ah ch where
  fr := h.fr.below hb
  fbd := fun k hk => Nat.lt_of_lt_of_le (h.fbd k hk) hb.size
  hb := keptBlk hb h.hb
  ho := h.ho.below hb
  d1 := h.d1
  d2 := h.d2
  d3 := fun k hk => ⟨Nat.lt_of_lt_of_le (h.d3 k hk).1 hb.size, (h.d3 k hk).2⟩
  d4 := h.d4
  base := h.base.below hb
  b1 := keptBlk hb h.b1
  b2 := keptBlk hb h.b2
  b3 := keptBlk hb h.b3
  b4 := keptBlk hb h.b4
  sl := h.sl.below hb
  rd := fun k hk => ⟨Nat.lt_of_lt_of_le (h.rd k hk).1 hb.size, (h.rd k hk).2⟩
  bel := h.bel.trans (hb.mono h.bel.size)
theorem StX.added (h : StX w0 pf pb kr kb kf kh km A n c B m d head Fb Ib Lb most R w sf sh Ff If Th Ah ch) {F' I' : Nat → Prop} {sf' : List Atm} (hr : BaseR w' F' I' pf sf') (hg : Grw w w' Ff If F' I') : StX w0 pf pb kr kb kf kh km A n c B m d head Fb Ib Lb most R w' sf' sh F' I' Th Ah ch := by
  have hk : ∀ k, (k = kr ∨ k = kb ∨ k = kf ∨ k = km ∨ R k ∨ Fb k ∨ Ib k ∨ k = pb) → w'.heap[k]? = w.heap[k]? := fun k hk => hg.frm.block k (h.rd k hk).1 (h.rd k hk).2.1
  have hkh := (Array.getElem?_eq_some_iff.1 h.hb).1
  have hAl := fun k (e : Ah.map Addr.block = some k) => h.ho.lt k e
  have hs := h.bel.size
  refine ⟨hr, hg.b, (hg.frm.block kh hkh fun e => (h.d1 kh e).1 rfl).trans h.hb, h.ho.keep fun k hk' hT => hg.frm.block k hk' fun e => ?_, fun k hk' => ?_, fun k hk' => ?_, fun k hk' => ⟨Nat.lt_of_lt_of_le (h.d3 k hk').1 hg.frm.size, (h.d3 k hk').2.1, (h.d3 k hk').2.2.1, fun e => ?_, (h.d3 k hk').2.2.2.2⟩, h.d4, h.base.keep fun k _ hk' => hk k (by rcases hk' with e | e | e <;> simp [e]),
    (hk kr (by simp)).trans h.b1, (hk kb (by simp)).trans h.b2, (hk kf (by simp)).trans h.b3, (hk km (by simp)).trans h.b4, h.sl.keep fun k _ hr => hk k (by simp [hr]), fun k hk' => ⟨Nat.lt_of_lt_of_le (h.rd k hk').1 hg.frm.size, fun e => ?_, (h.rd k hk').2.2⟩,
    h.bel.trans (hg.frm.below hs fun i hi hF => by have := (h.d1 i hF).2.2; omega)⟩
  · rcases hT with hT | hT
    · exact (h.d3 k hT).2.2.2.1 e
    · exact (h.d1 k e).2.1 hT
  · rcases hg.f2 k hk' with e | e
    · exact h.d1 k e
    · exact ⟨by omega, fun e2 => by have := (hAl k e2).2; omega, by omega⟩
  · rcases hg.i2 k hk' with e | e
    · exact h.d2 k e
    · exact ⟨by omega, fun e2 => by have := (hAl k e2).2; omega⟩
  · rcases hg.f2 k e with e | e
    · exact (h.d3 k hk').2.2.2.1 e
    · have := (h.d3 k hk').1; omega
  · rcases hg.f2 k e with e | e
    · exact (h.rd k hk').2.1 e
    · have := (h.rd k hk').1; omega
theorem StX.app (h : StX w0 pf pb kr kb kf kh km A n c B m d head Fb Ib Lb most R w sf sh Ff If Th Ah ch) {J : Nat → Prop} (hJ : ∀ k, J k → k < w.heap.size ∧ k ≠ kh ∧ Ah.map Addr.block ≠ some k ∧ ¬ Ff k ∧ w0.heap.size ≤ k) (o : Obj) :
    Own (w.alloc o) (fun k => Th k ∨ J k) w0.heap.size 31 Ah ch sh ∧ (∀ k, J k → (fun k => Th k ∨ J k) k ∧ Ah.map Addr.block ≠ some k) ∧
    ∀ (y : Atm) (w2 : World) A' c', Own w2 (fun k => Th k ∨ J k) w0.heap.size 31 A' c' (sh ++ [y]) → (w.alloc o).grownBy w2 (Ah.map Addr.block) → (A'.map Addr.block = Ah.map Addr.block ∨ A'.map Addr.block = some (w.alloc o).heap.size) →
      StX w0 pf pb kr kb kf kh km A n c B m d head Fb Ib Lb most R (w2.setCell ⟨kh, 0, none⟩ (.slice A' (sh.length + 1) c')) sf (sh ++ [y]) Ff If (fun k => Th k ∨ J k) A' c' := by
  have hkh := (Array.getElem?_eq_some_iff.1 h.hb).1
  have hsz : (w.alloc o).heap.size = w.heap.size + 1 := by simp
  refine ⟨(h.ho.alloc o).wide fun k _ hk => .inl hk, fun k hk => ⟨.inr hk, (hJ k hk).2.2.1⟩, fun y w2 A' c' ho2 hg2 hat => ?_⟩
  have hz2 := hg2.size
  have hall : ∀ k, k < w.heap.size → k ≠ kh → Ah.map Addr.block ≠ some k → (w2.setCell ⟨kh, 0, none⟩ (.slice A' (sh.length + 1) c')).heap[k]? = w.heap[k]? := fun k hk hne hA => by
    rw [set_other _ _ _ _ _ hne, hg2.block k (by omega) (fun e => hA e.symm), Below.heap_alloc w o k hk]
  have hkh2 : w2.heap[kh]? = some (.cells #[.slice Ah sh.length ch] 23 (0, 0)) := by
    rw [hg2.block kh (by omega) (fun e => h.d4.1 e.symm), Below.heap_alloc w o kh hkh]; exact h.hb
  have hA' : ∀ k, k < w.heap.size → Ah.map Addr.block ≠ some k → A'.map Addr.block ≠ some k := fun k hk hA e => by
    rcases hat with hat | hat
    · exact hA (by rw [← hat]; exact e)
    · rw [hat] at e; injection e with e; omega
  have hk : ∀ k, (k = kr ∨ k = kb ∨ k = kf ∨ k = km ∨ R k ∨ Fb k ∨ Ib k ∨ k = pb) → (w2.setCell ⟨kh, 0, none⟩ (.slice A' (sh.length + 1) c')).heap[k]? = w.heap[k]? := fun k hk => hall k (h.rd k hk).1 (h.rd k hk).2.2.1 (h.rd k hk).2.2.2
  have hz3 : (w2.setCell ⟨kh, 0, none⟩ (.slice A' (sh.length + 1) c')).heap.size = w2.heap.size := by simp [World.setCell]
  refine ⟨h.fr.keep fun k hk' hF => ?_, fun k hk' => by have := h.fbd k hk'; omega, ?_, ho2.keep fun k _ hT => set_other _ _ _ _ _ ?_, fun k hk' => ⟨(h.d1 k hk').1, hA' k (h.fbd k (.inl hk')) (h.d1 k hk').2.1, (h.d1 k hk').2.2⟩, fun k hk' => ⟨(h.d2 k hk').1, hA' k (h.fbd k (.inr hk')) (h.d2 k hk').2⟩, fun k hk' => ?_,
    ⟨hA' kh hkh h.d4.1, h.d4.2.1, h.d4.2.2.1, hA' pf h.fr.lt h.d4.2.2.2⟩, h.base.keep fun k _ hk' => hk k (by rcases hk' with e | e | e <;> simp [e]), (hk kr (by simp)).trans h.b1, (hk kb (by simp)).trans h.b2, (hk kf (by simp)).trans h.b3, (hk km (by simp)).trans h.b4, h.sl.keep fun k _ hr => hk k (by simp [hr]),
    fun k hk' => ⟨by have := (h.rd k hk').1; omega, (h.rd k hk').2.1, (h.rd k hk').2.2.1, hA' k (h.rd k hk').1 (h.rd k hk').2.2.2⟩, ?_⟩
  · rcases hF with e | e | e
    · exact hall k hk' (h.d1 k e).1 (h.d1 k e).2.1
    · exact hall k hk' (h.d2 k e).1 (h.d2 k e).2
    · rw [e]; exact hall pf h.fr.lt h.d4.2.2.1 h.d4.2.2.2
  · rw [Blk.set w2 hkh2 0]
    simp
  · rcases hT with (hT | hT) | hT
    · exact (h.d3 k hT).2.1
    · exact (hJ k hT).2.1
    · intro e
      rw [e] at hT
      exact hA' kh hkh h.d4.1 hT
  · rcases hk' with hk' | hk'
    · have := h.d3 k hk'; exact ⟨by omega, this.2.1, hA' k this.1 this.2.2.1, this.2.2.2⟩
    · have := hJ k hk'; exact ⟨by omega, this.2.1, hA' k this.1 this.2.2.1, this.2.2.2⟩
  · have hb1 : Below w0.heap.size w0 (w.alloc o) := h.bel.alloc h.bel.size o
    exact (hb1.grown hg2 hb1.size (fun k hk => (h.ho.lt k hk).1)).setCell (p := ⟨kh, 0, none⟩) h.d4.2.1 _
end
end Go.Proofs.YtkjoaodoioicpaaGreatDoor
namespace Go.Proofs.YtkjoaodoioicpaaGreatDoor
open Go.RowKit
def StS (w0 : World) (pf pb kr kb kf kh km : Nat) (A : Option Addr) (n c : Nat) (B : Option Addr) (m d : Nat) (head : Atm) (Fb Ib : Nat → Prop) (Lb : List Atm) (most : Nat) (R : Nat → Prop) (w : World) (s : List Atm) (G : Nat → Prop) : Prop :=
  ∃ Ff If Th Ah ch, StX w0 pf pb kr kb kf kh km A n c B m d head Fb Ib Lb most R w s s Ff If Th Ah ch ∧ ∀ k, G k ↔ (Ff k ∨ k = kh ∨ Ah.map Addr.block = some k)
set_option maxRecDepth 100000 in
set_option maxHeartbeats 16000000 in
theorem sat1_any (w0 : World) (hL : LD w0) (pf pb kr kb kf kh km : Nat) (A : Option Addr) (n c : Nat) (B : Option Addr) (m d : Nat) (head : Atm) (Fb Ib : Nat → Prop) (Lb : List Atm) (most : Nat) (R : Nat → Prop) (hok : OkT head) (hN : head.args.length ≤ 1000000) (hmost : most ≤ 100000)
    (w : World) (s : List Atm) (G : Nat → Prop) (b : Nat) (v : Bnd) (hst : StS w0 pf pb kr kb kf kh km A n c B m d head Fb Ib Lb most R w s G) (hlv : Lb.length + s.length ≤ most) (hm : MapA w b v) (hnb : ¬ G b) (hg : groundP (atomV v head) = true) :
    Calls Tryz.prog 92 (#[.map (some b)] ++ #[.pointer (some ⟨kr, 0, none⟩), .pointer (some ⟨kb, 0, none⟩), .pointer (some ⟨kf, 0, none⟩), .pointer (some ⟨kh, 0, none⟩), .pointer (some ⟨km, 0, none⟩)]) w fun e w' => e = .returned (.bool (headF Lb most head s v).2) ∧
      ∃ G', StS w0 pf pb kr kb kf kh km A n c B m d head Fb Ib Lb most R w' (headF Lb most head s v).1 G' ∧ (∀ k, G' k → G k ∨ w.heap.size ≤ k) ∧ Frm G w w' := by
  obtain ⟨Ff, If, Th, Ah, ch, hx, hG⟩ := hst
  have hn := hx.sl.len
  subst hn
  have hat := fun w' (hb' : Below w.heap.size w w') => atomQ_any v head b A head.args.length c w' R (hm.below hb') (hx.sl.below hb') hok hN
  have hhas := fun (w' : World) (hb' : Below w.heap.size w w') (A' : Option Addr) (n' c' : Nat) (S' : Nat → Prop) (hs' : Sl w' S' A' n' c' (atomV v head).args) => hasQ_any Fb Ib pb Lb (atomV v head) A' n' c' w' S' (hx.base.below hb') hs' (ground_okT hg).1 (hL.below (hx.bel.trans (hb'.mono hx.bel.size)))
  have had := fun (w' : World) (hb' : Below w.heap.size w w') (A' : Option Addr) (n' c' : Nat) (S' : Nat → Prop) (hs' : Sl w' S' A' n' c' (atomV v head).args) => addQ_any Ff If pf s (atomV v head) A' n' c' w' S' (hx.fr.below hb') (fun k hk => Nat.lt_of_lt_of_le (hx.fbd k hk) hb'.size) hs' hg (hL.below (hx.bel.trans (hb'.mono hx.bel.size))) (by omega)
  obtain ⟨V, hV⟩ : ∃ V, V = headF Lb most head s v := ⟨_, rfl⟩
  rw [← hV]
  unfold headF at hV
  simp only at hV
  generalize atomV v head = y at *
  have HVV := Lib.hid hV; clear hV
  have hGf : ∀ k, Ff k → G k := fun k hk => (hG k).2 (.inl hk)
  have hGh : G kh := (hG kh).2 (.inr (.inl rfl))
  have hGA : ∀ k, Ah.map Addr.block = some k → G k := fun k hk => (hG k).2 (.inr (.inr hk))
  have k0 := (cell_blk hx.b1 0).trans rfl; have k1 := (cell_blk hx.b1 1).trans rfl
  have HAT := Lib.hid (hat w (Below.refl _ _)); have HHAS := Lib.hid hhas; have HAD := Lib.hid had; have HX0 := Lib.hid hx; have HGF := Lib.hid hGf; have HGH := Lib.hid hGh; have HGA := Lib.hid hGA; have HG := Lib.hid hG
  clear hat hhas had hx hG hGf hGh hGA hm hnb hok hN hg hL
  go_enter Tryz.func92, Tryz.ntmps92
  go_wp2_with fail
  refine HAT.out.mono ?_
  rintro e w1 ⟨⟨A1, n1, c1, rfl, hs1⟩, hb1⟩
  obtain rfl : n1 = y.args.length := hs1.len
  have hX1 := HX0.out.below hb1
  have k2 := (cell_blk hX1.b2 0).trans rfl
  have HS1 := Lib.hid hs1; have HB1 := Lib.hid hb1; have HX1 := Lib.hid hX1
  have hs1' := hs1.wide (S' := fun k => w.heap.size ≤ k ∧ k < w1.heap.size) (fun k hk h => ⟨h, hk⟩) (by decide)
  have HS1 := Lib.hid hs1'
  have hkb : kb < w1.heap.size := (Array.getElem?_eq_some_iff.1 HX1.out.b2).1
  clear hs1 hb1 hX1 k0 k1 HAT hs1'
  go_wp2_with fail
  have hb2 : Below w.heap.size w (w1.alloc (.cells #[.string ⟨y.name.toArray⟩, .slice A1 y.args.length c1] 31)) := HB1.out.alloc HB1.out.size _
  have hX2 := HX1.out.below (w' := w1.alloc (.cells #[.string ⟨y.name.toArray⟩, .slice A1 y.args.length c1] 31)) boxed
  have hy2 := blkAt w1 (.cells #[.string ⟨y.name.toArray⟩, .slice A1 y.args.length c1] 31) rfl
  have hs2 := HS1.out.alloc (.cells #[.string ⟨y.name.toArray⟩, .slice A1 y.args.length c1] 31)
  generalize w1.alloc (.cells #[.string ⟨y.name.toArray⟩, .slice A1 y.args.length c1] 31) = W2 at *
  clear k2 hkb
  refine (HHAS.out W2 hb2 _ _ _ _ hs2).mono ?_
  rintro e w3 ⟨rfl, hb3⟩
  have hb3' := hb2.trans (hb3.mono hb2.size)
  have hX3 := hX2.below hb3
  have hy3 := keptBlk hb3 hy2
  have hs3 := hs2.below hb3
  have hw13 : w1.heap.size < w3.heap.size := (Array.getElem?_eq_some_iff.1 hy3).1
  have hww1 := HB1.out.size
  have HX3 := Lib.hid hX3; have HY3 := Lib.hid hy3; have HS3 := Lib.hid hs3; have HB3 := Lib.hid hb3'
  clear hb2 hX2 hy2 hs2 hb3 hb3' hX3 hy3 hs3 HHAS
  have hltb : Lb.length ≤ 100000 := by omega
  have hlts : s.length ≤ 100000 := by omega
  cases hcb : Lb.contains y
  case true =>
    have hv := HVV.out
    rw [hcb, Bool.true_or, if_pos rfl] at hv
    have HV := Lib.hid hv
    clear hcb hv HVV
    go_wp2_with fail
    have hX2 := HX3.out.b2; have hX4 := HX3.out.b4; have hXh := HX3.out.hb
    obtain ⟨fb, fm, q0, -, hmv, hfl⟩ := HX3.out.base.len
    have HX := Lib.hid (fun (z : World) (hz : Below w3.heap.size w3 z) => And.intro ((cell_blk (keptBlk hz hX2) 0).trans rfl) (And.intro ((cell_blk (keptBlk hz hX4) 0).trans rfl) (And.intro ((cell_blk (keptBlk hz hXh) 0).trans rfl) (And.intro (cell_later hz q0) ((hmv.below hz).len Tryz.underlying88 3)))))
    have hfl2 : fm.length ≤ 100000 := by omega
    have hsl2 : (s).length ≤ 100001 := by first | omega | (simp only [List.length_append, List.length_singleton]; omega)
    clear hX2 hX4 hXh q0 hmv
    refine wpH_region (fun z => Below w3.heap.size w3 z) (by kernel_rfl) ?_
    have hS : Below w3.heap.size w3 w3.drew := (Below.refl _ _).drew
    (refine tkW 0 (v := ?_) hS ?_ ?_; rotate_left; (focus (intro x hx; have fx := HX.out x hx; go_simp; (try with_reducible rfl); done)); (try simp only [Act.put, lsa, lsz, lss]))
    (refine tkW 1 (v := ?_) hS ?_ ?_; rotate_left; (focus (intro x hx; have fx := HX.out x hx; go_simp; (try with_reducible rfl); done)); (try simp only [Act.put, lsa, lsz, lss]))
    (refine tkW 2 (v := ?_) hS ?_ ?_; rotate_left; (focus (intro x hx; have fx := HX.out x hx; go_simp; (try with_reducible rfl); done)); (try simp only [Act.put, lsa, lsz, lss]))
    (refine tkW 3 (v := ?_) hS ?_ ?_; rotate_left; (focus (intro x hx; have fx := HX.out x hx; go_simp; (try with_reducible rfl); done)); (try simp only [Act.put, lsa, lsz, lss]))
    (refine tkW 4 (v := ?_) hS ?_ ?_; rotate_left; (focus (intro x hx; have fx := HX.out x hx; go_simp; (try with_reducible rfl); done)); (try simp only [Act.put, lsa, lsz, lss]))
    (refine tkW 5 (v := ?_) hS ?_ ?_; rotate_left; (focus (intro x hx; have fx := HX.out x hx; go_simp; (try with_reducible rfl); done)); (try simp only [Act.put, lsa, lsz, lss]))
    (refine tkW 6 (v := ?_) hS ?_ ?_; rotate_left; (focus (intro x hx; have fx := HX.out x hx; go_simp; (try with_reducible rfl); done)); (try simp only [Act.put, lsa, lsz, lss]))
    (refine tkW 7 (v := ?_) hS ?_ ?_; rotate_left; (focus (intro x hx; have fx := HX.out x hx; go_simp; (try with_reducible rfl); done)); (try simp only [Act.put, lsa, lsz, lss]))
    (refine tkW 8 (v := ?_) hS ?_ ?_; rotate_left; (focus (intro x hx; have fx := HX.out x hx; go_simp; (try with_reducible rfl); done)); (try simp only [Act.put, lsa, lsz, lss]))
    (refine tkW 9 (v := ?_) hS ?_ ?_; rotate_left; (focus (intro x hx; have fx := HX.out x hx; go_simp; (try with_reducible rfl); done)); (try simp only [Act.put, lsa, lsz, lss]))
    (refine tkW 10 (v := ?_) hS ?_ ?_; rotate_left; (focus (intro x hx; have fx := HX.out x hx; go_simp; (try with_reducible rfl); done)); (try simp only [Act.put, lsa, lsz, lss]))
    refine wpAnyH_done (by kernel_rfl) ?_ _
    have HB9 := Lib.hid hS
    clear HX
    go_wp2_with fail
    refine bodyPost_ret (v := .bool (decide (IntKind.i64.wrap ((Lb.length : Int) + (s.length : Int)) ≤ (most : Int)))) (by simp [results, Tryz.results92, go_sem]) rfl ?_
    have hwrap : IntKind.i64.wrap ((Lb.length : Int) + (s.length : Int)) = (Lb.length : Int) + (s.length : Int) := by rw [IntKind.wrap_i64]; omega
    rw [HV.out]
    simp only
    refine ⟨ret_bool (by rw [hwrap, Bool.eq_iff_iff]; simp only [decide_eq_true_eq, List.length_append, List.length_singleton]; omega), _, ⟨_, _, _, _, _, HX3.out.below HB9.out, fun k => Iff.rfl⟩, ?_, ?_⟩
    · exact fun k hk => .inl ((HG.out k).2 hk)
    · exact (Frm.any HB3.out).trans (Frm.any HB9.out)
  case false =>
    have hv := HVV.out
    rw [hcb, Bool.false_or] at hv
    have HVW := Lib.hid hv
    clear hcb hv HVV
    have k3 := (cell_blk HX3.out.b3 0).trans rfl
    have y0 := (cell_blk HY3.out 0).trans rfl; have y1 := (cell_blk HY3.out 1).trans rfl
    go_wp2_with fail
    refine (HAD.out w3 HB3.out _ _ _ _ HS3.out).mono ?_
    rintro e w4 ⟨rfl, F', I', j1, j2⟩
    have hX4 := HX3.out.added j1 j2
    have hgf := HG.out
    have hF' : ∀ k, F' k → G k ∨ w.heap.size ≤ k := fun k hk => (j2.f2 k hk).elim (fun h => .inl (HGF.out k h)) fun h => .inr (by omega)
    have hF2 : ∀ k, F' k → Ff k ∨ w3.heap.size ≤ k := j2.f2
    have hFlt : ∀ k, Ff k → k < w.heap.size := fun k hk => HX0.out.fbd k (.inl hk)
    have hfr4 : Frm G w w4 := (Frm.any HB3.out).trans (j2.frm.mono fun k _ hk => HGF.out k hk)
    have hy4 := (j2.frm.block w1.heap.size hw13 (fun h => by have := hFlt _ h; omega)).trans HY3.out
    have hs4 : Sl w4 (fun k => w.heap.size ≤ k ∧ k < w1.heap.size) A1 y.args.length c1 y.args := HS3.out.keep fun k hk h => j2.frm.block k hk (fun hF => by have := hFlt _ hF; have := h.1; omega)
    have hz4 := j2.frm.size
    have HX4 := Lib.hid hX4; have HF' := Lib.hid hF'; have HF2 := Lib.hid hF2; have HFL := Lib.hid hFlt; have HFR4 := Lib.hid hfr4; have HY4 := Lib.hid hy4; have HS4 := Lib.hid hs4
    clear j1 j2 hX4 hgf hF' hF2 hFlt hfr4 hy4 hs4 k3 y0 y1 HX3 HY3 HS3 HAD
    cases hcs : s.contains y
    case true =>
      have hv := HVW.out
      rw [hcs, if_pos rfl] at hv
      have HV := Lib.hid hv
      clear hv HVW
      have e1 : addQ s y = s := by rw [addQ, hcs]; rfl
      rw [e1] at HX4
      clear hcs e1
      go_wp2_with fail
      have hX2 := HX4.out.b2; have hX4 := HX4.out.b4; have hXh := HX4.out.hb
      obtain ⟨fb, fm, q0, -, hmv, hfl⟩ := HX4.out.base.len
      have HX := Lib.hid (fun (z : World) (hz : Below w4.heap.size w4 z) => And.intro ((cell_blk (keptBlk hz hX2) 0).trans rfl) (And.intro ((cell_blk (keptBlk hz hX4) 0).trans rfl) (And.intro ((cell_blk (keptBlk hz hXh) 0).trans rfl) (And.intro (cell_later hz q0) ((hmv.below hz).len Tryz.underlying88 3)))))
      have hfl2 : fm.length ≤ 100000 := by omega
      have hsl2 : (s).length ≤ 100001 := by first | omega | (simp only [List.length_append, List.length_singleton]; omega)
      clear hX2 hX4 hXh q0 hmv
      refine wpH_region (fun z => Below w4.heap.size w4 z) (by kernel_rfl) ?_
      have hS : Below w4.heap.size w4 w4.drew := (Below.refl _ _).drew
      (refine tkW 0 (v := ?_) hS ?_ ?_; rotate_left; (focus (intro x hx; have fx := HX.out x hx; go_simp; (try with_reducible rfl); done)); (try simp only [Act.put, lsa, lsz, lss]))
      (refine tkW 1 (v := ?_) hS ?_ ?_; rotate_left; (focus (intro x hx; have fx := HX.out x hx; go_simp; (try with_reducible rfl); done)); (try simp only [Act.put, lsa, lsz, lss]))
      (refine tkW 2 (v := ?_) hS ?_ ?_; rotate_left; (focus (intro x hx; have fx := HX.out x hx; go_simp; (try with_reducible rfl); done)); (try simp only [Act.put, lsa, lsz, lss]))
      (refine tkW 3 (v := ?_) hS ?_ ?_; rotate_left; (focus (intro x hx; have fx := HX.out x hx; go_simp; (try with_reducible rfl); done)); (try simp only [Act.put, lsa, lsz, lss]))
      (refine tkW 4 (v := ?_) hS ?_ ?_; rotate_left; (focus (intro x hx; have fx := HX.out x hx; go_simp; (try with_reducible rfl); done)); (try simp only [Act.put, lsa, lsz, lss]))
      (refine tkW 5 (v := ?_) hS ?_ ?_; rotate_left; (focus (intro x hx; have fx := HX.out x hx; go_simp; (try with_reducible rfl); done)); (try simp only [Act.put, lsa, lsz, lss]))
      (refine tkW 6 (v := ?_) hS ?_ ?_; rotate_left; (focus (intro x hx; have fx := HX.out x hx; go_simp; (try with_reducible rfl); done)); (try simp only [Act.put, lsa, lsz, lss]))
      (refine tkW 7 (v := ?_) hS ?_ ?_; rotate_left; (focus (intro x hx; have fx := HX.out x hx; go_simp; (try with_reducible rfl); done)); (try simp only [Act.put, lsa, lsz, lss]))
      (refine tkW 8 (v := ?_) hS ?_ ?_; rotate_left; (focus (intro x hx; have fx := HX.out x hx; go_simp; (try with_reducible rfl); done)); (try simp only [Act.put, lsa, lsz, lss]))
      (refine tkW 9 (v := ?_) hS ?_ ?_; rotate_left; (focus (intro x hx; have fx := HX.out x hx; go_simp; (try with_reducible rfl); done)); (try simp only [Act.put, lsa, lsz, lss]))
      (refine tkW 10 (v := ?_) hS ?_ ?_; rotate_left; (focus (intro x hx; have fx := HX.out x hx; go_simp; (try with_reducible rfl); done)); (try simp only [Act.put, lsa, lsz, lss]))
      refine wpAnyH_done (by kernel_rfl) ?_ _
      have HB9 := Lib.hid hS
      clear HX
      go_wp2_with fail
      refine bodyPost_ret (v := .bool (decide (IntKind.i64.wrap ((Lb.length : Int) + (s.length : Int)) ≤ (most : Int)))) (by simp [results, Tryz.results92, go_sem]) rfl ?_
      have hwrap : IntKind.i64.wrap ((Lb.length : Int) + (s.length : Int)) = (Lb.length : Int) + (s.length : Int) := by rw [IntKind.wrap_i64]; omega
      rw [HV.out]
      simp only
      refine ⟨ret_bool (by rw [hwrap, Bool.eq_iff_iff]; simp only [decide_eq_true_eq, List.length_append, List.length_singleton]; omega), _, ⟨_, _, _, _, _, HX4.out.below HB9.out, fun k => Iff.rfl⟩, ?_, ?_⟩
      · intro k hk
        rcases hk with hk | hk | hk
        · exact HF'.out k hk
        · exact .inl (by rw [hk]; exact HGH.out)
        · exact .inl (HGA.out k hk)
      · exact HFR4.out.trans (Frm.any HB9.out)
    case false =>
      have hv := HVW.out
      rw [hcs, if_neg (by decide)] at hv
      have HV := Lib.hid hv
      clear hv HVW
      have e1 : addQ s y = s ++ [y] := by rw [addQ, hcs]; rfl
      rw [e1] at HX4
      clear hcs e1
      have hkl := (Array.getElem?_eq_some_iff.1 HX0.out.hb).1
      have hAl := HX0.out.ho.lt
      have happ := HX4.out.app (J := fun k => w.heap.size ≤ k ∧ k < w1.heap.size) (fun k hk => ⟨by have := hk.2; omega, fun e => by have := hk.1; omega, fun e => by have := (hAl k e).2; have := hk.1; omega, fun hF => by rcases HF2.out k hF with h | h; have := HFL.out k h; have := hk.1; omega; have := hk.2; omega, by have := HX0.out.bel.size; have := hk.1; omega⟩) (.cells #[.string ⟨y.name.toArray⟩, .slice A1 y.args.length c1] 31)
      have hkh5 : ∀ w5, (w4.alloc (.cells #[.string ⟨y.name.toArray⟩, .slice A1 y.args.length c1] 31)).grownBy w5 (Ah.map Addr.block) → w5.heap[kh]? = some (.cells #[.slice Ah s.length ch] 23 (0, 0)) := fun w5 hg5 => grownBlk hg5 (blkOld HX4.out.hb _) HX4.out.d4.1
      have k4 := (cell_blk HX4.out.hb 0).trans rfl
      have y0 := (cell_blk HY4.out 0).trans rfl; have y1 := (cell_blk HY4.out 1).trans rfl
      have hb0 : w0.heap.size ≤ (w4.alloc (.cells #[.string ⟨y.name.toArray⟩, .slice A1 y.args.length c1] 31)).heap.size := Nat.le_trans HX4.out.bel.size (Nat.le_of_lt (lt_alloc _ _))
      have HAPP := Lib.hid happ; have HKH := Lib.hid hkh5; have HAL := Lib.hid hAl
      clear happ hkh5 hAl
      go_wp2_with (at_builtin; go_loud (refine wpList_app1 rfl _ _ eltAtm rfl (by decide) rfl rfl rfl HAPP.out.1 rfl [.string ⟨y.name.toArray⟩, .slice A1 y.args.length c1] y (blkAt _ _ rfl) rfl ⟨rfl, A1, _, c1, rfl, (HS4.out.alloc _).wide (fun k _ hk => HAPP.out.2.1 k hk) (by decide)⟩ (by omega) (by omega) hb0 ?_); intro A3 c3 w5 hown5 hg5 hat5; have k5 := (cell_blk (HKH.out w5 hg5) 0).trans rfl; have z5 := frz_blk (HKH.out w5 hg5) 0; have hX6 := HAPP.out.2.2 y w5 A3 c3 hown5 hg5 hat5; have hfr6 : Frm G w (w5.setCell ⟨kh, 0, none⟩ (.slice A3 (s.length + 1) c3)) := ((HFR4.out.alloc _).grown hg5 (fun k hk _ => HGA.out k hk)).setCell (p := ⟨kh, 0, none⟩) (fun _ => HGH.out) _; have HX6 := Lib.hid hX6; have HFR6 := Lib.hid hfr6; have HAT5 := Lib.hid hat5; clear hown5 hg5 hat5 hX6 hfr6)
      clear k4 y0 y1 k5 z5
      have hsA : (w4.alloc (.cells #[.string ⟨y.name.toArray⟩, .slice A1 y.args.length c1] 31)).heap.size = w4.heap.size + 1 := by simp
      have hat5 := HAT5.out
      rw [hsA] at hat5
      have HAT6 := Lib.hid hat5
      clear hat5 hsA HAT5 hb0
      generalize w5.setCell ⟨kh, 0, none⟩ (.slice A3 (s.length + 1) c3) = W6 at *
      have hX2 := HX6.out.b2; have hX4 := HX6.out.b4; have hXh := HX6.out.hb
      obtain ⟨fb, fm, q0, -, hmv, hfl⟩ := HX6.out.base.len
      have HX := Lib.hid (fun (z : World) (hz : Below W6.heap.size W6 z) => And.intro ((cell_blk (keptBlk hz hX2) 0).trans rfl) (And.intro ((cell_blk (keptBlk hz hX4) 0).trans rfl) (And.intro ((cell_blk (keptBlk hz hXh) 0).trans rfl) (And.intro (cell_later hz q0) ((hmv.below hz).len Tryz.underlying88 3)))))
      have hfl2 : fm.length ≤ 100000 := by omega
      have hsl2 : (s ++ [y]).length ≤ 100001 := by first | omega | (simp only [List.length_append, List.length_singleton]; omega)
      clear hX2 hX4 hXh q0 hmv
      refine wpH_region (fun z => Below W6.heap.size W6 z) (by kernel_rfl) ?_
      have hS : Below W6.heap.size W6 W6.drew := (Below.refl _ _).drew
      (refine tkW 0 (v := ?_) hS ?_ ?_; rotate_left; (focus (intro x hx; have fx := HX.out x hx; go_simp; (try with_reducible rfl); done)); (try simp only [Act.put, lsa, lsz, lss]))
      (refine tkW 1 (v := ?_) hS ?_ ?_; rotate_left; (focus (intro x hx; have fx := HX.out x hx; go_simp; (try with_reducible rfl); done)); (try simp only [Act.put, lsa, lsz, lss]))
      (refine tkW 2 (v := ?_) hS ?_ ?_; rotate_left; (focus (intro x hx; have fx := HX.out x hx; go_simp; (try with_reducible rfl); done)); (try simp only [Act.put, lsa, lsz, lss]))
      (refine tkW 3 (v := ?_) hS ?_ ?_; rotate_left; (focus (intro x hx; have fx := HX.out x hx; go_simp; (try with_reducible rfl); done)); (try simp only [Act.put, lsa, lsz, lss]))
      (refine tkW 4 (v := ?_) hS ?_ ?_; rotate_left; (focus (intro x hx; have fx := HX.out x hx; go_simp; (try with_reducible rfl); done)); (try simp only [Act.put, lsa, lsz, lss]))
      (refine tkW 5 (v := ?_) hS ?_ ?_; rotate_left; (focus (intro x hx; have fx := HX.out x hx; go_simp; (try with_reducible rfl); done)); (try simp only [Act.put, lsa, lsz, lss]))
      (refine tkW 6 (v := ?_) hS ?_ ?_; rotate_left; (focus (intro x hx; have fx := HX.out x hx; go_simp; (try with_reducible rfl); done)); (try simp only [Act.put, lsa, lsz, lss]))
      (refine tkW 7 (v := ?_) hS ?_ ?_; rotate_left; (focus (intro x hx; have fx := HX.out x hx; go_simp; (try with_reducible rfl); done)); (try simp only [Act.put, lsa, lsz, lss]))
      (refine tkW 8 (v := ?_) hS ?_ ?_; rotate_left; (focus (intro x hx; have fx := HX.out x hx; go_simp; (try with_reducible rfl); done)); (try simp only [Act.put, lsa, lsz, lss]))
      (refine tkW 9 (v := ?_) hS ?_ ?_; rotate_left; (focus (intro x hx; have fx := HX.out x hx; go_simp; (try with_reducible rfl); done)); (try simp only [Act.put, lsa, lsz, lss]))
      (refine tkW 10 (v := ?_) hS ?_ ?_; rotate_left; (focus (intro x hx; have fx := HX.out x hx; go_simp; (try with_reducible rfl); done)); (try simp only [Act.put, lsa, lsz, lss]))
      refine wpAnyH_done (by kernel_rfl) ?_ _
      have HB9 := Lib.hid hS
      clear HX
      go_wp2_with fail
      refine bodyPost_ret (v := .bool (decide (IntKind.i64.wrap ((Lb.length : Int) + ((s.length : Int) + 1)) ≤ (most : Int)))) (by simp [results, Tryz.results92, go_sem]) rfl ?_
      have hwrap : IntKind.i64.wrap ((Lb.length : Int) + ((s.length : Int) + 1)) = (Lb.length : Int) + ((s.length : Int) + 1) := by rw [IntKind.wrap_i64]; omega
      rw [HV.out]
      simp only
      refine ⟨ret_bool (by rw [hwrap, Bool.eq_iff_iff]; simp only [decide_eq_true_eq, List.length_append, List.length_singleton]; omega), _, ⟨_, _, _, _, _, HX6.out.below HB9.out, fun k => Iff.rfl⟩, ?_, ?_⟩
      · intro k hk
        rcases hk with hk | hk | hk
        · exact HF'.out k hk
        · exact .inl (by rw [hk]; exact HGH.out)
        · rcases HAT6.out with h | h
          · exact .inl (HGA.out k (by rw [← h]; exact hk))
          · rw [h] at hk; injection hk with hk; exact .inr (by omega)
      · exact HFR6.out.trans (Frm.any HB9.out)
theorem sat1_ok (w0 : World) (hL : LD w0) (pf pb kr kb kf kh km : Nat) (A : Option Addr) (n c : Nat) (B : Option Addr) (m d : Nat) (head : Atm) (Fb Ib : Nat → Prop) (Lb : List Atm) (most : Nat) (R : Nat → Prop) (hok : OkT head) (hN : head.args.length ≤ 1000000) (hmost : most ≤ 100000) :
    CbOk 92 #[.pointer (some ⟨kr, 0, none⟩), .pointer (some ⟨kb, 0, none⟩), .pointer (some ⟨kf, 0, none⟩), .pointer (some ⟨kh, 0, none⟩), .pointer (some ⟨km, 0, none⟩)] (headF Lb most head) (fun v => groundP (atomV v head) = true) (fun s _ => Lb.length + s.length ≤ most) (StS w0 pf pb kr kb kf kh km A n c B m d head Fb Ib Lb most R) where
  enter := fun _ _ => by kernel_rfl
  keep := fun h hb => by
    obtain ⟨Ff, If, Th, Ah, ch, hx, hG⟩ := h
    exact ⟨Ff, If, Th, Ah, ch, hx.below hb, hG⟩
  ld := fun h => by
    obtain ⟨Ff, If, Th, Ah, ch, hx, hG⟩ := h
    exact hL.below hx.bel
  bd := fun h k hk => by
    obtain ⟨Ff, If, Th, Ah, ch, hx, hG⟩ := h
    rcases (hG k).1 hk with e | e | e
    · exact hx.fbd k (.inl e)
    · rw [e]; exact (Array.getElem?_eq_some_iff.1 hx.hb).1
    · exact (hx.ho.lt k e).2
  lvm := fun _ _ _ _ h => h
  lv := fun s v _ _ h => by
    unfold headF at h ⊢
    simpa using h
  call := fun w s G b v h1 h2 h3 h4 h5 => sat1_any w0 hL pf pb kr kb kf kh km A n c B m d head Fb Ib Lb most R hok hN hmost w s G b v h1 h2 h3 h4 h5
end Go.Proofs.YtkjoaodoioicpaaGreatDoor
