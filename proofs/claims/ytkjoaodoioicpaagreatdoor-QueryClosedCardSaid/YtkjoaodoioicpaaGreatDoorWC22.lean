/- Query (package licitlaw54): a part of the proofs of its laws; see the law's own text, which comes last in 'order'. No conditions of its own. -/
import Derived.Laws.EntriesVeiled
import Derived.Test.YtkjoaodoioicpaaGreatDoorWC21
set_option linter.unusedVariables false
set_option linter.unusedSimpArgs false
namespace Go.Proofs.YtkjoaodoioicpaaGreatDoor
open Go.RowKit
def StO (w0 : World) (po ko kr : Nat) (A : Option Addr) (n c : Nat) (B : Option Addr) (m d : Nat) (head : Atm) (R : Nat → Prop) (w : World) (s : List Atm) (G : Nat → Prop) : Prop :=
  (∃ I, BaseR w G I po s ∧ ∀ k, G k ∨ I k → k < w.heap.size) ∧ Below w0.heap.size w0 w ∧ (∀ k, G k → w0.heap.size ≤ k) ∧ w.heap[ko]? = some (.cells #[.pointer (some ⟨po, 0, none⟩)] 65 (0, 0)) ∧
    w.heap[kr]? = some (.cells #[.string ⟨head.name.toArray⟩, .slice A n c, .slice B m d] 34 (0, 0)) ∧ Sl w R A n c head.args ∧ ∀ k, k = ko ∨ k = kr ∨ R k → k < w.heap.size ∧ ¬ G k
theorem StO.keep {w0 : World} {po ko kr : Nat} {A : Option Addr} {n c : Nat} {B : Option Addr} {m d : Nat} {head : Atm} {R : Nat → Prop} {w w' : World} {s : List Atm} {G : Nat → Prop} (h : StO w0 po ko kr A n c B m d head R w s G) (hb : Below w.heap.size w w') : StO w0 po ko kr A n c B m d head R w' s G := by
  obtain ⟨⟨I, h1, h2⟩, h3, h4, h5, h6, h7, h8⟩ := h
  exact ⟨⟨I, h1.below hb, fun k hk => Nat.lt_of_lt_of_le (h2 k hk) hb.size⟩, h3.trans (hb.mono h3.size), h4, keptBlk hb h5, keptBlk hb h6, h7.below hb, fun k hk => ⟨Nat.lt_of_lt_of_le (h8 k hk).1 hb.size, (h8 k hk).2⟩⟩
set_option maxRecDepth 100000 in
set_option maxHeartbeats 4000000 in
theorem step1 (w0 : World) (hL : LD w0) (po ko kr : Nat) (A : Option Addr) (n c : Nat) (B : Option Addr) (m d : Nat) (head : Atm) (R : Nat → Prop) (hok : OkT head) (hN : head.args.length ≤ 1000000)
    (w : World) (s : List Atm) (G : Nat → Prop) (b : Nat) (v : Bnd) (hst : StO w0 po ko kr A n c B m d head R w s G) (hlv : s.length ≤ 1024) (hm : MapA w b v) (hnb : ¬ G b) (hg : groundP (atomV v head) = true) :
    Calls Tryz.prog 39 (#[.map (some b)] ++ #[.pointer (some ⟨ko, 0, none⟩), .pointer (some ⟨kr, 0, none⟩)]) w fun e w' => e = .returned (.bool (outF head s v).2) ∧ ∃ G', StO w0 po ko kr A n c B m d head R w' (outF head s v).1 G' ∧ (∀ k, G' k → G k ∨ w.heap.size ≤ k) ∧ Frm G w w' := by
  obtain ⟨⟨I, h1, h2⟩, h3, h4, h5, h6, h7, h8⟩ := hst
  have hn := h7.len
  subst hn
  have hat := fun w' (hb' : Below w.heap.size w w') => atomQ_any v head b A head.args.length c w' R (hm.below hb') (h7.below hb') hok hN
  have had := fun (w' : World) (hb' : Below w.heap.size w w') (A' : Option Addr) (n' c' : Nat) (S' : Nat → Prop) (hs' : Sl w' S' A' n' c' (atomV v head).args) => addQ_any G I po s (atomV v head) A' n' c' w' S' (h1.below hb') (fun k hk => Nat.lt_of_lt_of_le (h2 k hk) hb'.size) hs' hg (hL.below (h3.trans (hb'.mono h3.size))) (by omega)
  unfold outF
  simp only
  generalize atomV v head = y at *
  obtain ⟨V, hV⟩ : ∃ V, V = decide ((addQ s y).length ≤ 1024) := ⟨_, rfl⟩
  rw [← hV]
  have HV := Lib.hid hV; clear hV
  have HX := Lib.hid (fun (z : World) (hz : z.heap[ko]? = some (.cells #[.pointer (some ⟨po, 0, none⟩)] 65 (0, 0)) ∧ z.heap[kr]? = some (.cells #[.string ⟨head.name.toArray⟩, .slice A head.args.length c, .slice B m d] 34 (0, 0))) => And.intro ((cell_blk hz.1 0).trans rfl) (And.intro ((cell_blk hz.2 0).trans rfl) ((cell_blk hz.2 1).trans rfl)))
  have HAT := Lib.hid hat; have HAD := Lib.hid had; have H1 := Lib.hid h1; have H2 := Lib.hid h2; have H3 := Lib.hid h3; have H4 := Lib.hid h4; have H5 := Lib.hid h5; have H6 := Lib.hid h6; have H7 := Lib.hid h7; have H8 := Lib.hid h8
  clear hat had h1 h2 h3 h4 h5 h6 h7 h8 hm hnb hok hN hg hL hlv
  go_enter Tryz.func39, Tryz.ntmps39
  go_wp2_with fail
  refine wpH_region (fun z => z.heap[ko]? = some (.cells #[.pointer (some ⟨po, 0, none⟩)] 65 (0, 0)) ∧ z.heap[kr]? = some (.cells #[.string ⟨head.name.toArray⟩, .slice A head.args.length c, .slice B m d] 34 (0, 0))) (by kernel_rfl) ?_
  have hS : w.drew.heap[ko]? = some (.cells #[.pointer (some ⟨po, 0, none⟩)] 65 (0, 0)) ∧ w.drew.heap[kr]? = some (.cells #[.string ⟨head.name.toArray⟩, .slice A head.args.length c, .slice B m d] 34 (0, 0)) := ⟨H5.out, H6.out⟩
  have hB : Below w.heap.size w w.drew := (Below.refl _ _).drew
  (refine tkW 0 (v := ?_) hS ?_ ?_; rotate_left; (focus (intro x hx; have fx := HX.out x hx; go_simp; (try with_reducible rfl); done)); (try simp only [Act.put, lsa, lsz, lss]))
  (refine tkW 1 (v := ?_) hS ?_ ?_; rotate_left; (focus (intro x hx; have fx := HX.out x hx; go_simp; (try with_reducible rfl); done)); (try simp only [Act.put, lsa, lsz, lss]))
  (refine tkW 2 (v := ?_) hS ?_ ?_; rotate_left; (focus (intro x hx; have fx := HX.out x hx; go_simp; (try with_reducible rfl); done)); (try simp only [Act.put, lsa, lsz, lss]))
  (refine tkW 3 (v := ?_) hS ?_ ?_; rotate_left; (focus (intro x hx; have fx := HX.out x hx; go_simp; (try with_reducible rfl); done)); (try simp only [Act.put, lsa, lsz, lss]))
  (refine wpAnyH_one 4 (by kernel_rfl) rfl ?_; intro K' hK'; go_simp; refine (HAT.out _ hB).mono ?_; rintro e w3 ⟨⟨A3, n3, c3, rfl, hs3⟩, hb3⟩; have hS := And.intro (keptBlk hb3 hS.1) (keptBlk hb3 hS.2); have hB := hB.trans (hb3.mono hB.size); refine hK'.out _ _ hS ?_; clear hK' K')
  refine wpAnyH_one 5 (by kernel_rfl) rfl ?_
  intro K' hK'
  go_simp
  refine (HAD.out _ hB _ _ _ _ hs3).mono ?_
  rintro e w4 ⟨rfl, F', I', j1, j2⟩
  have hfr : Frm G w w4 := (Frm.any hB).trans j2.frm
  have hsz : w.heap.size ≤ w3.heap.size := hB.size
  have J1 := Lib.hid j1; have J2 := Lib.hid j2; have HFR := Lib.hid hfr
  refine hK'.out _ _ ⟨(HFR.out.block ko (H8.out ko (.inl rfl)).1 (H8.out ko (.inl rfl)).2).trans H5.out, (HFR.out.block kr (H8.out kr (.inr (.inl rfl))).1 (H8.out kr (.inr (.inl rfl))).2).trans H6.out⟩ ?_
  clear hK' K' j1 j2 hfr hS hB hb3 hs3
  refine wpAnyH_done (by kernel_rfl) ?_ _
  have hko := (HFR.out.block ko (H8.out ko (.inl rfl)).1 (H8.out ko (.inl rfl)).2).trans H5.out
  have hkr := (HFR.out.block kr (H8.out kr (.inr (.inl rfl))).1 (H8.out kr (.inr (.inl rfl))).2).trans H6.out
  have hsl := H7.out.frm HFR.out fun k hk => (H8.out k (.inr (.inr hk))).2
  have hG' : ∀ k, F' k → G k ∨ w.heap.size ≤ k := fun k hk => (J2.out.f2 k hk).elim .inl fun h => .inr (by omega)
  have hfin : StO w0 po ko kr A head.args.length c B m d head R w4 (addQ s y) F' :=
    ⟨⟨I', J1.out, J2.out.b⟩, H3.out.trans (HFR.out.below H3.out.size fun i hi hG => by have := H4.out i hG; omega), fun k hk => (hG' k hk).elim (H4.out k) fun h => by have := H3.out.size; omega, hko, hkr, hsl, fun k hk => ⟨Nat.lt_of_lt_of_le (H8.out k hk).1 HFR.out.size, fun hF => (hG' k hF).elim (H8.out k hk).2 fun h => by have := (H8.out k hk).1; omega⟩⟩
  obtain ⟨fb, fm, q0, -, hmv, hlen⟩ := J1.out.len
  have k0 := (cell_blk hko 0).trans rfl
  have HFIN := Lib.hid hfin; have HG' := Lib.hid hG'; have HMV := Lib.hid hmv
  clear hfin hG' hko hkr hsl hmv H1 H2 H3 H4 H5 H6 H7 H8 J1 J2 HX HAT HAD
  by_cases hle : (addQ s y).length ≤ 1024
  · have hleI : (fm.length : Int) ≤ 1024 := by omega
    obtain rfl : V = true := by rw [HV.out]; simpa using hle
    clear hle hlen HV
    have hlm := HMV.out.len Tryz.underlying88 3
    go_wp2_with fail
    refine bodyPost_ret (v := .bool true) (by simp [results, Tryz.results39, go_sem]) rfl ?_
    exact ⟨rfl, F', HFIN.out, HG'.out, HFR.out⟩
  · have hleI : ¬ (fm.length : Int) ≤ 1024 := by omega
    obtain rfl : V = false := by rw [HV.out]; simpa using hle
    clear hle hlen HV
    have hlm := HMV.out.len Tryz.underlying88 3
    go_wp2_with fail
    refine bodyPost_ret (v := .bool false) (by simp [results, Tryz.results39, go_sem]) rfl ?_
    exact ⟨rfl, F', HFIN.out, HG'.out, HFR.out⟩
theorem step1_ok (w0 : World) (hL : LD w0) (po ko kr : Nat) (A : Option Addr) (n c : Nat) (B : Option Addr) (m d : Nat) (head : Atm) (R : Nat → Prop) (hok : OkT head) (hN : head.args.length ≤ 1000000) :
    CbOk 39 #[.pointer (some ⟨ko, 0, none⟩), .pointer (some ⟨kr, 0, none⟩)] (outF head) (fun v => groundP (atomV v head) = true) (fun s _ => s.length ≤ 1024) (StO w0 po ko kr A n c B m d head R) where
  enter := fun _ _ => by kernel_rfl
  keep := StO.keep
  ld := fun h => hL.below h.2.1
  bd := fun h k hk => by obtain ⟨⟨I, h1, h2⟩, _⟩ := h; exact h2 k (.inl hk)
  lvm := fun _ _ _ _ h => h
  lv := fun s v _ _ h => by simpa [outF] using h
  call := fun w s G b v h1 h2 h3 h4 h5 => step1 w0 hL po ko kr A n c B m d head R hok hN w s G b v h1 h2 h3 h4 h5
set_option maxRecDepth 100000 in
set_option maxHeartbeats 4000000 in
theorem ask1 (w0 : World) (hL : LD w0) (po ko kr : Nat) (A : Option Addr) (n c : Nat) (B : Option Addr) (m d : Nat) (head : Atm) (R : Nat → Prop) (hok : OkT head) (hN : head.args.length ≤ 1000000)
    (w : World) (s : List Atm) (G : Nat → Prop) (b : Nat) (v : Bnd) (hst : StO w0 po ko kr A n c B m d head R w s G) (hlv : s.length ≤ 1024) (hm : MapA w b v) (hnb : ¬ G b) (hg : groundP (atomV v head) = true) :
    Calls Tryz.prog 47 (#[.map (some b)] ++ #[.pointer (some ⟨ko, 0, none⟩), .pointer (some ⟨kr, 0, none⟩)]) w fun e w' => e = .returned (.bool (outF head s v).2) ∧ ∃ G', StO w0 po ko kr A n c B m d head R w' (outF head s v).1 G' ∧ (∀ k, G' k → G k ∨ w.heap.size ≤ k) ∧ Frm G w w' := by
  obtain ⟨⟨I, h1, h2⟩, h3, h4, h5, h6, h7, h8⟩ := hst
  have hn := h7.len
  subst hn
  have hat := fun w' (hb' : Below w.heap.size w w') => atomQ_any v head b A head.args.length c w' R (hm.below hb') (h7.below hb') hok hN
  have had := fun (w' : World) (hb' : Below w.heap.size w w') (A' : Option Addr) (n' c' : Nat) (S' : Nat → Prop) (hs' : Sl w' S' A' n' c' (atomV v head).args) => addQ_any G I po s (atomV v head) A' n' c' w' S' (h1.below hb') (fun k hk => Nat.lt_of_lt_of_le (h2 k hk) hb'.size) hs' hg (hL.below (h3.trans (hb'.mono h3.size))) (by omega)
  unfold outF
  simp only
  generalize atomV v head = y at *
  obtain ⟨V, hV⟩ : ∃ V, V = decide ((addQ s y).length ≤ 1024) := ⟨_, rfl⟩
  rw [← hV]
  have HV := Lib.hid hV; clear hV
  have HX := Lib.hid (fun (z : World) (hz : z.heap[ko]? = some (.cells #[.pointer (some ⟨po, 0, none⟩)] 65 (0, 0)) ∧ z.heap[kr]? = some (.cells #[.string ⟨head.name.toArray⟩, .slice A head.args.length c, .slice B m d] 34 (0, 0))) => And.intro ((cell_blk hz.1 0).trans rfl) (And.intro ((cell_blk hz.2 0).trans rfl) ((cell_blk hz.2 1).trans rfl)))
  have HAT := Lib.hid hat; have HAD := Lib.hid had; have H1 := Lib.hid h1; have H2 := Lib.hid h2; have H3 := Lib.hid h3; have H4 := Lib.hid h4; have H5 := Lib.hid h5; have H6 := Lib.hid h6; have H7 := Lib.hid h7; have H8 := Lib.hid h8
  clear hat had h1 h2 h3 h4 h5 h6 h7 h8 hm hnb hok hN hg hL hlv
  go_enter Tryz.func47, Tryz.ntmps47
  go_wp2_with fail
  refine wpH_region (fun z => z.heap[ko]? = some (.cells #[.pointer (some ⟨po, 0, none⟩)] 65 (0, 0)) ∧ z.heap[kr]? = some (.cells #[.string ⟨head.name.toArray⟩, .slice A head.args.length c, .slice B m d] 34 (0, 0))) (by kernel_rfl) ?_
  have hS : w.drew.heap[ko]? = some (.cells #[.pointer (some ⟨po, 0, none⟩)] 65 (0, 0)) ∧ w.drew.heap[kr]? = some (.cells #[.string ⟨head.name.toArray⟩, .slice A head.args.length c, .slice B m d] 34 (0, 0)) := ⟨H5.out, H6.out⟩
  have hB : Below w.heap.size w w.drew := (Below.refl _ _).drew
  (refine tkW 0 (v := ?_) hS ?_ ?_; rotate_left; (focus (intro x hx; have fx := HX.out x hx; go_simp; (try with_reducible rfl); done)); (try simp only [Act.put, lsa, lsz, lss]))
  (refine tkW 1 (v := ?_) hS ?_ ?_; rotate_left; (focus (intro x hx; have fx := HX.out x hx; go_simp; (try with_reducible rfl); done)); (try simp only [Act.put, lsa, lsz, lss]))
  (refine tkW 2 (v := ?_) hS ?_ ?_; rotate_left; (focus (intro x hx; have fx := HX.out x hx; go_simp; (try with_reducible rfl); done)); (try simp only [Act.put, lsa, lsz, lss]))
  (refine tkW 3 (v := ?_) hS ?_ ?_; rotate_left; (focus (intro x hx; have fx := HX.out x hx; go_simp; (try with_reducible rfl); done)); (try simp only [Act.put, lsa, lsz, lss]))
  (refine wpAnyH_one 4 (by kernel_rfl) rfl ?_; intro K' hK'; go_simp; refine (HAT.out _ hB).mono ?_; rintro e w3 ⟨⟨A3, n3, c3, rfl, hs3⟩, hb3⟩; have hS := And.intro (keptBlk hb3 hS.1) (keptBlk hb3 hS.2); have hB := hB.trans (hb3.mono hB.size); refine hK'.out _ _ hS ?_; clear hK' K')
  refine wpAnyH_one 5 (by kernel_rfl) rfl ?_
  intro K' hK'
  go_simp
  refine (HAD.out _ hB _ _ _ _ hs3).mono ?_
  rintro e w4 ⟨rfl, F', I', j1, j2⟩
  have hfr : Frm G w w4 := (Frm.any hB).trans j2.frm
  have hsz : w.heap.size ≤ w3.heap.size := hB.size
  have J1 := Lib.hid j1; have J2 := Lib.hid j2; have HFR := Lib.hid hfr
  refine hK'.out _ _ ⟨(HFR.out.block ko (H8.out ko (.inl rfl)).1 (H8.out ko (.inl rfl)).2).trans H5.out, (HFR.out.block kr (H8.out kr (.inr (.inl rfl))).1 (H8.out kr (.inr (.inl rfl))).2).trans H6.out⟩ ?_
  clear hK' K' j1 j2 hfr hS hB hb3 hs3
  refine wpAnyH_done (by kernel_rfl) ?_ _
  have hko := (HFR.out.block ko (H8.out ko (.inl rfl)).1 (H8.out ko (.inl rfl)).2).trans H5.out
  have hkr := (HFR.out.block kr (H8.out kr (.inr (.inl rfl))).1 (H8.out kr (.inr (.inl rfl))).2).trans H6.out
  have hsl := H7.out.frm HFR.out fun k hk => (H8.out k (.inr (.inr hk))).2
  have hG' : ∀ k, F' k → G k ∨ w.heap.size ≤ k := fun k hk => (J2.out.f2 k hk).elim .inl fun h => .inr (by omega)
  have hfin : StO w0 po ko kr A head.args.length c B m d head R w4 (addQ s y) F' :=
    ⟨⟨I', J1.out, J2.out.b⟩, H3.out.trans (HFR.out.below H3.out.size fun i hi hG => by have := H4.out i hG; omega), fun k hk => (hG' k hk).elim (H4.out k) fun h => by have := H3.out.size; omega, hko, hkr, hsl, fun k hk => ⟨Nat.lt_of_lt_of_le (H8.out k hk).1 HFR.out.size, fun hF => (hG' k hF).elim (H8.out k hk).2 fun h => by have := (H8.out k hk).1; omega⟩⟩
  obtain ⟨fb, fm, q0, -, hmv, hlen⟩ := J1.out.len
  have k0 := (cell_blk hko 0).trans rfl
  have HFIN := Lib.hid hfin; have HG' := Lib.hid hG'; have HMV := Lib.hid hmv
  clear hfin hG' hko hkr hsl hmv H1 H2 H3 H4 H5 H6 H7 H8 J1 J2 HX HAT HAD
  by_cases hle : (addQ s y).length ≤ 1024
  · have hleI : (fm.length : Int) ≤ 1024 := by omega
    obtain rfl : V = true := by rw [HV.out]; simpa using hle
    clear hle hlen HV
    have hlm := HMV.out.len Tryz.underlying88 3
    go_wp2_with fail
    refine bodyPost_ret (v := .bool true) (by simp [results, Tryz.results47, go_sem]) rfl ?_
    exact ⟨rfl, F', HFIN.out, HG'.out, HFR.out⟩
  · have hleI : ¬ (fm.length : Int) ≤ 1024 := by omega
    obtain rfl : V = false := by rw [HV.out]; simpa using hle
    clear hle hlen HV
    have hlm := HMV.out.len Tryz.underlying88 3
    go_wp2_with fail
    refine bodyPost_ret (v := .bool false) (by simp [results, Tryz.results47, go_sem]) rfl ?_
    exact ⟨rfl, F', HFIN.out, HG'.out, HFR.out⟩
theorem ask1_ok (w0 : World) (hL : LD w0) (po ko kr : Nat) (A : Option Addr) (n c : Nat) (B : Option Addr) (m d : Nat) (head : Atm) (R : Nat → Prop) (hok : OkT head) (hN : head.args.length ≤ 1000000) :
    CbOk 47 #[.pointer (some ⟨ko, 0, none⟩), .pointer (some ⟨kr, 0, none⟩)] (outF head) (fun v => groundP (atomV v head) = true) (fun s _ => s.length ≤ 1024) (StO w0 po ko kr A n c B m d head R) where
  enter := fun _ _ => by kernel_rfl
  keep := StO.keep
  ld := fun h => hL.below h.2.1
  bd := fun h k hk => by obtain ⟨⟨I, h1, h2⟩, _⟩ := h; exact h2 k (.inl hk)
  lvm := fun _ _ _ _ h => h
  lv := fun s v _ _ h => by simpa [outF] using h
  call := fun w s G b v h1 h2 h3 h4 h5 => ask1 w0 hL po ko kr A n c B m d head R hok hN w s G b v h1 h2 h3 h4 h5
end Go.Proofs.YtkjoaodoioicpaaGreatDoor
namespace Go.Proofs.YtkjoaodoioicpaaGreatDoor
open Go.RowKit
theorem ltlS_ok {x : Ltl} (h : ltlS x = true) : OkL x ∧ x.atom.args.length ≤ 6 ∧ (x.op.isEmpty = false → x.atom.args.length = 2) ∧ Kinds x.atom.args := by
  unfold ltlS at h
  cases hc : compsS x
  · rw [hc] at h
    simp only [Bool.not_false, if_true] at h
    obtain ⟨h1, h2, h3⟩ := atomS_okT h
    have ho : x.op.isEmpty = true := by
      unfold compsS at hc
      simpa using hc
    refine ⟨⟨?_, h1⟩, h2, fun h => (by rw [ho] at h; cases h), h3⟩
    rw [List.isEmpty_iff.1 ho]; simp
  · rw [hc] at h
    simp only [Bool.not_true, Bool.false_eq_true, if_false, Bool.and_eq_true, beq_iff_eq] at h
    obtain ⟨⟨⟨⟨h1, h2⟩, h3⟩, h4⟩, h5⟩ := h
    unfold argsS at h5
    rw [List.all_eq_true] at h5
    have h1' : x.op ∈ opsL := by simpa using h1
    refine ⟨⟨?_, ?_, fun y hy => (formedS_ok (h5 y hy)).1⟩, by omega, fun _ => h4, fun y hy => (formedS_ok (h5 y hy)).2⟩
    · simp only [opsL, List.mem_cons, List.not_mem_nil, or_false] at h1'
      rcases h1' with h | h | h | h <;> rw [h] <;> decide
    · rw [List.isEmpty_iff.1 h3]; simp
theorem ruleS_ok {r : Rul} (h : ruleS r = true) : OkR r ∧ BodyOk r.body ∧ (∀ x ∈ r.body, Kinds x.atom.args) ∧ r.head.args.length ≤ 6 ∧ atomS r.head = true := by
  unfold ruleS at h
  simp only [Bool.and_eq_true, List.all_eq_true] at h
  obtain ⟨⟨⟨h1, h2⟩, h3⟩, h4⟩ := h
  obtain ⟨a1, a2, a3⟩ := atomS_okT h1
  exact ⟨⟨a1, fun l hl => (ltlS_ok (h3 l hl)).1⟩, fun x hx => by
    obtain ⟨b1, b2, b3, b4⟩ := ltlS_ok (h3 x hx)
    exact ⟨b1, by omega, b3⟩, fun x hx => (ltlS_ok (h3 x hx)).2.2.2, a2, h1⟩
theorem heads_ground {r : Rul} (hr : RuleOk r) {b nb : List Atm} (hb : Gr b) : ∀ u ∈ eachQ r.body b nb, groundP (atomV u r.head) = true := fun u hu => by
  obtain ⟨h1, h2, h3⟩ := each_sound hr.1 hb hu
  exact atomV_ground h2 hr.2 h3
theorem readyS_zero {r : Rul} {model : List Atm} (h : readyS r model = 0) : model.length ≤ 2048 ∧ Gr model := by
  unfold readyS at h
  simp only at h
  split at h
  · cases h
  · rename_i hn
    refine ⟨Nat.le_of_not_lt fun hl => hn (.inr (.inl hl)), fun a ha => ?_⟩
    cases hg : groundP a
    · exfalso
      apply hn
      refine .inr (.inr ?_)
      rw [List.any_eq_true]
      exact ⟨a, ha, by rw [hg]; rfl⟩
    · rfl
set_option maxRecDepth 100000 in
set_option maxHeartbeats 8000000 in
theorem StepQ_any (r : Rul) (model : List Atm) (A1 : Option Addr) (n1 c1 : Nat) (A2 : Option Addr) (n2 c2 : Nat) (A : Option Addr) (n c : Nat) (w : World) (S T : Nat → Prop) (h1 : Sl w S A1 n1 c1 r.head.args) (h2 : Sl w S A2 n2 c2 r.body) (hm : Sl w T A n c model) (ho : OkR r) (hom : ∀ a ∈ model, OkT a) (hL : LD w)
    (hr : readyS r model = 0 → ruleS r = true ∧ safeS r = true) :
    Calls Tryz.prog 17 #[.agg #[.string ⟨r.head.name.toArray⟩, .slice A1 n1 c1, .slice A2 n2 c2], .slice A n c] w fun e w' => ∃ A' n' c', e = .returned (.tuple #[.slice A' n' c', .int .i64 (stepS r model).2]) ∧ Sl w' (fun k => w.heap.size ≤ k) A' n' c' (stepS r model).1 ∧ Below w.heap.size w w' := by
  obtain ⟨V, hV⟩ : ∃ V, V = stepS r model := ⟨_, rfl⟩
  rw [← hV]
  unfold stepS at hV
  have hb1 : Below w.heap.size w (w.alloc (.cells #[.string ⟨r.head.name.toArray⟩, .slice A1 n1 c1, .slice A2 n2 c2] 34)) := boxed
  have hx1 := blkAt w (.cells #[.string ⟨r.head.name.toArray⟩, .slice A1 n1 c1, .slice A2 n2 c2] 34) rfl
  have hrd := readyQ_any r model A1 n1 c1 A2 n2 c2 A n c _ S T (h1.below hb1) (h2.below hb1) (hm.below hb1) ho hom (hL.below hb1)
  by_cases he : readyS r model = 0
  · rw [if_neg (by rw [he]; decide)] at hV
    rw [he] at hrd
    obtain ⟨hlen, hgr⟩ := readyS_zero he
    obtain ⟨hr1, hr2⟩ := hr he
    obtain ⟨hok, hbo, hkd, hh6, hhd⟩ := ruleS_ok hr1
    have hrok : RuleOk r := ⟨safe_safe hr2, hhd⟩
    have hgg := gr_given hgr
    have hpr := heads_ground hrok (nb := givenS model) hgg
    have hgv := fun w' (hb' : Below w.heap.size w w') => givenQ_any A n c model w' T (hm.below hb') hgr (by omega) (hL.below hb')
    have HRD := Lib.hid hrd; have HGV := Lib.hid hgv; have HV := Lib.hid hV; have HB1 := Lib.hid hb1; have HX1 := Lib.hid hx1; have HBO := Lib.hid hbo; have HKD := Lib.hid hkd; have HPR := Lib.hid hpr; have HH1 := Lib.hid h1; have HH2 := Lib.hid h2; have HL := Lib.hid hL; have HOK := Lib.hid hok
    clear hrd hgv hV hb1 hx1 hbo hkd hpr h1 h2 hL hok hm ho hom hr he hlen hgr hr1 hr2 hhd hrok hgg
    go_enter Tryz.func17, Tryz.ntmps17
    go_wp2_with fail
    refine HRD.out.mono ?_
    rintro e w2 ⟨rfl, hb2⟩
    have hb2' := HB1.out.trans (hb2.mono HB1.out.size)
    have hx2 := keptBlk hb2 HX1.out
    have HB2 := Lib.hid hb2'; have HX2 := Lib.hid hx2; clear hb2 hb2' hx2 HB1 HX1 HRD
    go_wp2_with fail
    refine (HGV.out w2 HB2.out).mono ?_
    rintro e w3 ⟨p, F, I, rfl, hbr, hbd, hp, hb3⟩
    have hb3' := HB2.out.trans (hb3.mono HB2.out.size)
    have HB3 := Lib.hid hb3'; have HX3 := Lib.hid (keptBlk hb3 HX2.out); have HBR := Lib.hid hbr; have HBD := Lib.hid hbd
    clear hb3 hb3' hbr hbd HX2 HGV
    go_wp2_with fail
    refine (emptyQ_any w3 (fun _ => False) (fun _ h => h.elim)).mono ?_
    rintro e w4 ⟨rfl, hbe, hb4⟩
    have hb4' := HB3.out.trans (hb4.mono HB3.out.size)
    have HB4 := Lib.hid hb4'; have HX4 := Lib.hid (keptBlk hb4 HX3.out); have HBR4 := Lib.hid (HBR.out.below hb4); have HBE := Lib.hid hbe; have hw3s : w.heap.size < w3.heap.size := (Array.getElem?_eq_some_iff.1 HX3.out).1
    clear hb4 hb4' hbe HX3
    have k2 := (cell_blk HX4.out 2).trans rfl
    have hwl : w.heap.size < w4.heap.size := (Array.getElem?_eq_some_iff.1 HX4.out).1
    go_wp2_with fail
    clear k2
    have hb5 : Below w.heap.size w (w4.alloc (.cells #[.pointer (some ⟨w3.heap.size + 2, 0, none⟩)] 65)) := HB4.out.alloc HB4.out.size _
    have hx5 := blkOld HX4.out (.cells #[.pointer (some ⟨w3.heap.size + 2, 0, none⟩)] 65)
    have hko := blkAt w4 (.cells #[.pointer (some ⟨w3.heap.size + 2, 0, none⟩)] 65) rfl
    have hbr5 := HBR4.out.alloc (.cells #[.pointer (some ⟨w3.heap.size + 2, 0, none⟩)] 65)
    have hbe5 := HBE.out.alloc (.cells #[.pointer (some ⟨w3.heap.size + 2, 0, none⟩)] 65)
    have hs5 : w4.heap.size < (w4.alloc (.cells #[.pointer (some ⟨w3.heap.size + 2, 0, none⟩)] 65)).heap.size := lt_alloc _ _
    generalize w4.alloc (.cells #[.pointer (some ⟨w3.heap.size + 2, 0, none⟩)] 65) = W5 at *
    have hn1 := HH1.out.len
    have hpe := HBE.out.lt
    have hpl := HBR.out.lt
    have hw3 := HB3.out.size
    have htwo : ∀ k, twoB w3.heap.size k → w3.heap.size ≤ k ∧ k < w3.heap.size + 2 := fun k hk => by rcases hk with h | h <;> omega
    have hst : StO w (w3.heap.size + 2) w4.heap.size w.heap.size A1 n1 c1 A2 n2 c2 r.head (fun k => S k ∧ k < w.heap.size) W5 [] (twoB w3.heap.size) :=
      ⟨⟨_, hbe5, fun k hk => by rcases hk with hk | hk; have := htwo k hk; omega; exact hk.elim⟩, hb5, fun k hk => by have := htwo k hk; omega, hko, hx5, (HH1.out.wide (S' := fun k => S k ∧ k < w.heap.size) (fun k hk h => ⟨h, hk⟩) (by decide)).below hb5, fun k hk => by
        rcases hk with hk | hk | hk
        · exact ⟨by omega, fun h => by have := htwo k h; omega⟩
        · exact ⟨by omega, fun h => by have := htwo k h; omega⟩
        · exact ⟨by have := hk.2; omega, fun h => by have := htwo k h; have := hk.2; omega⟩⟩
    have hea := eachQ_any (step1_ok w HL.out (w3.heap.size + 2) w4.heap.size w.heap.size A1 n1 c1 A2 n2 c2 r.head (fun k => S k ∧ k < w.heap.size) HOK.out.1 (by omega)) (R := fun k => (S k ∧ k < w.heap.size) ∨ F k ∨ I k ∨ k = p) (A := A2) (n := n2) (c := c2) (ps := p) (pa := p) (Fs := F) (Is := I) (Fa := F) (Ia := I) HBO.out HKD.out W5 [] (twoB w3.heap.size)
      (((HH2.out.wide (S' := fun k => S k ∧ k < w.heap.size) (fun k hk h => ⟨h, hk⟩) (by decide)).below hb5).wide (fun k _ h => .inl h) (by decide)) hbr5 hbr5 hst (by simp) (fun k hk => by
        rcases hk with h | h | h | h | h | h
        · exact .inr (.inl h)
        · exact .inr (.inr (.inl h))
        · exact .inr (.inr (.inr h))
        · exact .inr (.inl h)
        · exact .inr (.inr (.inl h))
        · exact .inr (.inr (.inr h))) (fun k hk => by
        rcases hk with h | h | h | h
        · exact ⟨by have := h.2; omega, fun h' => by have := htwo k h'; have := h.2; omega⟩
        · have := HBD.out k (.inl h); exact ⟨by omega, fun h' => by have := htwo k h'; omega⟩
        · have := HBD.out k (.inr h); exact ⟨by omega, fun h' => by have := htwo k h'; omega⟩
        · exact ⟨by omega, fun h' => by have := htwo k h'; omega⟩) HPR.out
    have hout : (iterF (outF r.head) (eachQ r.body (givenS model) (givenS model)) []).1 = outS r model := rfl
    rw [hout] at hea
    have HEA := Lib.hid hea; have HB5 := Lib.hid hb5; have HTW := Lib.hid htwo
    clear hst hea hout hbr5 hbe5 hko hx5 hb5 htwo HBR HBD HBR4 HBE HX4 HB4 HB3 HBO HKD HPR HH1 HH2
    generalize outS r model = out at *
    refine HEA.out.mono ?_
    rintro e w6 ⟨rfl, G', hs6, hg6, hf6⟩
    have hb6 : Below w.heap.size w w6 := HB5.out.trans (hf6.below (by have := HB5.out.size; omega) fun k hk h => by have := HTW.out k h; omega)
    obtain ⟨⟨I6, hbr6, hbd6⟩, -, hg6', hko6, -, -, -⟩ := hs6
    obtain ⟨fb, fm, q0, -, hmv, hfl⟩ := hbr6.len
    have k0 := (cell_blk hko6 0).trans rfl
    have hlm := hmv.len Tryz.underlying88 3
    have hso := fun hN => sortedQ_any G' I6 (w3.heap.size + 2) out w6 hbr6 hN
    have HV2 := HV; have HB6 := Lib.hid hb6; have HSO := Lib.hid hso
    clear hb6 hso hbr6 hbd6 hg6' hko6 hmv hg6 hf6 HEA
    by_cases hl : 1024 < out.length
    · have hlI : (1024 : Int) < (fm.length : Int) := by omega
      have hv := HV.out
      rw [if_pos hl] at hv
      have HD := Lib.hid hv; clear hv hl hfl HV HV2
      go_wp2_with fail
      refine bodyPost_ret (v := .tuple #[.slice none 0 0, .int .i64 10]) (by simp [results, Tryz.results17, go_sem]) rfl ?_
      rw [HD.out]
      exact ⟨none, 0, 0, rfl, Sl.nil _ _ _ _ (by decide), HB6.out⟩
    · have hlI : ¬ (1024 : Int) < (fm.length : Int) := by omega
      have hv := HV.out
      rw [if_neg hl] at hv
      have hso2 := HSO.out (by omega)
      have HD := Lib.hid hv; have HSO2 := Lib.hid hso2; clear hv hl hfl HV HV2 hso2
      go_wp2_with fail
      refine HSO2.out.mono ?_
      rintro e w7 ⟨A7, n7, c7, rfl, hs7, hb7⟩
      have HS7 := Lib.hid hs7; have HB7 := Lib.hid (HB6.out.trans (hb7.mono HB6.out.size)); clear hs7 hb7
      go_wp2_with fail
      refine bodyPost_ret (v := .tuple #[.slice A7 n7 c7, .int .i64 0]) (by simp [results, Tryz.results17, go_sem]) rfl ?_
      rw [HD.out]
      exact ⟨A7, n7, c7, rfl, HS7.out.wide (fun k _ hk => Nat.le_trans HB6.out.size hk) (by decide), HB7.out⟩
  · rw [if_pos he] at hV
    have hne : (readyS r model == 0) = false := by simpa using he
    generalize readyS r model = E at *
    have HRD := Lib.hid hrd; have HD := Lib.hid hV; have HB1 := Lib.hid hb1
    clear hrd hV hb1 hx1 h1 h2 hL hm ho hom hr he
    go_enter Tryz.func17, Tryz.ntmps17
    go_wp2_with fail
    refine HRD.out.mono ?_
    rintro e w2 ⟨rfl, hb2⟩
    have hb2' := HB1.out.trans (hb2.mono HB1.out.size)
    have HB2 := Lib.hid hb2'; clear hb2 hb2'
    go_wp2_with fail
    refine bodyPost_ret (v := .tuple #[.slice none 0 0, .int .i64 E]) (by simp [results, Tryz.results17, go_sem]) rfl ?_
    rw [HD.out]
    exact ⟨none, 0, 0, rfl, Sl.nil _ _ _ _ (by decide), HB2.out⟩
end Go.Proofs.YtkjoaodoioicpaaGreatDoor
