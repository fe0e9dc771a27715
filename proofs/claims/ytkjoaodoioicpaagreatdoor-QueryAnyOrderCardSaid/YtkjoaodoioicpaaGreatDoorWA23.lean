/- Query (package licitlaw54): a part of the proofs of its laws; see the law's own text, which comes last in 'order'. No conditions of its own. -/
import Derived.Laws.EntriesVeiled
import Derived.Test.YtkjoaodoioicpaaGreatDoorWA13
import Derived.Test.YtkjoaodoioicpaaGreatDoorWA22
set_option linter.unusedVariables false
set_option linter.unusedSimpArgs false
namespace Go.Proofs.YtkjoaodoioicpaaGreatDoor
open Go.RowKit
theorem groundS_P (a : Atm) : groundS a = groundP a := by
  unfold groundS groundP
  rfl
theorem slRul1 {w : World} {S : Nat → Prop} {b : Nat} {r : Rul} {A : Option Addr} {n c : Nat} {B : Option Addr} {m d : Nat} (hb : w.heap[b]? = some (.cells #[.string ⟨r.head.name.toArray⟩, .slice A n c, .slice B m d] 34 (0, 0))) (h1 : Sl w S A n c r.head.args) (h2 : Sl w S B m d r.body) :
    Sl w (fun k => S k ∨ k = b) (some ⟨b, 0, none⟩) 1 1 [r] := by
  refine ⟨rfl, Nat.le_refl _, by decide, fun i hi => ?_⟩
  have hi : i < 1 := hi
  have h0 : i = 0 := by omega
  subst h0
  refine ⟨_, rfl, .inr rfl, fun j => (#[.string ⟨r.head.name.toArray⟩, .slice A n c, .slice B m d] : Array Value).getD j undef, fun j hj => ?_, rfl, ⟨A, n, c, rfl, h1.wide (fun _ _ h => .inl h) (by decide)⟩, B, m, d, rfl, h2.wide (fun _ _ h => .inl h) (by decide)⟩
  have hj : j < 3 := hj
  rw [add_plain, cell_blk hb]
  match j, hj with
  | 0, _ => rfl
  | 1, _ => rfl
  | 2, _ => rfl
theorem ready1_any (x : Atm) (A : Option Addr) (n c : Nat) (w : World) (S : Nat → Prop) (hs : Sl w S A n c x.args) (ho : OkT x) :
    Calls Tryz.prog 74 (#[.agg #[.string ⟨x.name.toArray⟩, .slice A n c]] ++ #[]) w fun e w' => e = .returned (.bool (!groundP x)) ∧ Below w.heap.size w w' := by
  have hg := Ground_any x A n c _ S (hs.alloc (.cells #[.string ⟨x.name.toArray⟩, .slice A n c] 31)) ho
  rw [groundS_P] at hg
  generalize groundP x = g at *
  have HG := Lib.hid hg; clear hg hs ho
  go_enter Tryz.func74, Tryz.ntmps74
  go_wp2_with fail
  refine HG.out.mono ?_
  rintro e w1 ⟨rfl, hb1⟩
  go_wp2_with fail
  go_ret
  exact ⟨rfl, boxed.trans (hb1.mono (by simp))⟩
set_option maxHeartbeats 4000000 in
theorem readyQ_any (r : Rul) (model : List Atm) (A1 : Option Addr) (n1 c1 : Nat) (A2 : Option Addr) (n2 c2 : Nat) (A : Option Addr) (n c : Nat) (w : World) (S T : Nat → Prop) (h1 : Sl w S A1 n1 c1 r.head.args) (h2 : Sl w S A2 n2 c2 r.body) (hm : Sl w T A n c model) (ho : OkR r) (hom : ∀ a ∈ model, OkT a) (hL : LD w) :
    Calls Tryz.prog 35 #[.agg #[.string ⟨r.head.name.toArray⟩, .slice A1 n1 c1, .slice A2 n2 c2], .slice A n c] w fun e w' => e = .returned (.int .i64 (readyS r model)) ∧ Below w.heap.size w w' := by
  have hn := hm.len
  subst hn
  have hle := hm.le
  obtain ⟨V, hV⟩ : ∃ V, V = readyS r model := ⟨_, rfl⟩
  rw [← hV]
  unfold readyS at hV
  have hB : ∀ W : World, W = (w.alloc (.cells #[.string ⟨r.head.name.toArray⟩, .slice A1 n1 c1, .slice A2 n2 c2] 34)).alloc (.cells #[.string ⟨r.head.name.toArray⟩, .slice A1 n1 c1, .slice A2 n2 c2] 34) → Below w.heap.size w W ∧ Sl W (fun k => S k ∨ k = w.heap.size + 1) (some ⟨w.heap.size + 1, 0, none⟩) 1 1 [r] := by
    rintro W rfl
    have hb : Below w.heap.size w ((w.alloc (.cells #[.string ⟨r.head.name.toArray⟩, .slice A1 n1 c1, .slice A2 n2 c2] 34)).alloc (.cells #[.string ⟨r.head.name.toArray⟩, .slice A1 n1 c1, .slice A2 n2 c2] 34)) := belowA boxed _
    exact ⟨hb, slRul1 (blkAt _ _ (by simp)) (h1.below hb) (h2.below hb)⟩
  obtain ⟨hb0, hs0⟩ := hB _ rfl
  have hck := Check_any (some ⟨w.heap.size + 1, 0, none⟩) 1 1 [r] _ _ hs0 (fun x hx => by rw [List.mem_singleton.1 hx]; exact ho) (hL.below hb0)
  have hcon := fun w' (hb' : Below w.heap.size w w') => conT_any A model.length c w' T model (hm.below hb') 74 #[] (fun _ _ => by kernel_rfl) (fun a => !groundP a) (fun x hx w1 hb1 v hv => by
    obtain ⟨A1, n1, c1, rfl, hs⟩ := hv
    exact ready1_any x A1 n1 c1 w1 _ hs (hom x hx))
  generalize checkS53 [r] = ck at *
  obtain ⟨ci, ce⟩ := ck
  simp only at hV hck
  generalize (model.any fun a => !groundP a) = an at *
  have HCK := Lib.hid hck; have HCON := Lib.hid hcon; have HV := Lib.hid hV; have HB0 := Lib.hid hb0
  clear hck hcon hV hB hb0 hs0 h1 h2 hm ho hom hL
  go_enter Tryz.func35, Tryz.ntmps35
  go_wp2_with fail
  refine HCK.out.mono ?_
  rintro e w1 ⟨rfl, hb1⟩
  have HB1 := Lib.hid (HB0.out.trans (hb1.mono HB0.out.size)); clear hb1
  by_cases he : ce = 1
  · have hv := HV.out
    rw [if_pos (.inl he)] at hv
    have HD := Lib.hid hv; clear hv HV
    subst he
    go_wp2_with fail
    go_ret
    exact ⟨ret_int HD.out, HB1.out⟩
  · have heb : (ce == 1) = false := by simpa using he
    by_cases hl : 2048 < model.length
    · have hlI : (2048 : Int) < (model.length : Int) := by omega
      have hv := HV.out
      rw [if_pos (.inr (.inl hl))] at hv
      have HD := Lib.hid hv; clear hv HV he hl
      go_wp2_with fail
      go_ret
      exact ⟨ret_int HD.out, HB1.out⟩
    · have hlI : ¬ (2048 : Int) < (model.length : Int) := by omega
      have hv := HV.out
      have HE := Lib.hid he
      clear he HV
      go_wp2_with fail
      refine (HCON.out _ HB1.out).mono ?_
      rintro e w2 ⟨rfl, hb2⟩
      have HB2 := Lib.hid (HB1.out.trans (hb2.mono HB1.out.size)); clear hb2
      cases an
      · rw [if_neg (fun h => by rcases h with h | h | h; exact HE.out h; exact hl h; cases h)] at hv
        by_cases he8 : ce = 8
        · rw [if_pos he8] at hv
          have HD := Lib.hid hv; clear hv
          subst he8
          go_wp2_with fail
          go_ret
          exact ⟨ret_int HD.out, HB2.out⟩
        · rw [if_neg he8] at hv
          have HD := Lib.hid hv; clear hv
          have he8b : (ce == 8) = false := by simpa using he8
          go_wp2_with fail
          go_ret
          exact ⟨ret_int HD.out, HB2.out⟩
      · rw [if_pos (.inr (.inr rfl))] at hv
        have HD := Lib.hid hv; clear hv
        go_wp2_with fail
        go_ret
        exact ⟨ret_int HD.out, HB2.out⟩
end Go.Proofs.YtkjoaodoioicpaaGreatDoor
namespace Go.Proofs.YtkjoaodoioicpaaGreatDoor
open Go.RowKit
def StO (w0 : World) (po ko kr : Nat) (A : Option Addr) (n c : Nat) (B : Option Addr) (m d : Nat) (head : Atm) (R : Nat → Prop) (w : World) (s : List Atm) (G : Nat → Prop) : Prop :=
  (∃ I, BaseR w G I po s ∧ ∀ k, G k ∨ I k → k < w.heap.size) ∧ Below w0.heap.size w0 w ∧ (∀ k, G k → w0.heap.size ≤ k) ∧ w.heap[ko]? = some (.cells #[.pointer (some ⟨po, 0, none⟩)] 65 (0, 0)) ∧
    w.heap[kr]? = some (.cells #[.string ⟨head.name.toArray⟩, .slice A n c, .slice B m d] 34 (0, 0)) ∧ Sl w R A n c head.args ∧ ∀ k, k = ko ∨ k = kr ∨ R k → k < w.heap.size ∧ ¬ G k
theorem StO.keep {w0 : World} {po ko kr : Nat} {A : Option Addr} {n c : Nat} {B : Option Addr} {m d : Nat} {head : Atm} {R : Nat → Prop} {w w' : World} {s : List Atm} {G : Nat → Prop} (h : StO w0 po ko kr A n c B m d head R w s G) (hb : Below w.heap.size w w') : StO w0 po ko kr A n c B m d head R w' s G := by
  obtain ⟨⟨I, h1, h2⟩, h3, h4, h5, h6, h7, h8⟩ := h
  exact ⟨⟨I, h1.below hb, fun k hk => Nat.lt_of_lt_of_le (h2 k hk) hb.size⟩, h3.trans (hb.mono h3.size), h4, keptBlk hb h5, keptBlk hb h6, h7.below hb, fun k hk => ⟨Nat.lt_of_lt_of_le (h8 k hk).1 hb.size, (h8 k hk).2⟩⟩
set_option maxRecDepth 100000 in
set_option maxHeartbeats 4000000 in
theorem ask1 (w0 : World) (hL : LD w0) (po ko kr : Nat) (A : Option Addr) (n c : Nat) (B : Option Addr) (m d : Nat) (head : Atm) (R : Nat → Prop) (hok : OkT head) (hN : head.args.length ≤ 1000000)
    (w : World) (s : List Atm) (G : Nat → Prop) (b : Nat) (v : Bnd) (hst : StO w0 po ko kr A n c B m d head R w s G) (hlv : s.length ≤ 1024) (hm : MapA w b v) (hnb : ¬ G b) (hg : groundP (atomV v head) = true) :
    Calls Tryz.prog 47 (#[.map (some b)] ++ #[.pointer (some ⟨ko, 0, none⟩), .pointer (some ⟨kr, 0, none⟩)]) w fun e w' => e = .returned (.bool (outF head s v).2) ∧ ∃ G', StO w0 po ko kr A n c B m d head R w' (outF head s v).1 G' ∧ (∀ k, G' k → G k ∨ w.heap.size ≤ k) ∧ Frm G w w' := by
  obtain ⟨⟨I, h1, h2⟩, h3, h4, h5, h6, h7, h8⟩ := hst
  have hn := h7.len
  subst hn
  have hat := fun w' (hb' : Below w.heap.size w w') => atomQ_any v head b A head.args.length c w' R (hm.below hb') (h7.below hb') hok hN
  have had := fun (w' : World) (hb' : Below w.heap.size w w') (A' : Option Addr) (n' c' : Nat) (S' : Nat → Prop) (hs' : Sl w' S' A' n' c' (atomV v head).args) => addQ_any G I po s (atomV v head) A' n' c' w' S' (h1.below hb') (fun k hk => Nat.lt_of_lt_of_le (h2 k hk) hb'.size) hs' hg (hL.below (h3.trans (hb'.mono h3.size))) (by omega)
  unfold outF
  simp only
  generalize atomV v head = y at *
  obtain ⟨V, hV⟩ : ∃ V, V = decide ((addQ s y).length ≤ 1024) := ⟨_, rfl⟩
  rw [← hV]
  have HV := Lib.hid hV; clear hV
  have HX := Lib.hid (fun (z : World) (hz : z.heap[ko]? = some (.cells #[.pointer (some ⟨po, 0, none⟩)] 65 (0, 0)) ∧ z.heap[kr]? = some (.cells #[.string ⟨head.name.toArray⟩, .slice A head.args.length c, .slice B m d] 34 (0, 0))) => And.intro ((cell_blk hz.1 0).trans rfl) (And.intro ((cell_blk hz.2 0).trans rfl) ((cell_blk hz.2 1).trans rfl)))
  have HAT := Lib.hid hat; have HAD := Lib.hid had; have H1 := Lib.hid h1; have H2 := Lib.hid h2; have H3 := Lib.hid h3; have H4 := Lib.hid h4; have H5 := Lib.hid h5; have H6 := Lib.hid h6; have H7 := Lib.hid h7; have H8 := Lib.hid h8
  clear hat had h1 h2 h3 h4 h5 h6 h7 h8 hm hnb hok hN hg hL hlv
  go_enter Tryz.func47, Tryz.ntmps47
  go_wp2_with fail
  refine wpH_region (fun z => z.heap[ko]? = some (.cells #[.pointer (some ⟨po, 0, none⟩)] 65 (0, 0)) ∧ z.heap[kr]? = some (.cells #[.string ⟨head.name.toArray⟩, .slice A head.args.length c, .slice B m d] 34 (0, 0))) (by kernel_rfl) ?_
  have hS : w.drew.heap[ko]? = some (.cells #[.pointer (some ⟨po, 0, none⟩)] 65 (0, 0)) ∧ w.drew.heap[kr]? = some (.cells #[.string ⟨head.name.toArray⟩, .slice A head.args.length c, .slice B m d] 34 (0, 0)) := ⟨H5.out, H6.out⟩
  have hB : Below w.heap.size w w.drew := (Below.refl _ _).drew
  (refine tkW 0 (v := ?_) hS ?_ ?_; rotate_left; (focus (intro x hx; have fx := HX.out x hx; go_simp; (try with_reducible rfl); done)); (try simp only [Act.put, lsa, lsz, lss]))
  (refine tkW 1 (v := ?_) hS ?_ ?_; rotate_left; (focus (intro x hx; have fx := HX.out x hx; go_simp; (try with_reducible rfl); done)); (try simp only [Act.put, lsa, lsz, lss]))
  (refine tkW 2 (v := ?_) hS ?_ ?_; rotate_left; (focus (intro x hx; have fx := HX.out x hx; go_simp; (try with_reducible rfl); done)); (try simp only [Act.put, lsa, lsz, lss]))
  (refine tkW 3 (v := ?_) hS ?_ ?_; rotate_left; (focus (intro x hx; have fx := HX.out x hx; go_simp; (try with_reducible rfl); done)); (try simp only [Act.put, lsa, lsz, lss]))
  (refine wpAnyH_one 4 (by kernel_rfl) rfl ?_; intro K' hK'; go_simp; refine (HAT.out _ hB).mono ?_; rintro e w3 ⟨⟨A3, n3, c3, rfl, hs3⟩, hb3⟩; have hS := And.intro (keptBlk hb3 hS.1) (keptBlk hb3 hS.2); have hB := hB.trans (hb3.mono hB.size); refine hK'.out _ _ hS ?_; clear hK' K')
  refine wpAnyH_one 5 (by kernel_rfl) rfl ?_
  intro K' hK'
  go_simp
  refine (HAD.out _ hB _ _ _ _ hs3).mono ?_
  rintro e w4 ⟨rfl, F', I', j1, j2⟩
  have hfr : Frm G w w4 := (Frm.any hB).trans j2.frm
  have hsz : w.heap.size ≤ w3.heap.size := hB.size
  have J1 := Lib.hid j1; have J2 := Lib.hid j2; have HFR := Lib.hid hfr
  refine hK'.out _ _ ⟨(HFR.out.block ko (H8.out ko (.inl rfl)).1 (H8.out ko (.inl rfl)).2).trans H5.out, (HFR.out.block kr (H8.out kr (.inr (.inl rfl))).1 (H8.out kr (.inr (.inl rfl))).2).trans H6.out⟩ ?_
  clear hK' K' j1 j2 hfr hS hB hb3 hs3
  refine wpAnyH_done (by kernel_rfl) ?_ _
  have hko := (HFR.out.block ko (H8.out ko (.inl rfl)).1 (H8.out ko (.inl rfl)).2).trans H5.out
  have hkr := (HFR.out.block kr (H8.out kr (.inr (.inl rfl))).1 (H8.out kr (.inr (.inl rfl))).2).trans H6.out
  have hsl := H7.out.frm HFR.out fun k hk => (H8.out k (.inr (.inr hk))).2
  have hG' : ∀ k, F' k → G k ∨ w.heap.size ≤ k := fun k hk => (J2.out.f2 k hk).elim .inl fun h => .inr (by omega)
  have hfin : StO w0 po ko kr A head.args.length c B m d head R w4 (addQ s y) F' :=
    ⟨⟨I', J1.out, J2.out.b⟩, H3.out.trans (HFR.out.below H3.out.size fun i hi hG => by have := H4.out i hG; omega), fun k hk => (hG' k hk).elim (H4.out k) fun h => by have := H3.out.size; omega, hko, hkr, hsl, fun k hk => ⟨Nat.lt_of_lt_of_le (H8.out k hk).1 HFR.out.size, fun hF => (hG' k hF).elim (H8.out k hk).2 fun h => by have := (H8.out k hk).1; omega⟩⟩
  obtain ⟨fb, fm, q0, -, hmv, hlen⟩ := J1.out.len
  have k0 := (cell_blk hko 0).trans rfl
  have HFIN := Lib.hid hfin; have HG' := Lib.hid hG'; have HMV := Lib.hid hmv
  clear hfin hG' hko hkr hsl hmv H1 H2 H3 H4 H5 H6 H7 H8 J1 J2 HX HAT HAD
  by_cases hle : (addQ s y).length ≤ 1024
  · have hleI : (fm.length : Int) ≤ 1024 := by omega
    obtain rfl : V = true := by rw [HV.out]; simpa using hle
    clear hle hlen HV
    have hlm := HMV.out.len Tryz.underlying88 3
    go_wp2_with fail
    refine bodyPost_ret (v := .bool true) (by simp [results, Tryz.results47, go_sem]) rfl ?_
    exact ⟨rfl, F', HFIN.out, HG'.out, HFR.out⟩
  · have hleI : ¬ (fm.length : Int) ≤ 1024 := by omega
    obtain rfl : V = false := by rw [HV.out]; simpa using hle
    clear hle hlen HV
    have hlm := HMV.out.len Tryz.underlying88 3
    go_wp2_with fail
    refine bodyPost_ret (v := .bool false) (by simp [results, Tryz.results47, go_sem]) rfl ?_
    exact ⟨rfl, F', HFIN.out, HG'.out, HFR.out⟩
theorem ask1_ok (w0 : World) (hL : LD w0) (po ko kr : Nat) (A : Option Addr) (n c : Nat) (B : Option Addr) (m d : Nat) (head : Atm) (R : Nat → Prop) (hok : OkT head) (hN : head.args.length ≤ 1000000) :
    CbOk 47 #[.pointer (some ⟨ko, 0, none⟩), .pointer (some ⟨kr, 0, none⟩)] (outF head) (fun v => groundP (atomV v head) = true) (fun s _ => s.length ≤ 1024) (StO w0 po ko kr A n c B m d head R) where
  enter := fun _ _ => by kernel_rfl
  keep := StO.keep
  ld := fun h => hL.below h.2.1
  bd := fun h k hk => by obtain ⟨⟨I, h1, h2⟩, _⟩ := h; exact h2 k (.inl hk)
  lvm := fun _ _ _ _ h => h
  lv := fun s v _ _ h => by simpa [outF] using h
  call := fun w s G b v h1 h2 h3 h4 h5 => ask1 w0 hL po ko kr A n c B m d head R hok hN w s G b v h1 h2 h3 h4 h5
end Go.Proofs.YtkjoaodoioicpaaGreatDoor
namespace Go.Proofs.YtkjoaodoioicpaaGreatDoor
open Go.RowKit
theorem ltlS_ok {x : Ltl} (h : ltlS x = true) : OkL x ∧ x.atom.args.length ≤ 6 ∧ (x.op.isEmpty = false → x.atom.args.length = 2) ∧ Kinds x.atom.args := by
  unfold ltlS at h
  cases hc : compsS x
  · rw [hc] at h
    simp only [Bool.not_false, if_true] at h
    obtain ⟨h1, h2, h3⟩ := atomS_okT h
    have ho : x.op.isEmpty = true := by
      unfold compsS at hc
      simpa using hc
    refine ⟨⟨?_, h1⟩, h2, fun h => (by rw [ho] at h; cases h), h3⟩
    rw [List.isEmpty_iff.1 ho]; simp
  · rw [hc] at h
    simp only [Bool.not_true, Bool.false_eq_true, if_false, Bool.and_eq_true, beq_iff_eq] at h
    obtain ⟨⟨⟨⟨h1, h2⟩, h3⟩, h4⟩, h5⟩ := h
    unfold argsS at h5
    rw [List.all_eq_true] at h5
    have h1' : x.op ∈ opsL := by simpa using h1
    refine ⟨⟨?_, ?_, fun y hy => (formedS_ok (h5 y hy)).1⟩, by omega, fun _ => h4, fun y hy => (formedS_ok (h5 y hy)).2⟩
    · simp only [opsL, List.mem_cons, List.not_mem_nil, or_false] at h1'
      rcases h1' with h | h | h | h <;> rw [h] <;> decide
    · rw [List.isEmpty_iff.1 h3]; simp
theorem ruleS_ok {r : Rul} (h : ruleS r = true) : OkR r ∧ BodyOk r.body ∧ (∀ x ∈ r.body, Kinds x.atom.args) ∧ r.head.args.length ≤ 6 ∧ atomS r.head = true := by
  unfold ruleS at h
  simp only [Bool.and_eq_true, List.all_eq_true] at h
  obtain ⟨⟨⟨h1, h2⟩, h3⟩, h4⟩ := h
  obtain ⟨a1, a2, a3⟩ := atomS_okT h1
  exact ⟨⟨a1, fun l hl => (ltlS_ok (h3 l hl)).1⟩, fun x hx => by
    obtain ⟨b1, b2, b3, b4⟩ := ltlS_ok (h3 x hx)
    exact ⟨b1, by omega, b3⟩, fun x hx => (ltlS_ok (h3 x hx)).2.2.2, a2, h1⟩
theorem heads_ground {r : Rul} (hr : RuleOk r) {b nb : List Atm} (hb : Gr b) : ∀ u ∈ eachQ r.body b nb, groundP (atomV u r.head) = true := fun u hu => by
  obtain ⟨h1, h2, h3⟩ := each_sound hr.1 hb hu
  exact atomV_ground h2 hr.2 h3
theorem readyS_zero {r : Rul} {model : List Atm} (h : readyS r model = 0) : model.length ≤ 2048 ∧ Gr model := by
  unfold readyS at h
  simp only at h
  split at h
  · cases h
  · rename_i hn
    refine ⟨Nat.le_of_not_lt fun hl => hn (.inr (.inl hl)), fun a ha => ?_⟩
    cases hg : groundP a
    · exfalso
      apply hn
      refine .inr (.inr ?_)
      rw [List.any_eq_true]
      exact ⟨a, ha, by rw [hg]; rfl⟩
    · rfl
end Go.Proofs.YtkjoaodoioicpaaGreatDoor
namespace Go.Proofs.YtkjoaodoioicpaaGreatDoor
open Go.RowKit
theorem setK_le (m : KMap) (s : Bs) (v : Int) : (setK m s v).length ≤ m.length + 1 := by rw [setK_len]; split <;> omega
set_option maxRecDepth 100000 in
set_option maxHeartbeats 8000000 in
theorem checkQ_any (A : Option Addr) (n c : Nat) (l : List Rul) (B : Option Addr) (m d : Nat) (facts : List Atm) (w : World) (S T : Nat → Prop) (hl : Sl w S A n c l) (hf : Sl w T B m d facts) (ho : ∀ r ∈ l, OkR r) (hof : ∀ a ∈ facts, OkT a) (hL : LD w) :
    Calls Tryz.prog 55 #[.slice A n c, .slice B m d] w fun e w' => e = .returned (.tuple #[.int .i64 (checkQ l facts).1, .int .i64 (checkQ l facts).2]) ∧ Below w.heap.size w w' := by
  have hn := hl.len; have hm := hf.len
  subst hn hm
  have hle := hl.le; have hle2 := hf.le
  have hck := Check_any A l.length c l w S hl ho hL
  obtain ⟨V, hV⟩ : ∃ V, V = checkQ l facts := ⟨_, rfl⟩
  rw [← hV]
  unfold checkQ at hV
  have hcok := fun h => (checkS_ok l).1 h
  have hmm := @run_makeMap Tryz.prog
  generalize checkS53 l = ck at *
  obtain ⟨ci, ce⟩ := ck
  simp only at hV hck hcok
  have HL := Lib.hid (hl.wide (S' := fun k => k < w.heap.size) (fun k hk _ => hk) (by decide)); have HF := Lib.hid (hf.wide (S' := fun k => k < w.heap.size) (fun k hk _ => hk) (by decide)); have HO := Lib.hid ho; have HOF := Lib.hid hof; have HCK := Lib.hid hck
  clear hl hf ho hof hck hL
  by_cases hce : ce = 0
  · subst hce
    obtain ⟨h64, hrs, -⟩ := hcok rfl
    rw [if_neg (by decide)] at hV
    have HRS := Lib.hid hrs; clear hrs hcok
    by_cases hfl : 1024 < facts.length
    · rw [if_pos hfl] at hV
      have hfI : (1024 : Int) < (facts.length : Int) := by omega
      have HV := Lib.hid hV; clear hV hfl
      go_enter Tryz.func55, Tryz.ntmps55
      go_wp2_with fail
      refine HCK.out.mono ?_
      rintro e w1 ⟨rfl, hb1⟩
      go_wp2_with fail
      refine bodyPost_ret (v := .tuple #[.int .i64 (-1), .int .i64 10]) (by simp [results, Tryz.results55, go_sem]) rfl ?_
      rw [HV.out]
      exact ⟨rfl, hb1⟩
    · rw [if_neg hfl] at hV
      have hfI : ¬ (1024 : Int) < (facts.length : Int) := by omega
      have HV : Hid (V = chkF (arR [] (l.drop 0)) facts 0) := Lib.hid hV
      clear hV
      go_enter Tryz.func55, Tryz.ntmps55
      go_wp2_with fail
      refine HCK.out.mono ?_
      rintro e w1 ⟨rfl, hb1⟩
      have hw1 := hb1.size
      go_wp2_with fail
      have hb2 : Below w.heap.size w (w1.alloc (.map #[] 0)) := hb1.alloc hb1.size _
      go_loopw [32] (fun i wr => ∃ k : Nat, k ≤ l.length ∧ i = .int .i64 k ∧ ∃ mm, Hid (MapR wr w1.heap.size mm) ∧ Below w.heap.size w wr ∧ mm.length ≤ k * 6 ∧ Hid (V = chkF (arR mm (l.drop k)) facts 0)) (fun i _ => l.length - (intOf i).toNat)
      case atStart => exact ⟨0, by omega, rfl, [], Lib.hid (MapR.made w1), hb2, Nat.le_refl _, HV⟩
      case round =>
        obtain ⟨k, hk, rfl, mm, hmr, hb, hml, hd⟩ := hrel
        have hwr := hb.size
        by_cases hlt : k < l.length
        · obtain ⟨b1, o1, rfl, -, hbs1, A1, n1, c1, A2, n2, c2, g1, g2, g3, hs1, hs2⟩ := (HL.out.below hb).rul hlt
          have hrr := HRS.out _ (List.getElem_mem hlt)
          have hor := HO.out _ (List.getElem_mem hlt)
          have hd1 := hd.out
          rw [drop_get hlt, arR] at hd1
          generalize l[k] = r at *
          obtain ⟨⟨hnm, hargs⟩, body⟩ := r
          simp only at g1 g2 g3 hs1 hs2 hd1
          obtain rfl : n1 = hargs.length := hs1.len
          obtain rfl : n2 = body.length := hs2.len
          have hle1 := hs1.le
          have hle2' := hs2.le
          have hb4 : body.length ≤ 4 := (rule_body hrr.1).1
          have hnl := hor.1.1
          have hol := hor.2
          simp only at hnl hol
          have HD1 := Lib.hid hd1; have HS2 := Lib.hid hs2; have HB := Lib.hid hb; have HOL := Lib.hid hol
          clear hd1 hd hrr hor hs1 hb hs2 hol
          have hwlt : w1.heap.size < wr.heap.size := hmr.out.lt
          go_wp2_with (at_mapUpdate; refine wpList_updK rfl _ _ _ rfl rfl hnm rfl _ rfl (hmr.out.alloc _) hnl ⟨by omega, by omega⟩ (by omega) ?_; intro w5 hm5 hg5; have HM5 := Lib.hid hm5; have HG5 := Lib.hid hg5; have e1 := (cell_blk (grownBlk hg5 (blkAt wr (.cells #[.string ⟨hnm.toArray⟩, .slice A1 hargs.length c1, .slice A2 body.length c2] 34) rfl) (fun e => by injection e with e; omega)) 2).trans rfl; have hz5 := hg5.size; clear hm5 hg5)
          obtain ⟨wo, rfl⟩ : ∃ wo, wo = wr := ⟨_, rfl⟩
          have hb5 : Below w.heap.size w w5 := (HB.out.alloc hwr _).grown HG5.out (by simp; omega) (fun k hk => by injection hk with hk; omega)
          have hsx : ∀ wx, Below w.heap.size w wx → Sl wx (fun k => k < w.heap.size) A2 body.length c2 body := fun wx hbx => HS2.out.keep fun k _ hk => (hbx.block k hk).trans (HB.out.block k hk).symm
          have HSX := Lib.hid hsx; have HB5 := Lib.hid hb5
          clear hsx hb5 HS2 hmr g1 g2 g3 HG5
          go_loopw [47] (fun j wx => ∃ q : Nat, q ≤ body.length ∧ j = .int .i64 q ∧ ∃ m', Hid (MapR wx w1.heap.size m') ∧ Below w.heap.size w wx ∧ m'.length ≤ k * 6 + 1 + q ∧ Hid (V = chkF (arR (arX m' (body.drop q)) (l.drop (k + 1))) facts 0)) (fun j _ => body.length - (intOf j).toNat)
          case atStart => exact ⟨0, by omega, rfl, _, HM5, HB5.out, by have := setK_le mm hnm hargs.length; omega, HD1⟩
          case round =>
            obtain ⟨q, hq, rfl, m', hmq, hbq, hql, hdq⟩ := hrel
            have hwq := hbq.size
            by_cases hlt2 : q < body.length
            · obtain ⟨b2, o2, rfl, -, hbs2, A3, n3, c3, f1, f2, f3, f4, hs3⟩ := (HSX.out wr hbq).ltl hlt2
              have hoq := HOL.out _ (List.getElem_mem hlt2)
              have hd2 := hdq.out
              rw [drop_get hlt2, arX] at hd2
              generalize body[q] = x at *
              obtain ⟨xneg, xop, ⟨xnm, xargs⟩⟩ := x
              simp only at f1 f2 f3 f4 hs3 hd2 hoq
              obtain rfl : n3 = xargs.length := hs3.len
              have hle3 := hs3.le
              have hxl := hoq.2.1
              simp only at hxl
              have hwl2 : w1.heap.size < wr.heap.size := hmq.out.lt
              cases xop with
              | nil =>
                simp only [List.isEmpty_nil, if_true] at hd2
                have HD2 := Lib.hid hd2; have HBQ := Lib.hid hbq; clear hd2 hdq hoq hs3 hbq
                go_wp2_with (at_mapUpdate; refine wpList_updK rfl _ _ _ rfl rfl xnm rfl _ rfl (hmq.out.alloc _) hxl ⟨by omega, by omega⟩ (by omega) ?_; intro w6 hm6 hg6; have HM6 := Lib.hid hm6; have HG6 := Lib.hid hg6; clear hm6 hg6)
                go_roundw
                case rel => exact ⟨q + 1, by omega, by go_num, _, HM6, (HBQ.out.alloc hwq _).grown HG6.out (by simp; omega) (fun k hk => by injection hk with hk; omega), by have := setK_le m' xnm xargs.length; omega, HD2⟩
                case measure => simp [intOf]; omega
              | cons o1 orr =>
                simp only [List.isEmpty_cons, Bool.false_eq_true, if_false] at hd2
                have HD2 := Lib.hid hd2; have HBQ := Lib.hid hbq; clear hd2 hdq hoq hs3 hbq
                go_wp2_with fail
                go_roundw
                case rel => exact ⟨q + 1, by omega, by go_num, m', Lib.hid (hmq.out.alloc _), HBQ.out.alloc hwq _, by omega, HD2⟩
                case measure => simp [intOf]; omega
            · have hd2 := hdq.out
              rw [drop_end hlt2, arX] at hd2
              have HD2 := Lib.hid hd2; clear hd2 hdq
              go_wp2_with fail
              go_roundw
              case rel => exact ⟨k + 1, by omega, by go_num, m', hmq, hbq, by omega, HD2⟩
              case measure => simp [intOf]; omega
        · have hd1 := hd.out
          rw [drop_end hlt, arR] at hd1
          have HD1 : Hid (V = chkF mm (facts.drop 0) (0 : Nat)) := Lib.hid hd1
          have HB := Lib.hid hb
          clear hd1 hd hb
          go_wp2_with fail
          obtain ⟨wo, rfl⟩ : ∃ wo, wo = wr := ⟨_, rfl⟩
          go_loopw [66] (fun j wx => ∃ q : Nat, q ≤ facts.length ∧ j = .int .i64 q ∧ ∃ m', Hid (MapR wx w1.heap.size m') ∧ Below w.heap.size w wx ∧ m'.length ≤ 400 + q ∧ Hid (V = chkF m' (facts.drop q) q)) (fun j _ => facts.length - (intOf j).toNat)
          case atStart => exact ⟨0, by omega, rfl, mm, hmr, HB.out, by omega, HD1⟩
          case round =>
            obtain ⟨q, hq, rfl, m', hmq, hbq, hql, hdq⟩ := hrel
            have hwq := hbq.size
            by_cases hlt2 : q < facts.length
            · obtain ⟨b2, o2, rfl, -, hbs2, A3, n3, c3, f1, f2, hs3⟩ := (HF.out.below hbq).atm hlt2
              have hoq := HOF.out _ (List.getElem_mem hlt2)
              have hd2 := hdq.out
              rw [drop_get hlt2, chkF] at hd2
              generalize facts[q] = x at *
              have hgr := Ground_any x A3 n3 c3 _ _ (hs3.alloc (.cells #[.string ⟨x.name.toArray⟩, .slice A3 n3 c3] 31)) hoq
              rw [groundS_P] at hgr
              obtain ⟨xnm, xargs⟩ := x
              simp only at f1 f2 hs3 hd2 hoq hgr
              obtain rfl : n3 = xargs.length := hs3.len
              have hle3 := hs3.le
              have hxl := hoq.1
              simp only at hxl
              have hwl2 : w1.heap.size < wr.heap.size := hmq.out.lt
              generalize groundP ⟨xnm, xargs⟩ = g at *
              have HD2 := Lib.hid hd2; have HBQ := Lib.hid hbq; have HGR := Lib.hid hgr; clear hd2 hdq hoq hs3 hbq hgr
              cases g
              · go_wp2_with fail
                refine HGR.out.mono ?_
                rintro e w6 ⟨rfl, hb6⟩
                have HB6 := Lib.hid ((HBQ.out.alloc hwq (.cells #[.string ⟨xnm.toArray⟩, .slice A3 xargs.length c3] 31)).trans (hb6.mono (by simp; omega))); clear hb6
                have hd2 := HD2.out
                simp only [Bool.not_false, if_true] at hd2
                have HD3 := Lib.hid hd2; clear hd2
                go_wp2_with fail
                refine bodyPost_ret (v := .tuple #[.int .i64 q, .int .i64 1]) (by simp [results, Tryz.results55, go_sem]) rfl ?_
                rw [HD3.out]
                exact ⟨rfl, HB6.out⟩
              · go_wp2_with fail
                refine HGR.out.mono ?_
                rintro e w6 ⟨rfl, hb6⟩
                have hb6' := (HBQ.out.alloc hwq (.cells #[.string ⟨xnm.toArray⟩, .slice A3 xargs.length c3] 31)).trans (hb6.mono (by simp; omega))
                have hx6 := keptBlk hb6 (blkAt wr (.cells #[.string ⟨xnm.toArray⟩, .slice A3 xargs.length c3] 31) rfl)
                have hm6 := (hmq.out.alloc (.cells #[.string ⟨xnm.toArray⟩, .slice A3 xargs.length c3] 31)).below hb6
                have k0 := (cell_blk hx6 0).trans rfl; have k1 := (cell_blk hx6 1).trans rfl
                have hw6 : wr.heap.size < w6.heap.size := (Array.getElem?_eq_some_iff.1 hx6).1
                have HM6 := Lib.hid hm6; have HB6 := Lib.hid hb6'
                clear hb6 hb6' hx6 hm6 f1 f2
                have hd2 := HD2.out
                simp only [Bool.not_true, Bool.false_eq_true, if_false] at hd2
                cases hg : getK m' xnm with
                | none =>
                  rw [hg] at hd2
                  simp only at hd2
                  have HD3 := Lib.hid hd2; clear hd2
                  have hgi : (getK m' xnm).isSome = false := by rw [hg]; rfl
                  clear hg
                  go_wp2_with (first | (at_lookup; refine wpList_lookKok rfl _ _ rfl rfl xnm rfl HM6.out hxl ?_) | (at_mapUpdate; refine wpList_updK rfl _ _ _ rfl rfl xnm rfl _ rfl HM6.out hxl ⟨by omega, by omega⟩ (by omega) ?_; intro w7 hm7 hg7; have HM7 := Lib.hid hm7; have HG7 := Lib.hid hg7; clear hm7 hg7))
                  go_roundw
                  case rel => exact ⟨q + 1, by omega, by go_num, _, HM7, HB6.out.grown HG7.out (by omega) (fun k hk => by injection hk with hk; omega), by have := setK_le m' xnm xargs.length; omega, HD3⟩
                  case measure => simp [intOf]; omega
                | some z =>
                  rw [hg] at hd2
                  simp only at hd2
                  have hgi : (getK m' xnm).isSome = true := by rw [hg]; rfl
                  have hgv : getV m' xnm = z := by unfold getV; rw [hg]; rfl
                  clear hg
                  by_cases hz : z = (xargs.length : Int)
                  · rw [if_neg (by simpa using hz)] at hd2
                    have HD3 := Lib.hid hd2; clear hd2
                    subst hz
                    go_wp2_with (first | (at_lookup; refine wpList_lookKok rfl _ _ rfl rfl xnm rfl HM6.out hxl ?_) | (at_mapUpdate; refine wpList_updK rfl _ _ _ rfl rfl xnm rfl _ rfl HM6.out hxl ⟨by omega, by omega⟩ (by omega) ?_; intro w7 hm7 hg7; have HM7 := Lib.hid hm7; have HG7 := Lib.hid hg7; clear hm7 hg7))
                    go_roundw
                    case rel => exact ⟨q + 1, by omega, by go_num, _, HM7, HB6.out.grown HG7.out (by omega) (fun k hk => by injection hk with hk; omega), by have := setK_le m' xnm xargs.length; omega, HD3⟩
                    case measure => simp [intOf]; omega
                  · rw [if_pos (by simpa using hz)] at hd2
                    have HD3 := Lib.hid hd2; clear hd2
                    have hzb : (z != (xargs.length : Int)) = true := by simpa using hz
                    clear hz
                    go_wp2_with (at_lookup; refine wpList_lookKok rfl _ _ rfl rfl xnm rfl HM6.out hxl ?_)
                    refine bodyPost_ret (v := .tuple #[.int .i64 q, .int .i64 9]) (by simp [results, Tryz.results55, go_sem]) rfl ?_
                    rw [HD3.out]
                    exact ⟨rfl, HB6.out⟩
            · have hd2 := hdq.out
              rw [drop_end hlt2, chkF] at hd2
              have HD2 := Lib.hid hd2; clear hd2 hdq
              go_wp2_with fail
              refine bodyPost_ret (v := .tuple #[.int .i64 (-1), .int .i64 0]) (by simp [results, Tryz.results55, go_sem]) rfl ?_
              rw [HD2.out]
              exact ⟨rfl, hbq⟩
  · rw [if_pos hce] at hV
    have hcb : (ce == 0) = false := by simpa using hce
    have HV := Lib.hid hV; clear hV hce hcok
    go_enter Tryz.func55, Tryz.ntmps55
    go_wp2_with fail
    refine HCK.out.mono ?_
    rintro e w1 ⟨rfl, hb1⟩
    go_wp2_with fail
    refine bodyPost_ret (v := .tuple #[.int .i64 ci, .int .i64 ce]) (by simp [results, Tryz.results55, go_sem]) rfl ?_
    rw [HV.out]
    exact ⟨rfl, hb1⟩
end Go.Proofs.YtkjoaodoioicpaaGreatDoor
