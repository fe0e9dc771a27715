/- Query (package licitlaw54): a part of the proofs of its laws; see the law's own text, which comes last in 'order'. No conditions of its own. -/
import Derived.Laws.EntriesVeiled
import Derived.Test.YtkjoaodoioicpaaGreatDoorWC18
set_option linter.unusedVariables false
set_option linter.unusedSimpArgs false
namespace Go.Proofs.YtkjoaodoioicpaaGreatDoor
open Go.RowKit
theorem MapA.frm {w w' : World} {G : Nat → Prop} {b : Nat} {v : Bnd} (h : MapA w b v) (hf : Frm G w w') (hn : ¬ G b) : MapA w' b v := ⟨h.1.keep (hf.block b h.1.lt hn), h.2⟩
theorem kinds_atomV {v : Bnd} (hv : GrB v) {a : Atm} (hk : Kinds a.args) : Kinds (atomV v a).args := by
  intro y hy
  obtain ⟨x, hx, rfl⟩ := List.mem_map.1 hy
  unfold under
  cases hg : getA v x.text with
  | none => exact hk x hx
  | some z =>
    simp only
    split
    · exact (formedS_ok (hv _ _ hg).1).2
    · exact hk x hx
theorem FtPost.post {w w' : World} {b0 : Nat} {r : Option Bnd} {e : Ending} (h : FtPost w b0 r e w') : Below w.heap.size w w' := h.2
theorem iter_cons {σ : Type} (found : σ → Bnd → σ × Bool) (v : Bnd) (s : σ) : iterF found [v] s = found s v := by
  rw [iterF, iterF]
  obtain ⟨a, b⟩ := found s v
  cases b <;> rfl
section
variable {σ : Type} {Fn : Nat} {caps : Array Value} {found : σ → Bnd → σ × Bool} {P : Bnd → Prop} {Lv : σ → Nat → Prop} {St : World → σ → (Nat → Prop) → Prop}
set_option maxRecDepth 100000 in
set_option maxHeartbeats 8000000 in
theorem each1_end (hC : CbOk Fn caps found P Lv St) {R : Nat → Prop} {kb ka kf kw ks : Nat} {A : Option Addr} {n c : Nat} {body : List Ltl} {ps pa : Nat} {Fs Is Fa Ia : Nat → Prop} {Ls La : List Atm} (hbo : BodyOk body)
    (w : World) (s : σ) (G : Nat → Prop) (b : Nat) (v : Bnd) (hE : EachE w G R kb ka kf kw ks A n c body ps pa Fs Is Fa Ia Ls La Fn caps) (hst : St w s G) (hlv : Lv s (leftE Ls La body body.length v).length) (hm : MapA w b v) (hnb : ¬ G b) (hP : ∀ u ∈ leftE Ls La body body.length v, P u) :
    Calls Tryz.prog 76 (#[.int .i64 body.length, .map (some b)] ++ #[.pointer (some ⟨kb, 0, none⟩), .pointer (some ⟨ka, 0, none⟩), .pointer (some ⟨kf, 0, none⟩), .pointer (some ⟨kw, 0, none⟩), .pointer (some ⟨ks, 0, none⟩)]) w (EPost found St w G (iterF found (leftE Ls La body body.length v) s)) := by
  have hn := hE.sl.len
  subst hn
  have hle := hE.sl.le
  rw [leftE_end] at hP hlv ⊢
  have hrs := restQ_any Fa Ia pa La v b A body.length c body w R hE.ba hm hE.sl hbo (hC.ld hst)
  have c1 := (cell_blk hE.b1 0).trans rfl; have c2 := (cell_blk hE.b2 0).trans rfl
  have hcall := fun w' (hb' : Below w.heap.size w w') (hp : P v) (hlv : Lv s 1) => hC.call w' s G b v (hC.keep hst hb') hlv (hm.below hb') hnb hp
  have c3 : ∀ w', Below w.heap.size w w' → w'.cell? ⟨kf, 0, none⟩ = some (.func (.func Fn) #[] caps) := fun w' hb' => (cell_blk (keptBlk hb' hE.b3) 0).trans rfl
  have hF := hC.enter
  have HC3 := Lib.hid c3; have HCALL := Lib.hid hcall; have HRS := Lib.hid hrs; have HP := Lib.hid hP; have HST := Lib.hid hst; have HC := Lib.hid hC; have HLV := Lib.hid hlv
  clear c3 hcall hrs hP hst hE hC hm hlv
  cases hr : restS La v body
  · rw [hr] at HRS HP
    simp only [Bool.false_eq_true, if_false] at HP ⊢
    clear hr
    go_enter Tryz.func76, Tryz.ntmps76
    go_wp2_with fail
    refine HRS.out.mono ?_
    rintro e w3 ⟨rfl, hb3⟩
    go_wp2_with fail
    refine bodyPost_ret (v := .bool true) (by simp [results, Tryz.results76, go_sem]) rfl ?_
    exact ⟨rfl, G, HC.out.keep HST.out hb3, fun _ h => .inl h, Frm.any hb3⟩
  · rw [hr] at HRS HP HLV
    simp only [if_true] at HP HLV ⊢
    rw [iter_cons]
    clear hr
    go_enter Tryz.func76, Tryz.ntmps76
    go_wp2_with fail
    refine HRS.out.mono ?_
    rintro e w3 ⟨rfl, hb3⟩
    have c3 := HC3.out w3 hb3
    have HB3 := Lib.hid hb3; clear hb3
    have hcw := HCALL.out w3 HB3.out (HP.out v List.mem_cons_self) HLV.out
    generalize found s v = fr at *
    obtain ⟨fs, fb⟩ := fr
    simp only at hcw ⊢
    have HCW := Lib.hid hcw; clear hcw
    go_wp2_with fail
    refine HCW.out.mono ?_
    rintro e w4 ⟨rfl, G4, h1, h2, h3⟩
    have H1 := Lib.hid h1; have H2 := Lib.hid h2; have H3 := Lib.hid h3; clear h1 h2 h3
    go_wp2_with fail
    refine bodyPost_ret (v := .bool fb) (by simp [results, Tryz.results76, go_sem]) rfl ?_
    exact ⟨rfl, G4, H1.out, fun k hk => (H2.out k hk).elim .inl fun h => .inr (Nat.le_trans HB3.out.size h), (Frm.any HB3.out).trans H3.out⟩
set_option maxRecDepth 100000 in
set_option maxHeartbeats 16000000 in
theorem each1_step (hC : CbOk Fn caps found P Lv St) {R : Nat → Prop} {kb ka kf kw ks : Nat} {A : Option Addr} {n c : Nat} {body : List Ltl} {ps pa : Nat} {Fs Is Fa Ia : Nat → Prop} {Ls La : List Atm} (hbo : BodyOk body) (hkd : ∀ x ∈ body, Kinds x.atom.args) (i : Nat) (hi : i < body.length)
    (IH : ∀ (w : World) (s : σ) (G : Nat → Prop) (b : Nat) (v : Bnd), EachE w G R kb ka kf kw ks A n c body ps pa Fs Is Fa Ia Ls La Fn caps → St w s G → Lv s (leftE Ls La body (i + 1) v).length → MapA w b v → ¬ G b → GrB v → (∀ u ∈ leftE Ls La body (i + 1) v, P u) →
      Calls Tryz.prog 76 (#[.int .i64 ((i : Int) + 1), .map (some b)] ++ #[.pointer (some ⟨kb, 0, none⟩), .pointer (some ⟨ka, 0, none⟩), .pointer (some ⟨kf, 0, none⟩), .pointer (some ⟨kw, 0, none⟩), .pointer (some ⟨ks, 0, none⟩)]) w (EPost found St w G (iterF found (leftE Ls La body (i + 1) v) s)))
    (w : World) (s : σ) (G : Nat → Prop) (b : Nat) (v : Bnd) (hE : EachE w G R kb ka kf kw ks A n c body ps pa Fs Is Fa Ia Ls La Fn caps) (hst : St w s G) (hlv : Lv s (leftE Ls La body i v).length) (hm : MapA w b v) (hnb : ¬ G b) (hv : GrB v) (hP : ∀ u ∈ leftE Ls La body i v, P u) :
    Calls Tryz.prog 76 (#[.int .i64 i, .map (some b)] ++ #[.pointer (some ⟨kb, 0, none⟩), .pointer (some ⟨ka, 0, none⟩), .pointer (some ⟨kf, 0, none⟩), .pointer (some ⟨kw, 0, none⟩), .pointer (some ⟨ks, 0, none⟩)]) w (EPost found St w G (iterF found (leftE Ls La body i v) s)) := by
  have hn := hE.sl.len
  subst hn
  have hle := hE.sl.le
  have hF : ∀ (args : Array Value) (w : World), (callFunc 76 args).run Tryz.prog w = .ok (.enter 76 args) w := fun _ _ => by kernel_rfl
  have hne : ((i : Int) == (body.length : Int)) = false := by rw [beq_eq_false_iff_ne]; omega
  have i0 : (0 : Int) ≤ (i : Int) := by omega
  have i1 : (i : Int) < (body.length : Int) := by omega
  obtain ⟨b1, o1, rfl, hRb, hbs1, A1, n1, c1, g1, g2, g3, g4, hsx⟩ := hE.sl.ltl hi
  obtain ⟨hox, hnx, -⟩ := hbo _ (List.getElem_mem hi)
  have hkx := hkd _ (List.getElem_mem hi)
  have hpo := fun w' => positiveQ_any body[i] A1 n1 c1 w'
  have c1' := (cell_blk hE.b1 0).trans rfl
  have c4 : ∀ w', Below w.heap.size w w' → w'.cell? ⟨kw, 0, none⟩ = some (.func (.func 76) #[] #[.pointer (some ⟨kb, 0, none⟩), .pointer (some ⟨ka, 0, none⟩), .pointer (some ⟨kf, 0, none⟩), .pointer (some ⟨kw, 0, none⟩), .pointer (some ⟨ks, 0, none⟩)]) := fun w' hb' => (cell_blk (keptBlk hb' hE.b4) 0).trans rfl
  cases hp : positiveS body[i]
  · rw [leftE_neg hi hp] at hP hlv ⊢
    rw [hp] at hpo
    have hih := fun w' (hb' : Below w.heap.size w w') => IH w' s G b v (hE.below hb') (hC.keep hst hb') hlv (hm.below hb') hnb hv hP
    generalize iterF found (leftE Ls La body (i + 1) v) s = T at *
    have HC4 := Lib.hid c4; have HIH := Lib.hid hih; have HPO := Lib.hid hpo
    clear c4 hih hpo hE hst hm hnb hv hP IH hC hp hbo hkd hkx hox hlv
    generalize body[i] = x at *
    have hwl : w.heap.size = w.heap.size := rfl
    go_enter Tryz.func76, Tryz.ntmps76
    go_wp2_with fail
    refine (HPO.out _).mono ?_
    rintro e w3 ⟨rfl, hb3⟩
    have hb4 : Below w.heap.size w w3 := hb3
    have k4 := HC4.out w3 hb4
    have HB4 := Lib.hid hb4; clear hb3 hb4
    go_wp2_with fail
    refine (HIH.out w3 HB4.out).mono ?_
    rintro e w4 ⟨rfl, G4, h1, h2, h3⟩
    have H1 := Lib.hid h1; have H2 := Lib.hid h2; have H3 := Lib.hid h3; clear h1 h2 h3
    go_wp2_with fail
    refine bodyPost_ret (v := .bool T.2) (by simp [results, Tryz.results76, go_sem]) rfl ?_
    exact ⟨rfl, G4, H1.out, fun k hk => (H2.out k hk).elim .inl fun h => .inr (Nat.le_trans HB4.out.size h), (Frm.any HB4.out).trans H3.out⟩
  · rw [hp] at hpo
    have hlist := fun q hq => leftE_pos (La := La) hE.bs.gr hv hi hp (q := q) hq
    have hmem := fun q (hq : CandP (atomV v body[i].atom) q) f (hf : f ∈ idxL Ls q) => idxL_mem hq hf
    have hoa := atomV_ok hm.2 hox.2
    have hka := kinds_atomV hv hkx
    have hla : (atomV v body[i].atom).args.length ≤ 1000000 := by simp only [atomV, List.length_map]; exact hnx
    have hat := fun w' (hb' : Below w.heap.size w w') (hs' : Sl w' R A1 n1 c1 body[i].atom.args) => atomQ_any v body[i].atom b A1 n1 c1 w' R (hm.below hb') hs' hox.2 hnx
    have hcd := fun (w' : World) (hb' : Below w.heap.size w w') (A : Option Addr) (n c : Nat) (S : Nat → Prop) (hs : Sl w' S A n c (atomV v (body[i]'hi).atom).args) => candQ_any Fs Is ps Ls (atomV v body[i].atom) A n c w' S (hE.bs.below hb') hs hoa hla hka
    generalize atomV v body[i].atom = ya at *
    have hgr := hE.bs.gr
    obtain ⟨T, hT⟩ : ∃ T, T = iterF found (leftE Ls La body i v) s := ⟨_, rfl⟩
    rw [← hT]
    have hpd : ∀ u ∈ leftE Ls La body i v, P u := hP
    have hnl : n1 = body[i].atom.args.length := hsx.len
    have hR1 : ∀ k, Fs k ∨ Is k → R k := fun k hk => hE.rd k (by rcases hk with hk | hk <;> simp [hk])
    generalize body[i] = x at *
    obtain ⟨xneg, xop, ⟨xnm, xargs⟩⟩ := x
    simp only at g1 g2 g3 g4 hsx hpo hox hnx hkx hlist hmem hat hnl
    subst hnl
    have HLI := Lib.hid hlist; have HME := Lib.hid hmem; have HAT := Lib.hid hat; have HCD := Lib.hid hcd; have HGR := Lib.hid hgr; have HT := Lib.hid hT; have HPD := Lib.hid hpd; have HPO := Lib.hid hpo
    have HC4 := Lib.hid c4; have HIH := Lib.hid IH; have HE := Lib.hid hE; have HST := Lib.hid hst; have HM := Lib.hid hm; have HNB := Lib.hid hnb; have HV := Lib.hid hv; have HC := Lib.hid hC; have HSX := Lib.hid hsx; have HOX := Lib.hid hox; have HR1 := Lib.hid hR1; have HLV := Lib.hid hlv; have HCL := Lib.hid hC.lv; have HCM := Lib.hid hC.lvm
    have c5 := (cell_blk hE.b5 0).trans rfl
    have c4' := (cell_blk hE.b4 0).trans rfl
    have HX0 := Lib.hid (fun (z : World) (hz : ∀ k, R k → z.heap[k]? = w.heap[k]?) => And.intro ((World.cell?_of_block (w := w) (w' := z) (hz ks (hE.rd _ (by simp)))).trans c5) (And.intro ((World.cell?_of_block (w := w) (w' := z) (hz kb (hE.rd _ (by simp)))).trans c1') (And.intro ((World.cell?_of_block (w := w) (w' := z) (hz b1 hRb)).trans g3) (And.intro ((World.cell?_of_block (w := w) (w' := z) (hz b1 hRb)).trans g4) ((World.cell?_of_block (w := w) (w' := z) (hz kw (hE.rd _ (by simp)))).trans c4')))))
    clear hlist hmem hat hcd hgr hT hpd hpo c4 IH hE hst hm hnb hv hC hsx hox hoa hka hla hP hbo hkd hkx hp hR1 c5 c4' hlv
    go_enter Tryz.func76, Tryz.ntmps76
    go_wp2_with fail
    refine (HPO.out _).mono ?_
    rintro e w3 ⟨rfl, hb3⟩
    have hb4 : Below w.heap.size w w3 := hb3
    have HB4 := Lib.hid hb4; clear hb3 hb4 g1 g2 g3 g4 c1'
    have HX := Lib.hid (fun (z : World) (hz : Below w3.heap.size w3 z) => HX0.out z (fun k hr => (HB4.out.trans (hz.mono HB4.out.size)).block k (HE.out.off k hr).1))
    go_wp2_with fail
    refine wpH_region (fun z => Below w3.heap.size w3 z) (by kernel_rfl) ?_
    have hS : Below w3.heap.size w3 w3.drew := (Below.refl _ _).drew
    (refine tkW 0 (v := ?_) hS ?_ ?_; rotate_left; (focus (intro x hx; have fx := HX.out x hx; go_simp; (try with_reducible rfl); done)); (try simp only [Act.put, lsa, lsz, lss]))
    (refine tkW 1 (v := ?_) hS ?_ ?_; rotate_left; (focus (intro x hx; have fx := HX.out x hx; go_simp; (try with_reducible rfl); done)); (try simp only [Act.put, lsa, lsz, lss]))
    (refine tkW 2 (v := ?_) hS ?_ ?_; rotate_left; (focus (intro x hx; have fx := HX.out x hx; go_simp; (try with_reducible rfl); done)); (try simp only [Act.put, lsa, lsz, lss]))
    (refine tkW 3 (v := ?_) hS ?_ ?_; rotate_left; (focus (intro x hx; have fx := HX.out x hx; go_simp; (try with_reducible rfl); done)); (try simp only [Act.put, lsa, lsz, lss]))
    (refine tkW 4 (v := ?_) hS ?_ ?_; rotate_left; (focus (intro x hx; have fx := HX.out x hx; go_simp; (try with_reducible rfl); done)); (try simp only [Act.put, lsa, lsz, lss]))
    (refine tkW 5 (v := ?_) hS ?_ ?_; rotate_left; (focus (intro x hx; have fx := HX.out x hx; go_simp; (try with_reducible rfl); done)); (try simp only [Act.put, lsa, lsz, lss]))
    (refine tkW 6 (v := ?_) hS ?_ ?_; rotate_left; (focus (intro x hx; have fx := HX.out x hx; go_simp; (try with_reducible rfl); done)); (try simp only [Act.put, lsa, lsz, lss]))
    (refine tkW 10 (v := ?_) hS ?_ ?_; rotate_left; (focus (intro x hx; have fx := HX.out x hx; go_simp; (try with_reducible rfl); done)); (try simp only [Act.put, lsa, lsz, lss]))
    have hsx4 := fun z (hz : Below w3.heap.size w3 z) => HSX.out.below (HB4.out.trans (hz.mono HB4.out.size))
    (refine wpAnyH_one 7 (by kernel_rfl) rfl ?_; intro K' hK'; go_simp; refine (HAT.out _ (HB4.out.trans (hS.mono HB4.out.size)) (hsx4 _ hS)).mono ?_; rintro e w5 ⟨⟨A5, n5, c5, rfl, hs5⟩, hb5⟩; have hS := hS.trans (hb5.mono hS.size); refine hK'.out _ _ hS ?_; clear hK' K')
    (refine wpAnyH_one 8 (by kernel_rfl) rfl ?_; intro K' hK'; go_simp; refine (HCD.out _ (HB4.out.trans (hS.mono HB4.out.size)) _ _ _ _ hs5).mono ?_; rintro e w6 ⟨q, B, c6, hq, rfl, hs6, hb6⟩; have hS := hS.trans (hb6.mono hS.size); refine hK'.out _ _ hS ?_; clear hK' K')
    (refine tkW 9 (v := ?_) hS ?_ ?_; rotate_left; (focus (intro x hx; have fx := HX.out x hx; go_simp; (try with_reducible rfl); done)); (try simp only [Act.put, lsa, lsz, lss]))
    refine wpAnyH_done (by kernel_rfl) ?_ _
    have hbw6 := HB4.out.trans (hS.mono HB4.out.size)
    have hsl : Sl w R B (idxL Ls q).length c6 (idxL Ls q) := (hs6.keep (w' := w) fun k _ hk => (hbw6.block k (HE.out.off k (HR1.out k hk)).1).symm).wide (fun k _ hk => HR1.out k hk) (by decide)
    have hTq := HT.out
    rw [HLI.out q hq] at hTq
    have hPq := HPD.out
    rw [HLI.out q hq] at hPq
    have hLq := HLV.out
    rw [HLI.out q hq] at hLq
    have hCq := fun f hf => And.intro (HGR.out f (HME.out q hq f hf).1) (HME.out q hq f hf).2
    have hcl := hsl.le
    generalize idxL Ls q = C at *
    have HSL := Lib.hid hsl; have HLQ := Lib.hid hLq; have HTQ := Lib.hid hTq; have HPQ := Lib.hid hPq; have HCQ := Lib.hid hCq; have HB6 := Lib.hid hbw6
    clear hsl hLq hTq hPq hCq hbw6 hs6 hs5 hb5 hb6 hS HX HAT HCD HPO HLI HME HT HPD hsx4 hq HGR
    go_wp2_with fail
    go_loopw [49] (fun j wr => ∃ k : Nat, k ≤ C.length ∧ j = .int .i64 k ∧ Hid (∃ s' G', (St wr s' G' ∧ Lv s' ((C.drop k).flatMap (stepE Ls La body i ⟨xnm, xargs⟩ v)).length) ∧ (∀ k, G' k → G k ∨ w.heap.size ≤ k) ∧ Frm G w wr ∧ T = iterF found ((C.drop k).flatMap (stepE Ls La body i ⟨xnm, xargs⟩ v)) s')) (fun j _ => C.length - (intOf j).toNat)
    case atStart => exact ⟨0, by omega, rfl, Lib.hid ⟨s, G, ⟨HC.out.keep HST.out HB6.out, HLQ.out⟩, fun _ h => .inl h, Frm.any HB6.out, HTQ.out⟩⟩
    case round =>
      obtain ⟨k, hk, rfl, hrl⟩ := hrel
      obtain ⟨s', G', ⟨h1, hl1⟩, h2, h3, h4⟩ := hrl.out
      have HL0 := Lib.hid hl1; clear hl1
      clear hrl
      by_cases hlt : k < C.length
      · have her := HE.out.frm h3 h2
        have hmr := HM.out.frm h3 HNB.out
        have hnr : ¬ G' b := fun e => by rcases h2 b e with e | e; exact HNB.out e; have := HM.out.1.lt; omega
        have hsr := HSL.out.keep (w' := wr) fun k _ hr => h3.block k (HE.out.off k hr).1 (HE.out.off k hr).2
        obtain ⟨b2, o2, rfl, -, hbs2, A2, n2, c2, e1, e2, hs2⟩ := hsr.atm hlt
        have hfc := HCQ.out _ (List.getElem_mem hlt)
        have hsub : ∀ u ∈ stepE Ls La body i ⟨xnm, xargs⟩ v C[k], P u := fun u hu => HPQ.out u (List.mem_flatMap.2 ⟨_, List.getElem_mem hlt, hu⟩)
        rw [drop_get hlt, List.flatMap_cons, iter_append] at h4
        have hl1 := HL0.out
        rw [drop_get hlt, List.flatMap_cons, List.length_append] at hl1
        have HL1 := Lib.hid hl1; clear hl1 HL0
        generalize C[k] = f at *
        have hsxr := HSX.out.keep (w' := wr) fun k _ hr => h3.block k (HE.out.off k hr).1 (HE.out.off k hr).2
        have hfit := fun w' (hb' : Below wr.heap.size wr w') => fitQ_any v ⟨xnm, xargs⟩ f b A1 xargs.length c1 A2 n2 c2 w' R R (hmr.below hb') (hsxr.below hb') (hs2.below hb') hfc.2.symm HOX.out.2 (ground_okT hfc.1).1
        have hbk : ∀ k, R k → wr.heap[k]? = w.heap[k]? := fun k hr => h3.block k (HE.out.off k hr).1 (HE.out.off k hr).2
        have hwsz := h3.size
        have HER := Lib.hid her; have HNR := Lib.hid hnr; have H1 := Lib.hid h1; have H2 := Lib.hid h2; have H3 := Lib.hid h3; have H4 := Lib.hid h4; have HFC := Lib.hid hfc; have HSUB := Lib.hid hsub; have HBK := Lib.hid hbk
        have q0 : (0 : Int) ≤ (k : Int) := by omega
        have q1 : (k : Int) < (C.length : Int) := by omega
        cases hft : fitGo v xargs f.args with
        | none =>
          have hse : stepE Ls La body i ⟨xnm, xargs⟩ v f = [] := by unfold stepE; simp only; rw [hft]
          rw [hse, iterF] at h4
          simp only [if_true] at h4
          rw [hft] at hfit
          have HFIT := Lib.hid hfit; have HD := Lib.hid h4
          clear her hmr hnr hsr hfc hsub hsxr hfit h1 h2 h3 h4 hbk hft hse hs2 H4
          go_wp2_with fail
          have hbx := blkAt wr (.cells #[.string ⟨f.name.toArray⟩, .slice A2 n2 c2] 31) rfl
          have hbW : Below wr.heap.size wr (wr.alloc (.cells #[.string ⟨f.name.toArray⟩, .slice A2 n2 c2] 31)) := boxed
          generalize wr.alloc (.cells #[.string ⟨f.name.toArray⟩, .slice A2 n2 c2] 31) = W5 at *
          have HBW := Lib.hid hbW
          have HX := Lib.hid (fun (z : World) (hz : Below W5.heap.size W5 z) => And.intro ((cell_blk (keptBlk hz hbx) 0).trans rfl) (And.intro ((cell_blk (keptBlk hz hbx) 1).trans rfl) (HX0.out z (fun k hr => ((HBW.out.trans (hz.mono HBW.out.size)).block k (HER.out.off k hr).1).trans (HBK.out k hr)))))
          clear hbx hbW e1 e2
          refine wpH_region (fun z => Below W5.heap.size W5 z) (by kernel_rfl) ?_
          have hS : Below W5.heap.size W5 W5.drew := (Below.refl _ _).drew
          (refine tkW 0 (v := ?_) hS ?_ ?_; rotate_left; (focus (intro x hx; have fx := HX.out x hx; go_simp; (try with_reducible rfl); done)); (try simp only [Act.put, lsa, lsz, lss]))
          (refine tkW 1 (v := ?_) hS ?_ ?_; rotate_left; (focus (intro x hx; have fx := HX.out x hx; go_simp; (try with_reducible rfl); done)); (try simp only [Act.put, lsa, lsz, lss]))
          (refine tkW 2 (v := ?_) hS ?_ ?_; rotate_left; (focus (intro x hx; have fx := HX.out x hx; go_simp; (try with_reducible rfl); done)); (try simp only [Act.put, lsa, lsz, lss]))
          (refine tkW 3 (v := ?_) hS ?_ ?_; rotate_left; (focus (intro x hx; have fx := HX.out x hx; go_simp; (try with_reducible rfl); done)); (try simp only [Act.put, lsa, lsz, lss]))
          (refine tkW 4 (v := ?_) hS ?_ ?_; rotate_left; (focus (intro x hx; have fx := HX.out x hx; go_simp; (try with_reducible rfl); done)); (try simp only [Act.put, lsa, lsz, lss]))
          (refine tkW 5 (v := ?_) hS ?_ ?_; rotate_left; (focus (intro x hx; have fx := HX.out x hx; go_simp; (try with_reducible rfl); done)); (try simp only [Act.put, lsa, lsz, lss]))
          (refine tkW 6 (v := ?_) hS ?_ ?_; rotate_left; (focus (intro x hx; have fx := HX.out x hx; go_simp; (try with_reducible rfl); done)); (try simp only [Act.put, lsa, lsz, lss]))
          (refine wpAnyH_one 7 (by kernel_rfl) rfl ?_; intro K' hK'; go_simp; refine (HFIT.out _ (HBW.out.trans (hS.mono HBW.out.size))).mono ?_; rintro e w7 ⟨rfl, hb7⟩; have hS := hS.trans (hb7.mono hS.size); refine hK'.out _ _ hS ?_; clear hK' K')
          (refine tkW 8 (v := ?_) hS ?_ ?_; rotate_left; (focus (intro x hx; have fx := HX.out x hx; go_simp; (try with_reducible rfl); done)); (try simp only [Act.put, lsa, lsz, lss]))
          (refine tkW 9 (v := ?_) hS ?_ ?_; rotate_left; (focus (intro x hx; have fx := HX.out x hx; go_simp; (try with_reducible rfl); done)); (try simp only [Act.put, lsa, lsz, lss]))
          (refine tkW 10 (v := ?_) hS ?_ ?_; rotate_left; (focus (intro x hx; have fx := HX.out x hx; go_simp; (try with_reducible rfl); done)); (try simp only [Act.put, lsa, lsz, lss]))
          (refine tkW 11 (v := ?_) hS ?_ ?_; rotate_left; (focus (intro x hx; have fx := HX.out x hx; go_simp; (try with_reducible rfl); done)); (try simp only [Act.put, lsa, lsz, lss]))
          (refine tkW 12 (v := ?_) hS ?_ ?_; rotate_left; (focus (intro x hx; have fx := HX.out x hx; go_simp; (try with_reducible rfl); done)); (try simp only [Act.put, lsa, lsz, lss]))
          refine wpAnyH_done (by kernel_rfl) ?_ _
          have HB7 := Lib.hid (HBW.out.trans (hS.mono HBW.out.size))
          clear HX hS hb7
          go_wp2_with fail
          go_roundw
          case rel => exact ⟨k + 1, by omega, by go_num, Lib.hid ⟨s', G', ⟨HC.out.keep H1.out HB7.out, HCM.out _ _ _ (Nat.le_add_left _ _) HL1.out⟩, H2.out, H3.out.trans (Frm.any HB7.out), HD.out⟩⟩
          case measure => simp [intOf]; omega
        | some u =>
          have hse : stepE Ls La body i ⟨xnm, xargs⟩ v f = leftE Ls La body (i + 1) u := by unfold stepE; simp only; rw [hft]
          have hl1 := HL1.out
          rw [hse] at h4 hsub hl1
          rw [hft] at hfit
          have hgu := step_grb HV.out (a := ⟨xnm, xargs⟩) HFC.out.1 HFC.out.2 hft
          have hih := fun w' (hb' : Below wr.heap.size wr w') b' (hb2 : b' = b ∨ wr.heap.size ≤ b') hm' => HIH.out w' s' G' b' u (her.below hb') (HC.out.keep h1 hb') (HCM.out _ _ _ (Nat.le_add_right _ _) hl1) hm' (fun e => by rcases hb2 with hb2 | hb2; exact hnr (by rw [← hb2]; exact e); have := HC.out.bd h1 b' e; omega) hgu hsub
          have hlf := iter_lv HCL.out _ (leftE Ls La body (i + 1) u) s' hl1
          generalize iterF found (leftE Ls La body (i + 1) u) s' = fr at *
          obtain ⟨fs, fb⟩ := fr
          simp only at h4 hih hlf
          have HLF := Lib.hid hlf; clear hlf
          have HFIT := Lib.hid hfit; have HD := Lib.hid h4; have HIHu := Lib.hid hih
          clear her hmr hnr hsr hfc hsub hsxr hfit h1 h2 h3 h4 hbk hft hse hs2 H4 hgu hih HSUB hl1
          go_wp2_with fail
          have hbx := blkAt wr (.cells #[.string ⟨f.name.toArray⟩, .slice A2 n2 c2] 31) rfl
          have hbW : Below wr.heap.size wr (wr.alloc (.cells #[.string ⟨f.name.toArray⟩, .slice A2 n2 c2] 31)) := boxed
          generalize wr.alloc (.cells #[.string ⟨f.name.toArray⟩, .slice A2 n2 c2] 31) = W5 at *
          have HBW := Lib.hid hbW
          have HX := Lib.hid (fun (z : World) (hz : Below W5.heap.size W5 z) => And.intro ((cell_blk (keptBlk hz hbx) 0).trans rfl) (And.intro ((cell_blk (keptBlk hz hbx) 1).trans rfl) (HX0.out z (fun k hr => ((HBW.out.trans (hz.mono HBW.out.size)).block k (HER.out.off k hr).1).trans (HBK.out k hr)))))
          clear hbx hbW e1 e2
          refine wpH_region (fun z => Below W5.heap.size W5 z) (by kernel_rfl) ?_
          have hS : Below W5.heap.size W5 W5.drew := (Below.refl _ _).drew
          (refine tkW 0 (v := ?_) hS ?_ ?_; rotate_left; (focus (intro x hx; have fx := HX.out x hx; go_simp; (try with_reducible rfl); done)); (try simp only [Act.put, lsa, lsz, lss]))
          (refine tkW 1 (v := ?_) hS ?_ ?_; rotate_left; (focus (intro x hx; have fx := HX.out x hx; go_simp; (try with_reducible rfl); done)); (try simp only [Act.put, lsa, lsz, lss]))
          (refine tkW 2 (v := ?_) hS ?_ ?_; rotate_left; (focus (intro x hx; have fx := HX.out x hx; go_simp; (try with_reducible rfl); done)); (try simp only [Act.put, lsa, lsz, lss]))
          (refine tkW 3 (v := ?_) hS ?_ ?_; rotate_left; (focus (intro x hx; have fx := HX.out x hx; go_simp; (try with_reducible rfl); done)); (try simp only [Act.put, lsa, lsz, lss]))
          (refine tkW 4 (v := ?_) hS ?_ ?_; rotate_left; (focus (intro x hx; have fx := HX.out x hx; go_simp; (try with_reducible rfl); done)); (try simp only [Act.put, lsa, lsz, lss]))
          (refine tkW 5 (v := ?_) hS ?_ ?_; rotate_left; (focus (intro x hx; have fx := HX.out x hx; go_simp; (try with_reducible rfl); done)); (try simp only [Act.put, lsa, lsz, lss]))
          (refine tkW 6 (v := ?_) hS ?_ ?_; rotate_left; (focus (intro x hx; have fx := HX.out x hx; go_simp; (try with_reducible rfl); done)); (try simp only [Act.put, lsa, lsz, lss]))
          (refine wpAnyH_one 7 (by kernel_rfl) rfl ?_; intro K' hK'; go_simp; refine (HFIT.out _ (HBW.out.trans (hS.mono HBW.out.size))).mono ?_; rintro e w7 ⟨⟨b7, hn7, rfl, hm7⟩, hb7⟩; have hnew := hn7.imp id (fun h => Nat.le_trans HBW.out.size (Nat.le_trans hS.size h)); have hS := hS.trans (hb7.mono hS.size); refine hK'.out _ _ hS ?_; clear hK' K')
          (refine tkW 8 (v := ?_) hS ?_ ?_; rotate_left; (focus (intro x hx; have fx := HX.out x hx; go_simp; (try with_reducible rfl); done)); (try simp only [Act.put, lsa, lsz, lss]))
          (refine tkW 9 (v := ?_) hS ?_ ?_; rotate_left; (focus (intro x hx; have fx := HX.out x hx; go_simp; (try with_reducible rfl); done)); (try simp only [Act.put, lsa, lsz, lss]))
          (refine tkW 10 (v := ?_) hS ?_ ?_; rotate_left; (focus (intro x hx; have fx := HX.out x hx; go_simp; (try with_reducible rfl); done)); (try simp only [Act.put, lsa, lsz, lss]))
          (refine tkW 11 (v := ?_) hS ?_ ?_; rotate_left; (focus (intro x hx; have fx := HX.out x hx; go_simp; (try with_reducible rfl); done)); (try simp only [Act.put, lsa, lsz, lss]))
          (refine tkW 12 (v := ?_) hS ?_ ?_; rotate_left; (focus (intro x hx; have fx := HX.out x hx; go_simp; (try with_reducible rfl); done)); (try simp only [Act.put, lsa, lsz, lss]))
          refine wpAnyH_done (by kernel_rfl) ?_ _
          have hbw7 := HBW.out.trans (hS.mono HBW.out.size)
          have hcw := HIHu.out w7 hbw7 b7 hnew hm7
          obtain ⟨-, -, -, -, -, -, k4⟩ := HX.out w7 hS
          have HCW := Lib.hid hcw; have HB7 := Lib.hid hbw7
          clear HX hS hb7 hcw hbw7 hnew hn7 hm7 HIHu HFIT
          go_wp2_with fail
          refine HCW.out.mono ?_
          rintro e w8 ⟨rfl, G8, j1, j2, j3⟩
          have J1 := Lib.hid j1; have J2 := Lib.hid (fun k hk => (j2 k hk).elim (fun h => H2.out k h) fun h => .inr (Nat.le_trans hwsz (Nat.le_trans HB7.out.size h)) : ∀ k, G8 k → G k ∨ w.heap.size ≤ k); have J3 := Lib.hid ((H3.out.trans (Frm.any HB7.out)).transM j3 fun k hk h => (H2.out k h).elim id fun h => by omega)
          clear j1 j2 j3 k4
          cases fb
          · go_wp2_with fail
            refine bodyPost_ret (v := .bool false) (by simp [results, Tryz.results76, go_sem]) rfl ?_
            have hd := HD.out
            simp only [Bool.false_eq_true, if_false] at hd
            rw [hd]
            exact ⟨rfl, G8, J1.out, J2.out, J3.out⟩
          · have hd := HD.out
            simp only [if_true] at hd
            have HD2 := Lib.hid hd; clear hd HD
            go_wp2_with fail
            go_roundw
            case rel => exact ⟨k + 1, by omega, by go_num, Lib.hid ⟨fs, G8, ⟨J1.out, HLF.out (by trivial)⟩, J2.out, J3.out, HD2.out⟩⟩
            case measure => simp [intOf]; omega
      · have hd := h4
        rw [drop_end hlt, List.flatMap_nil, iterF] at hd
        have HD := Lib.hid hd; have H1 := Lib.hid h1; have H2 := Lib.hid h2; have H3 := Lib.hid h3
        clear h1 h2 h3 h4 hd
        go_wp2_with fail
        refine bodyPost_ret (v := .bool true) (by simp [results, Tryz.results76, go_sem]) rfl ?_
        rw [HD.out]
        exact ⟨rfl, G', H1.out, H2.out, H3.out⟩
end
end Go.Proofs.YtkjoaodoioicpaaGreatDoor
namespace Go.Proofs.YtkjoaodoioicpaaGreatDoor
open Go.RowKit
section
variable {σ : Type} {Fn : Nat} {caps : Array Value} {found : σ → Bnd → σ × Bool} {P : Bnd → Prop} {Lv : σ → Nat → Prop} {St : World → σ → (Nat → Prop) → Prop}
theorem each1_any (hC : CbOk Fn caps found P Lv St) {R : Nat → Prop} {kb ka kf kw ks : Nat} {A : Option Addr} {n c : Nat} {body : List Ltl} {ps pa : Nat} {Fs Is Fa Ia : Nat → Prop} {Ls La : List Atm} (hbo : BodyOk body) (hkd : ∀ x ∈ body, Kinds x.atom.args) :
    ∀ (d i : Nat), i + d = body.length → ∀ (w : World) (s : σ) (G : Nat → Prop) (b : Nat) (v : Bnd), EachE w G R kb ka kf kw ks A n c body ps pa Fs Is Fa Ia Ls La Fn caps → St w s G → Lv s (leftE Ls La body i v).length → MapA w b v → ¬ G b → GrB v → (∀ u ∈ leftE Ls La body i v, P u) →
      Calls Tryz.prog 76 (#[.int .i64 i, .map (some b)] ++ #[.pointer (some ⟨kb, 0, none⟩), .pointer (some ⟨ka, 0, none⟩), .pointer (some ⟨kf, 0, none⟩), .pointer (some ⟨kw, 0, none⟩), .pointer (some ⟨ks, 0, none⟩)]) w (EPost found St w G (iterF found (leftE Ls La body i v) s)) := by
  intro d
  induction d with
  | zero =>
    intro i hi w s G b v hE hst hlv hm hnb hv hP
    obtain rfl : i = body.length := by omega
    exact each1_end hC hbo w s G b v hE hst hlv hm hnb hP
  | succ d ih =>
    intro i hi w s G b v hE hst hlv hm hnb hv hP
    exact each1_step hC hbo hkd i (by omega) (fun w s G b v hE hst hlv hm hnb hv hP => by have := ih (i + 1) (by omega) w s G b v hE hst hlv hm hnb hv hP; rwa [Int.natCast_add] at this) w s G b v hE hst hlv hm hnb hv hP
set_option maxRecDepth 100000 in
set_option maxHeartbeats 4000000 in
theorem eachQ_any (hC : CbOk Fn caps found P Lv St) {R : Nat → Prop} {A : Option Addr} {n c : Nat} {body : List Ltl} {ps pa : Nat} {Fs Is Fa Ia : Nat → Prop} {Ls La : List Atm} (hbo : BodyOk body) (hkd : ∀ x ∈ body, Kinds x.atom.args)
    (w : World) (s : σ) (G : Nat → Prop) (hs : Sl w R A n c body) (hbs : BaseR w Fs Is ps Ls) (hba : BaseR w Fa Ia pa La) (hst : St w s G) (hlv : Lv s (eachQ body Ls La).length) (hrd : ∀ k, Fs k ∨ Is k ∨ k = ps ∨ Fa k ∨ Ia k ∨ k = pa → R k) (hoff : ∀ k, R k → k < w.heap.size ∧ ¬ G k) (hP : ∀ u ∈ eachQ body Ls La, P u) :
    Calls Tryz.prog 38 #[.slice A n c, .pointer (some ⟨ps, 0, none⟩), .pointer (some ⟨pa, 0, none⟩), .func (.func Fn) #[] caps] w fun e w' => e = .returned (.tuple #[]) ∧ ∃ G', St w' (iterF found (eachQ body Ls La) s).1 G' ∧ (∀ k, G' k → G k ∨ w.heap.size ≤ k) ∧ Frm G w w' := by
  have hF : ∀ (args : Array Value) (w : World), (callFunc 76 args).run Tryz.prog w = .ok (.enter 76 args) w := fun _ _ => by kernel_rfl
  have hmm := @run_makeMap Tryz.prog
  have hl0 : leftE Ls La body 0 [] = eachQ body Ls La := by unfold leftE eachQ; rw [List.drop_zero]
  have hany := fun w' E S M N V => each1_any hC hbo hkd body.length 0 (by omega) w' s G (w.heap.size + 1 + 1 + 1 + 1 + 1) [] E S (by rw [hl0]; exact hlv) M N V (R := fun k => R k ∨ (w.heap.size ≤ k ∧ k < w.heap.size + 5)) (kb := w.heap.size) (ka := w.heap.size + 1 + 1) (kf := w.heap.size + 1 + 1 + 1) (kw := w.heap.size + 1 + 1 + 1 + 1) (ks := w.heap.size + 1) (A := A) (n := n) (c := c) (ps := ps) (pa := pa) (Fs := Fs) (Is := Is) (Fa := Fa) (Ia := Ia) (Ls := Ls) (La := La) (by rw [hl0]; exact hP)
  rw [hl0] at hany
  have HANY := Lib.hid hany; have HC := Lib.hid hC; have HS := Lib.hid hs; have HBS := Lib.hid hbs; have HBA := Lib.hid hba; have HST := Lib.hid hst; have HRD := Lib.hid hrd; have HOF := Lib.hid hoff
  clear hany hC hs hbs hba hst hrd hoff hP hl0 hbo hkd hlv
  go_enter Tryz.func38, Tryz.ntmps38
  go_wp2_with fail
  have hW : ∀ W : World, W = ((((((w.alloc (.cells #[.slice A n c] 32)).alloc (.cells #[.pointer (some ⟨ps, 0, none⟩)] 65)).alloc (.cells #[.pointer (some ⟨pa, 0, none⟩)] 65)).alloc (.cells #[.func (.func Fn) #[] caps] 92)).alloc
      (.cells #[.func (.func 76) #[] #[.pointer (some ⟨w.heap.size, 0, none⟩), .pointer (some ⟨w.heap.size + 1 + 1, 0, none⟩), .pointer (some ⟨w.heap.size + 1 + 1 + 1, 0, none⟩), .pointer (some ⟨w.heap.size + 1 + 1 + 1 + 1, 0, none⟩), .pointer (some ⟨w.heap.size + 1, 0, none⟩)]] 121)).alloc (.map #[] 0)) →
      Below w.heap.size w W ∧ EachE W G (fun k => R k ∨ (w.heap.size ≤ k ∧ k < w.heap.size + 5)) w.heap.size (w.heap.size + 1 + 1) (w.heap.size + 1 + 1 + 1) (w.heap.size + 1 + 1 + 1 + 1) (w.heap.size + 1) A n c body ps pa Fs Is Fa Ia Ls La Fn caps ∧ MapA W (w.heap.size + 1 + 1 + 1 + 1 + 1) [] := by
    rintro W rfl
    have hb : Below w.heap.size w ((((((w.alloc (.cells #[.slice A n c] 32)).alloc (.cells #[.pointer (some ⟨ps, 0, none⟩)] 65)).alloc (.cells #[.pointer (some ⟨pa, 0, none⟩)] 65)).alloc (.cells #[.func (.func Fn) #[] caps] 92)).alloc
      (.cells #[.func (.func 76) #[] #[.pointer (some ⟨w.heap.size, 0, none⟩), .pointer (some ⟨w.heap.size + 1 + 1, 0, none⟩), .pointer (some ⟨w.heap.size + 1 + 1 + 1, 0, none⟩), .pointer (some ⟨w.heap.size + 1 + 1 + 1 + 1, 0, none⟩), .pointer (some ⟨w.heap.size + 1, 0, none⟩)]] 121)).alloc (.map #[] 0)) :=
      belowA (belowA (belowA (belowA (belowA boxed _) _) _) _) _
    refine ⟨hb, ⟨blkOld (blkOld (blkOld (blkOld (blkOld (blkAt w _ rfl) _) _) _) _) _, blkOld (blkOld (blkOld (blkAt _ _ (by simp)) _) _) _, blkOld (blkOld (blkAt _ _ (by simp)) _) _, blkOld (blkAt _ _ (by simp)) _, blkOld (blkOld (blkOld (blkOld (blkAt _ _ (by simp)) _) _) _) _, (HS.out.below hb).wide (fun k _ h => .inl h) (by decide), HBS.out.below hb, HBA.out.below hb, fun k hk => ?_, fun k hk => ⟨?_, fun hg => ?_⟩⟩, ⟨?_, fun p hp => by cases hp⟩⟩
    · rcases hk with h | h | h | h | h | h | h | h | h | h | h
      · exact .inr (by omega)
      · exact .inr (by omega)
      · exact .inr (by omega)
      · exact .inr (by omega)
      · exact .inr (by omega)
      · exact .inl (HRD.out k (by simp [h]))
      · exact .inl (HRD.out k (by simp [h]))
      · exact .inl (HRD.out k (by simp [h]))
      · exact .inl (HRD.out k (by simp [h]))
      · exact .inl (HRD.out k (by simp [h]))
      · exact .inl (HRD.out k (by simp [h]))
    · rcases hk with h | h
      · exact Nat.lt_of_lt_of_le (HOF.out k h).1 hb.size
      · simp; omega
    · rcases hk with h | h
      · exact (HOF.out k h).2 hg
      · have := HC.out.bd HST.out k hg; omega
    · have := MapV.made (T := TS) (((((w.alloc (.cells #[.slice A n c] 32)).alloc (.cells #[.pointer (some ⟨ps, 0, none⟩)] 65)).alloc (.cells #[.pointer (some ⟨pa, 0, none⟩)] 65)).alloc (.cells #[.func (.func Fn) #[] caps] 92)).alloc
        (.cells #[.func (.func 76) #[] #[.pointer (some ⟨w.heap.size, 0, none⟩), .pointer (some ⟨w.heap.size + 1 + 1, 0, none⟩), .pointer (some ⟨w.heap.size + 1 + 1 + 1, 0, none⟩), .pointer (some ⟨w.heap.size + 1 + 1 + 1 + 1, 0, none⟩), .pointer (some ⟨w.heap.size + 1, 0, none⟩)]] 121))
      simpa using this
  have hW := hW _ rfl
  obtain ⟨h1, h2, h3⟩ := hW
  refine (HANY.out _ h2 (HC.out.keep HST.out h1) h3 (fun hg => by have := HC.out.bd HST.out _ hg; omega) (fun s x h => by cases h)).mono ?_
  rintro e w7 ⟨rfl, G7, j1, j2, j3⟩
  have HB1 := Lib.hid h1; have J1 := Lib.hid j1; have J2 := Lib.hid j2; have J3 := Lib.hid j3
  clear h1 h2 h3 j1 j2 j3
  go_wp2_with fail
  ((try simp only [Exit.inBlock, Exit.then]); first | refine bodyPost_ret (results_none rfl _ _ _) rfl ?_ | refine bodyPost_end (results_none rfl _ _ _) rfl ?_)
  exact ⟨rfl, G7, J1.out, fun k hk => (J2.out k hk).elim .inl fun h => .inr (Nat.le_trans HB1.out.size h), (Frm.any HB1.out).trans J3.out⟩
end
end Go.Proofs.YtkjoaodoioicpaaGreatDoor
