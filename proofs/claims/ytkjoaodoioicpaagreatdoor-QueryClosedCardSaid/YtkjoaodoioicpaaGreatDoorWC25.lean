/- Query (package licitlaw54): a part of the proofs of its laws; see the law's own text, which comes last in 'order'. No conditions of its own. -/
import Derived.Laws.EntriesVeiled
import Derived.Test.YtkjoaodoioicpaaGreatDoorWC02
import Derived.Test.YtkjoaodoioicpaaGreatDoorWC24
set_option linter.unusedVariables false
set_option linter.unusedSimpArgs false
namespace Go.Proofs.YtkjoaodoioicpaaGreatDoor
open Go.RowKit
theorem Grw.trans {a b c : World} {F I F' I' F'' I'' : Nat → Prop} (h : Grw a b F I F' I') (k : Grw b c F' I' F'' I'') : Grw a c F I F'' I'' where
  f := fun x hx => k.f x (h.f x hx)
  f2 := fun x hx => by
    rcases k.f2 x hx with e | e
    · exact h.f2 x e
    · have := h.frm.size; exact .inr (by omega)
  i := fun x hx => k.i x (h.i x hx)
  i2 := fun x hx => by
    rcases k.i2 x hx with e | e
    · exact h.i2 x e
    · have := h.frm.size; exact .inr (by omega)
  b := k.b
  frm := h.frm.transM k.frm fun i hi hF => (h.f2 i hF).elim id fun e => by omega
theorem Grw.below {a b c : World} {F I F' I' : Nat → Prop} (h : Grw a b F I F' I') (hb : Below b.heap.size b c) : Grw a c F I F' I' := h.trans (Grw.refl h.b hb)
theorem heads_len (b : List Atm) (most : Nat) (head : Atm) : ∀ (L : List Bnd) (s : List Atm), b.length + s.length ≤ most → b.length + (iterF (headF b most head) L s).1.length ≤ most + 1
  | [], s, h => by rw [iterF]; simp only; omega
  | v :: r, s, h => by
    rw [iterF]
    have h1 : (headF b most head s v).1.length ≤ s.length + 1 := by
      unfold headF
      simp only
      split
      · omega
      · rw [List.length_append, List.length_singleton]; omega
    cases h2 : (headF b most head s v).2
    · simp only [Bool.false_eq_true, if_false]; omega
    · simp only [if_true]
      refine heads_len b most head r _ ?_
      unfold headF at h2 ⊢
      simpa using h2
theorem satR_cons (most : Nat) (r : Rul) (t : List Rul) (b : List Atm) (ag : Bool) : satR most (r :: t) b ag = if most < (b ++ headsS b most r).length then none else satR most t (b ++ headsS b most r) (ag || !(headsS b most r).isEmpty) := rfl
theorem satGo_succ (most : Nat) (l : List Rul) (f : Nat) (b : List Atm) : satGo most l (f + 1) b = match satR most l b false with
    | none => none
    | some (b', again) => if again then satGo most l f b' else some b' := rfl
def SatP (p : Nat) (V : Option (List Atm)) (e : Ending) (w' : World) (F' I' : Nat → Prop) : Prop := match V with
  | none => e = .returned (.bool false)
  | some b => e = .returned (.bool true) ∧ BaseR w' F' I' p b
set_option maxRecDepth 100000 in
set_option maxHeartbeats 16000000 in
theorem satQ_any (w00 : World) (hL : LD w00) (F I : Nat → Prop) (p : Nat) (L : List Atm) (A : Option Addr) (n c : Nat) (l : List Rul) (most : Nat) (w : World) (T : Nat → Prop) (hb : BaseR w F I p L) (hbd : ∀ k, F k ∨ I k → k < w.heap.size) (h00 : Below w00.heap.size w00 w) (hF00 : ∀ k, F k → w00.heap.size ≤ k)
    (hl : Sl w T A n c l) (hT : ∀ k, T k → ¬ F k ∧ k < w.heap.size) (hr : ∀ r ∈ l, ruleS r = true ∧ safeS r = true) (hmost : most ≤ 100000) (hLm : L.length ≤ most) :
    Calls Tryz.prog 61 #[.pointer (some ⟨p, 0, none⟩), .slice A n c, .int .i64 most] w fun e w' => ∃ F' I', Grw w w' F I F' I' ∧ SatP p (satGo most l (most + 2) L) e w' F' I' := by
  have hn := hl.len
  subst hn
  have hle := hl.le
  obtain ⟨V, hV⟩ : ∃ V, V = satGo most l (most + 2) L := ⟨_, rfl⟩
  rw [← hV]
  have hb2 : Below w.heap.size w ((w.alloc (.cells #[.pointer (some ⟨p, 0, none⟩)] 65)).alloc (.cells #[.int .i64 most] 3)) := belowA boxed _
  have hxb : ((w.alloc (.cells #[.pointer (some ⟨p, 0, none⟩)] 65)).alloc (.cells #[.int .i64 most] 3)).heap[w.heap.size]? = some (.cells #[.pointer (some ⟨p, 0, none⟩)] 65 (0, 0)) := blkOld (blkAt w _ rfl) _
  have hxm : ((w.alloc (.cells #[.pointer (some ⟨p, 0, none⟩)] 65)).alloc (.cells #[.int .i64 most] 3)).heap[w.heap.size + 1]? = some (.cells #[.int .i64 most] 3 (0, 0)) := blkAt _ _ (by simp)
  have hs2 : ((w.alloc (.cells #[.pointer (some ⟨p, 0, none⟩)] 65)).alloc (.cells #[.int .i64 most] 3)).heap.size = w.heap.size + 2 := by simp
  have hF : ∀ (args : Array Value) (w : World), (callFunc 92 args).run Tryz.prog w = .ok (.enter 92 args) w := fun _ _ => by kernel_rfl
  have HV0 : Hid (V = if true then satGo most l (most + 2) L else some L) := hV
  have HB := Lib.hid hb; have HBD := Lib.hid hbd; have H00 := Lib.hid h00; have HF00 := Lib.hid hF00; have HS := Lib.hid hl; have HT := Lib.hid hT; have HR := Lib.hid hr; have HL := Lib.hid hL; have HB2 := Lib.hid hb2; have HXB := Lib.hid hxb; have HXM := Lib.hid hxm; have HS2 := Lib.hid hs2
  clear hb hbd h00 hF00 hl hT hr hL hb2 hxb hxm hs2 hV
  go_enter Tryz.func61, Tryz.ntmps61
  go_wp2_with fail
  have hb2 := HB2.out; have hxb := HXB.out; have hxm := HXM.out; have hs2 := HS2.out
  generalize ((w.alloc (.cells #[.pointer (some ⟨p, 0, none⟩)] 65)).alloc (.cells #[.int .i64 most] 3)) = W at *
  clear HB2 HXB HXM HS2
  have HB2 := Lib.hid hb2; have HXB := Lib.hid hxb; have HXM := Lib.hid hxm; have HS2 := Lib.hid hs2
  have hbW := HB.out.below hb2
  have hbdW : ∀ k, F k ∨ I k → k < W.heap.size := fun k hk => Nat.lt_of_lt_of_le (HBD.out k hk) hb2.size
  have hg0 : Grw W W F I F I := Grw.refl hbdW (Below.refl _ _)
  have HBW := Lib.hid hbW; have HG0 := Lib.hid hg0; have HBDW := Lib.hid hbdW
  clear hb2 hxb hxm hs2 hbW hg0 hbdW
  -- what stays as it was in W
  have hst : ∀ (wr : World) F' I', Grw W wr F I F' I' → (∀ k, k < W.heap.size → ¬ F k → wr.heap[k]? = W.heap[k]?) ∧ (∀ k, F' k → F k ∨ W.heap.size ≤ k) ∧ Below w00.heap.size w00 wr := fun wr F' I' hg =>
    ⟨fun k hk hF => hg.frm.block k hk hF, hg.f2, ((H00.out.trans (HB2.out.mono H00.out.size)).trans (hg.frm.below (by have := H00.out.size; have := HB2.out.size; omega) fun i hi hF => by have := HF00.out i hF; omega))⟩
  have HST := Lib.hid hst; clear hst
  go_loopg [7] (most + 2) (fun g av wr => ∃ again b, av = .bool again ∧ b.length ≤ most ∧ Hid (∃ F' I', BaseR wr F' I' p b ∧ Grw W wr F I F' I') ∧ Hid (V = if again then satGo most l g b else some b) ∧ Hid (again = true → most + 2 ≤ g + b.length))
  case atStart => exact ⟨true, L, rfl, hLm, Lib.hid ⟨F, I, HBW.out, HG0.out⟩, HV0, Lib.hid (fun _ => by omega)⟩
  case round =>
    obtain ⟨again, b, rfl, hbl, hm, hv, hgk⟩ := hrel
    cases again
    case false =>
      go_wp2_with fail
      refine bodyPost_ret (v := .bool true) (by simp [results, Tryz.results61, go_sem]) rfl ?_
      obtain ⟨F', I', h1, h2⟩ := hm.out
      have hvv := hv.out
      simp only [Bool.false_eq_true, if_false] at hvv
      rw [hvv]
      exact ⟨F', I', (Grw.refl HBD.out HB2.out).trans h2, rfl, h1⟩
    case true =>
      obtain ⟨g', hg'⟩ : ∃ g', gk = g' + 1 := ⟨gk - 1, by have := hgk.out rfl; omega⟩
      have hvv := hv.out
      simp only [if_true] at hvv
      rw [hg', satGo_succ] at hvv
      have HVV := Lib.hid hvv
      have hgk' := hgk.out rfl
      clear hvv hv hgk
      go_wp2_with fail
      obtain ⟨wo, rfl⟩ : ∃ wo, wo = wr := ⟨_, rfl⟩
      go_loopw [7, 17] (fun av i wr => ∃ k : Nat, k ≤ l.length ∧ i = .int .i64 k ∧ ∃ ag bC, av = .bool ag ∧ bC.length ≤ most ∧ Hid (∃ F' I', BaseR wr F' I' p bC ∧ Grw W wr F I F' I') ∧ Hid (satR most l b false = satR most (l.drop k) bC ag) ∧ Hid (b.length ≤ bC.length ∧ (ag = true → b.length < bC.length))) (fun _ i _ => l.length - (intOf i).toNat)
      case atStart => exact ⟨0, by omega, rfl, false, b, rfl, hbl, hm, Lib.hid rfl, Lib.hid ⟨Nat.le_refl _, fun h => by cases h⟩⟩
      case round =>
        obtain ⟨k, hk, rfl, ag, bC, rfl, hbC, hmC, hsR, hlen⟩ := hrel
        by_cases hlt : k < l.length
        · obtain ⟨F', I', hbr, hgw⟩ := hmC.out
          obtain ⟨hst1, hst2, hst3⟩ := HST.out wr F' I' hgw
          have hwW := HS2.out
          have hwr := hgw.frm.size
          have hsl : Sl wr T A l.length c l := HS.out.keep fun k hk hTk => (hst1 k (by omega) (HT.out k hTk).1).trans (HB2.out.block k (HT.out k hTk).2)
          obtain ⟨b1, o1, rfl, -, hbs1, A1, n1, c1, A2, n2, c2, g1, g2, g3, hs1, hs2⟩ := hsl.rul hlt
          obtain ⟨hrr, hrs⟩ := HR.out _ (List.getElem_mem hlt)
          have hsR1 := hsR.out
          rw [drop_get hlt, satR_cons] at hsR1
          generalize l[k] = r at *
          obtain ⟨hok, hbo, hkd, hh6, hhd⟩ := ruleS_ok hrr
          have hrok : RuleOk r := ⟨safe_safe hrs, hhd⟩
          have hpr := heads_ground hrok (b := bC) (nb := bC) hbr.gr
          obtain ⟨hnd, hnb, hhg, -, -⟩ := headF_iter bC most r.head (eachQ r.body bC bC) [] List.nodup_nil (fun h hh => by cases hh)
          have hhl := heads_len bC most r.head (eachQ r.body bC bC) [] (by simpa using hbC)
          have hgs : ∀ h ∈ (iterF (headF bC most r.head) (eachQ r.body bC bC) []).1, groundP h = true := fun h hh => by
            rcases hhg h hh with h' | ⟨v, hv, rfl⟩
            · cases h'
            · exact hpr v hv
          obtain rfl : n1 = r.head.args.length := hs1.len
          have hkb := (hst1 w.heap.size (by omega) (fun h => by have := HBD.out _ (.inl h); omega)).trans HXB.out
          have hkm := (hst1 (w.heap.size + 1) (by omega) (fun h => by have := HBD.out _ (.inl h); omega)).trans HXM.out
          have HBR := Lib.hid hbr; have HGW := Lib.hid hgw; have HST1 := Lib.hid hst1; have HST3 := Lib.hid hst3; have HSL := Lib.hid hsl; have HSR1 := Lib.hid hsR1; have HOK := Lib.hid hok; have HBO := Lib.hid hbo; have HKD := Lib.hid hkd; have HPR := Lib.hid hpr; have HND := Lib.hid hnd; have HNB := Lib.hid hnb; have HHL := Lib.hid hhl; have HGS := Lib.hid hgs; have HS1 := Lib.hid hs1; have HS2b := Lib.hid hs2; have HKB := Lib.hid hkb; have HKM := Lib.hid hkm; have HWW := Lib.hid (And.intro hwW hwr)
          clear hbr hgw hst1 hst2 hst3 hsl hsR1 hsR hok hbo hkd hpr hnd hnb hhg hhl hgs hs1 hs2 hkb hkm hrr hrs hhd hrok hmC hwW hwr
          go_wp2_with fail
          have hbA : Below wr.heap.size wr ((wr.alloc (.cells #[.string ⟨r.head.name.toArray⟩, .slice A1 r.head.args.length c1, .slice A2 n2 c2] 34)).alloc (.cells #[.slice none 0 0] 23)) := belowA boxed _
          have hkr : ((wr.alloc (.cells #[.string ⟨r.head.name.toArray⟩, .slice A1 r.head.args.length c1, .slice A2 n2 c2] 34)).alloc (.cells #[.slice none 0 0] 23)).heap[wr.heap.size]? = some (.cells #[.string ⟨r.head.name.toArray⟩, .slice A1 r.head.args.length c1, .slice A2 n2 c2] 34 (0, 0)) := blkOld (blkAt wr _ rfl) _
          have hkh : ((wr.alloc (.cells #[.string ⟨r.head.name.toArray⟩, .slice A1 r.head.args.length c1, .slice A2 n2 c2] 34)).alloc (.cells #[.slice none 0 0] 23)).heap[wr.heap.size + 1]? = some (.cells #[.slice none 0 0] 23 (0, 0)) := blkAt _ _ (by simp)
          have hsA : ((wr.alloc (.cells #[.string ⟨r.head.name.toArray⟩, .slice A1 r.head.args.length c1, .slice A2 n2 c2] 34)).alloc (.cells #[.slice none 0 0] 23)).heap.size = wr.heap.size + 2 := by simp
          generalize ((wr.alloc (.cells #[.string ⟨r.head.name.toArray⟩, .slice A1 r.head.args.length c1, .slice A2 n2 c2] 34)).alloc (.cells #[.slice none 0 0] 23)) = W2 at *
          refine (emptyQ_any W2 (fun _ => False) (fun _ h => h.elim)).mono ?_
          rintro e w3 ⟨rfl, hbe, hb3⟩
          have hb3' : Below wr.heap.size wr w3 := hbA.trans (hb3.mono hbA.size)
          have hkr3 := keptBlk hb3 hkr
          have hkh3 := keptBlk hb3 hkh
          have hkb3 := keptBlk hb3' HKB.out
          have hkm3 := keptBlk hb3' HKM.out
          have hpe := hbe.lt
          have k2 := (cell_blk hkr3 2).trans rfl
          have kb0 := (cell_blk hkb3 0).trans rfl
          have hlr : wr.heap.size < w3.heap.size := by omega
          have hlb : w.heap.size < w3.heap.size := by have := HWW.out; omega
          have HSA := Lib.hid hsA; have HB3 := Lib.hid hb3'; have HKR3 := Lib.hid hkr3; have HKH3 := Lib.hid hkh3; have HKB3 := Lib.hid hkb3; have HKM3 := Lib.hid hkm3; have HBE := Lib.hid hbe
          clear hbA hkr hkh hsA hb3 hb3' hkr3 hkh3 hkb3 hkm3 hbe
          go_wp2_with fail
          clear k2 kb0 hlr hlb
          have hb4 : Below wr.heap.size wr (w3.alloc (.cells #[.pointer (some ⟨W2.heap.size + 2, 0, none⟩)] 65)) := HB3.out.alloc HB3.out.size _
          have hkf := blkAt w3 (.cells #[.pointer (some ⟨W2.heap.size + 2, 0, none⟩)] 65) rfl
          have hkr4 := blkOld HKR3.out (.cells #[.pointer (some ⟨W2.heap.size + 2, 0, none⟩)] 65)
          have hkh4 := blkOld HKH3.out (.cells #[.pointer (some ⟨W2.heap.size + 2, 0, none⟩)] 65)
          have hkb4 := blkOld HKB3.out (.cells #[.pointer (some ⟨W2.heap.size + 2, 0, none⟩)] 65)
          have hkm4 := blkOld HKM3.out (.cells #[.pointer (some ⟨W2.heap.size + 2, 0, none⟩)] 65)
          have hbe4 := HBE.out.alloc (.cells #[.pointer (some ⟨W2.heap.size + 2, 0, none⟩)] 65)
          have hz4 : w3.heap.size < (w3.alloc (.cells #[.pointer (some ⟨W2.heap.size + 2, 0, none⟩)] 65)).heap.size := lt_alloc _ _
          generalize w3.alloc (.cells #[.pointer (some ⟨W2.heap.size + 2, 0, none⟩)] 65) = W4 at *
          have hsA := HSA.out
          obtain ⟨hwW, hwr⟩ := HWW.out
          have hTr : ∀ k, T k → k < w.heap.size := fun k hk => (HT.out k hk).2
          have hFr : ∀ k, F' k ∨ I' k → k < wr.heap.size := HGW.out.b
          have hpr := HBR.out.lt
          have htwo : ∀ k, twoB W2.heap.size k → wr.heap.size + 2 ≤ k ∧ k < W2.heap.size + 2 := fun k hk => by rcases hk with h | h <;> omega
          have hsx : StX wr (W2.heap.size + 2) p wr.heap.size w.heap.size w3.heap.size (wr.heap.size + 1) (w.heap.size + 1) A1 r.head.args.length c1 A2 n2 c2 r.head F' I' bC most T W4 [] [] (twoB W2.heap.size) (fun _ => False) (fun _ => False) none 0 :=
            ⟨hbe4, fun k hk => by rcases hk with hk | hk; have := htwo k hk; omega; exact hk.elim, hkh4, Own.nil _ _ _ _, fun k hk => ⟨by have := htwo k hk; omega, (fun e => by cases e), by have := htwo k hk; omega⟩, fun k hk => hk.elim, fun k hk => hk.elim, ⟨(fun e => by cases e), by omega, by omega, (fun e => by cases e)⟩, HBR.out.below hb4, hkr4, hkb4, hkf, hkm4, HS1.out.below hb4, fun k hk => ⟨?_, fun h => ?_, ?_, (fun e => by cases e)⟩, hb4⟩
          rotate_left
          · rcases hk with h | h | h | h | h | h | h | h
            · omega
            · omega
            · omega
            · omega
            · have := hTr k h; omega
            · have := hFr k (.inl h); omega
            · have := hFr k (.inr h); omega
            · omega
          · have := htwo k h
            rcases hk with h | h | h | h | h | h | h | h
            · omega
            · omega
            · omega
            · omega
            · have := hTr k h; omega
            · have := hFr k (.inl h); omega
            · have := hFr k (.inr h); omega
            · omega
          · rcases hk with h | h | h | h | h | h | h | h
            · omega
            · omega
            · omega
            · omega
            · have := hTr k h; omega
            · have := hFr k (.inl h); omega
            · have := hFr k (.inr h); omega
            · omega
          have hss : StS wr (W2.heap.size + 2) p wr.heap.size w.heap.size w3.heap.size (wr.heap.size + 1) (w.heap.size + 1) A1 r.head.args.length c1 A2 n2 c2 r.head F' I' bC most T W4 [] (fun k => twoB W2.heap.size k ∨ k = wr.heap.size + 1 ∨ (none : Option Addr).map Addr.block = some k) := ⟨_, _, _, _, _, hsx, fun k => Iff.rfl⟩
          have hea := eachQ_any (sat1_ok wr (HL.out.below HST3.out) (W2.heap.size + 2) p wr.heap.size w.heap.size w3.heap.size (wr.heap.size + 1) (w.heap.size + 1) A1 r.head.args.length c1 A2 n2 c2 r.head F' I' bC most T HOK.out.1 (by omega) hmost) (R := fun k => T k ∨ F' k ∨ I' k ∨ k = p) (A := A2) (n := n2) (c := c2) (ps := p) (pa := p) (Fs := F') (Is := I') (Fa := F') (Ia := I') HBO.out HKD.out W4 [] _
            ((HS2b.out.below hb4).wide (fun k _ h => .inl h) (by decide)) (HBR.out.below hb4) (HBR.out.below hb4) hss (by simpa using hbC) (fun k hk => by
              rcases hk with h | h | h | h | h | h
              · exact .inr (.inl h)
              · exact .inr (.inr (.inl h))
              · exact .inr (.inr (.inr h))
              · exact .inr (.inl h)
              · exact .inr (.inr (.inl h))
              · exact .inr (.inr (.inr h))) (fun k hk => by
              have hk2 : k < wr.heap.size := by
                rcases hk with h | h | h | h
                · have := hTr k h; omega
                · exact hFr k (.inl h)
                · exact hFr k (.inr h)
                · omega
              refine ⟨by omega, fun h => ?_⟩
              rcases h with h | h | h
              · have := htwo k h; omega
              · omega
              · cases h) HPR.out
          have hhe : (iterF (headF bC most r.head) (eachQ r.body bC bC) []).1 = headsS bC most r := rfl
          rw [hhe] at hea HND HNB HHL HGS
          have HEA := Lib.hid hea; have HTW := Lib.hid htwo; have HFR := Lib.hid hFr; have HZ4 := Lib.hid (And.intro hb4 hz4)
          clear hea htwo hFr hTr hss hsx hbe4 hkf hkr4 hkh4 hkb4 hkm4 hhe hb4 hz4 hwW hwr hsA hpr HKR3 HKH3 HKB3 HKM3 HBE HS1 HS2b HBO HKD HPR hpe
          generalize headsS bC most r = hs at *
          refine HEA.out.mono ?_
          rintro e w6 ⟨rfl, G6, ⟨Ff, If, Th, Ah, ch, hx6, hG6⟩, hG6', hf6⟩
          have hb6 : Below wr.heap.size wr w6 := HZ4.out.1.trans (hf6.below HZ4.out.1.size fun k hk h => by
            rcases h with h | h | h
            · have := HTW.out k h; omega
            · omega
            · cases h)
          have hgw6 := HGW.out.below hb6
          have hbr6 := hx6.base
          have hhb := hx6.hb
          have hho := hx6.ho
          have hd3 := hx6.d3
          have hkb6 := hx6.b2
          have hkm6 := hx6.b4
          have hhl0 := HHL.out
          have hF6 : ∀ k, F' k → k < wr.heap.size := fun k hk => HFR.out k (.inl hk)
          have hsl6 := (hho.sl (by decide)).wide (S' := fun k => wr.heap.size ≤ k) (fun k _ hk => by
            rcases hk with hk | hk
            · exact (hd3 k hk).2.2.2.2
            · exact (hho.lt k hk).1) (by decide)
          have kh0 := (cell_blk hhb 0).trans rfl
          have HGW6 := Lib.hid hgw6; have HBR6 := Lib.hid hbr6; have HSL6 := Lib.hid hsl6; have HF6 := Lib.hid hF6; have HKB6 := Lib.hid hkb6; have HKM6 := Lib.hid hkm6; have HWS := Lib.hid hb6.size
          clear hgw6 hbr6 hhb hho hd3 hkb6 hkm6 hF6 hsl6 hx6 hG6 hG6' hf6 hb6 HEA HZ4 HTW
          go_wp2_with fail
          clear kh0
          obtain ⟨wz, rfl⟩ : ∃ wz, wz = wr := ⟨_, rfl⟩
          go_loopw [7, 30] (fun av i wx => ∃ q : Nat, q ≤ hs.length ∧ i = .int .i64 q ∧ av = .bool (ag || decide (0 < q)) ∧ Hid (∃ F'' I'', BaseR wx F'' I'' p (bC ++ hs.take q) ∧ Grw w6 wx F' I' F'' I'')) (fun _ i _ => hs.length - (intOf i).toNat)
          case atStart => exact ⟨0, by omega, rfl, by simp, Lib.hid ⟨F', I', by rw [List.take_zero, List.append_nil]; exact HBR6.out, Grw.refl HGW6.out.b (Below.refl _ _)⟩⟩
          case round =>
            obtain ⟨q, hq, rfl, rfl, hq2⟩ := hrel
            obtain ⟨F2, I2, hb2, hg2⟩ := hq2.out
            have hnF : ∀ k, k = w.heap.size ∨ k = w.heap.size + 1 → ¬ F' k := fun k hk h => by
              have := HWW.out
              rcases HGW.out.f2 k h with h' | h'
              · have := HBD.out k (.inl h'); omega
              · omega
            have hww := HWW.out
            have hws := HWS.out
            have hkb := (hg2.frm.block w.heap.size (by omega) (hnF _ (.inl rfl))).trans HKB6.out
            have hkm := (hg2.frm.block (w.heap.size + 1) (by omega) (hnF _ (.inr rfl))).trans HKM6.out
            have hgt := HGW6.out.trans hg2
            have hL2 := HL.out.below (HST.out _ _ _ hgt).2.2
            have kb0 := (cell_blk hkb 0).trans rfl
            have km0 := (cell_blk hkm 0).trans rfl
            by_cases hlt2 : q < hs.length
            · obtain ⟨b2, o2, hAh, -, hbs2, A5, n5, c5, e1, e2, hs5⟩ := (HSL6.out.keep (w' := wr) fun k hk h => hg2.frm.block k hk (fun hF => by have := HF6.out k hF; omega)).atm hlt2
              subst hAh
              have hgx := HGS.out _ (List.getElem_mem hlt2)
              have hnot : hs[q] ∉ bC ++ hs.take q := fun h => by
                rcases List.mem_append.1 h with h | h
                · exact HNB.out _ (List.getElem_mem hlt2) h
                · obtain ⟨i, hi, e⟩ := List.getElem_of_mem h
                  rw [List.length_take] at hi
                  rw [List.getElem_take] at e
                  exact List.pairwise_iff_getElem.1 HND.out i q (by omega) hlt2 (by omega) e
              have hcon : (bC ++ hs.take q).contains hs[q] = false := by
                cases hc : (bC ++ hs.take q).contains hs[q]
                · rfl
                · exact absurd (List.contains_iff_mem.1 hc) hnot
              have hadd : addQ (bC ++ hs.take q) hs[q] = bC ++ hs.take (q + 1) := by
                rw [addQ, hcon, if_neg (by decide), List.append_assoc, List.take_succ_eq_append_getElem hlt2]
              have had := fun w' (hb' : Below wr.heap.size wr w') => addQ_any F2 I2 p (bC ++ hs.take q) hs[q] A5 n5 c5 w' _ (hb2.below hb') (fun k hk => Nat.lt_of_lt_of_le (hg2.b k hk) hb'.size) (hs5.below hb') hgx (hL2.below hb') (by rw [List.length_append, List.length_take]; omega)
              rw [hcon, hadd] at had
              generalize hs[q] = x at *
              have HAD := Lib.hid had; have HG2 := Lib.hid hg2
              have hkbl : w.heap.size < wr.heap.size := (Array.getElem?_eq_some_iff.1 hkb).1
              clear had hb2 hg2 hnF hkb hkm hgt hL2 hs5 hgx hnot hcon hadd hq2 km0
              go_wp2_with fail
              refine (HAD.out _ boxed).mono ?_
              rintro e w7 ⟨rfl, F3, I3, j1, j2⟩
              have hg3 := (HG2.out.below boxed).trans j2
              have HQ := Lib.hid (show ∃ F'' I'', BaseR w7 F'' I'' p (bC ++ hs.take (q + 1)) ∧ Grw w6 w7 F' I' F'' I'' from ⟨F3, I3, j1, hg3⟩)
              clear j1 j2 hg3 kb0 e1 e2
              go_wp2_with fail
              go_roundw
              case rel => exact ⟨q + 1, by omega, by go_num, by simp, HQ⟩
              case measure => simp [intOf]; omega
            · have hqe : q = hs.length := by omega
              subst hqe
              rw [List.take_length] at hb2
              obtain ⟨fb, fm, q0, -, hmv, hfl⟩ := hb2.len
              have HX := Lib.hid (fun (z : World) (hz : Below wr.heap.size wr z) => And.intro ((cell_blk (keptBlk hz hkb) 0).trans rfl) (And.intro ((cell_blk (keptBlk hz hkm) 0).trans rfl) (And.intro (cell_later hz q0) ((hmv.below hz).len Tryz.underlying88 3))))
              have HB2' := Lib.hid hb2; have HGT := Lib.hid hgt
              have HFLL := Lib.hid (show fm.length = bC.length + hs.length by rw [hfl, List.length_append])
              clear hb2 hg2 hnF hkb hkm hgt hL2 hq2 kb0 km0 hmv q0 hfl
              go_wp2_with fail
              refine wpH_region (fun z => Below wr.heap.size wr z) (by kernel_rfl) ?_
              have hS : Below wr.heap.size wr wr.drew := (Below.refl _ _).drew
              (refine tkW 0 (v := ?_) hS ?_ ?_; rotate_left; (focus (intro x hx; have fx := HX.out x hx; go_simp; (try with_reducible rfl); done)); (try simp only [Act.put, lsa, lsz, lss]))
              (refine tkW 1 (v := ?_) hS ?_ ?_; rotate_left; (focus (intro x hx; have fx := HX.out x hx; go_simp; (try with_reducible rfl); done)); (try simp only [Act.put, lsa, lsz, lss]))
              (refine tkW 2 (v := ?_) hS ?_ ?_; rotate_left; (focus (intro x hx; have fx := HX.out x hx; go_simp; (try with_reducible rfl); done)); (try simp only [Act.put, lsa, lsz, lss]))
              (refine tkW 3 (v := ?_) hS ?_ ?_; rotate_left; (focus (intro x hx; have fx := HX.out x hx; go_simp; (try with_reducible rfl); done)); (try simp only [Act.put, lsa, lsz, lss]))
              (refine tkW 4 (v := ?_) hS ?_ ?_; rotate_left; (focus (intro x hx; have fx := HX.out x hx; go_simp; (try with_reducible rfl); done)); (try simp only [Act.put, lsa, lsz, lss]))
              (refine tkW 5 (v := ?_) hS ?_ ?_; rotate_left; (focus (intro x hx; have fx := HX.out x hx; go_simp; (try with_reducible rfl); done)); (try simp only [Act.put, lsa, lsz, lss]))
              (refine tkW 6 (v := ?_) hS ?_ ?_; rotate_left; (focus (intro x hx; have fx := HX.out x hx; go_simp; (try with_reducible rfl); done)); (try simp only [Act.put, lsa, lsz, lss]))
              refine wpAnyH_done (by kernel_rfl) ?_ _
              have HB9 := Lib.hid hS
              clear HX
              have hfll := HFLL.out
              by_cases hmo : most < bC.length + hs.length
              · have hmI : (most : Int) < (fm.length : Int) := by omega
                have hr1 := HSR1.out
                rw [if_pos (by rw [List.length_append]; exact hmo)] at hr1
                have hv2 := HVV.out
                rw [hr1] at hv2
                simp only at hv2
                have HV2 := Lib.hid hv2
                clear hr1 hv2 hfll
                go_wp2_with fail
                refine bodyPost_ret (v := .bool false) (by simp [results, Tryz.results61, go_sem]) rfl ?_
                rw [HV2.out]
                exact ⟨F2, I2, (Grw.refl HBD.out HB2.out).trans (HGT.out.below HB9.out), rfl⟩
              · have hmI : ¬ (most : Int) < (fm.length : Int) := by omega
                have hr1 := HSR1.out
                rw [if_neg (by rw [List.length_append]; exact hmo)] at hr1
                have hemp : (!hs.isEmpty) = decide (0 < hs.length) := by cases hs <;> simp
                rw [hemp] at hr1
                have HSR2 := Lib.hid hr1
                have hl2 := hlen.out
                have HQ := Lib.hid (show ∃ F' I', BaseR wr.drew F' I' p (bC ++ hs) ∧ Grw W wr.drew F I F' I' from ⟨F2, I2, HB2'.out.below HB9.out, HGT.out.below HB9.out⟩)
                have HLN := Lib.hid (show b.length ≤ (bC ++ hs).length ∧ ((ag || decide (0 < hs.length)) = true → b.length < (bC ++ hs).length) by
                  rw [List.length_append]
                  refine ⟨by omega, fun h => ?_⟩
                  rw [Bool.or_eq_true] at h
                  rcases h with h | h
                  · have := hl2.2 h; omega
                  · simp only [decide_eq_true_eq] at h; omega)
                have hbl2 : (bC ++ hs).length ≤ most := by rw [List.length_append]; omega
                clear hr1 hl2 hemp hfll
                go_wp2_with fail
                go_roundw
                case rel => exact ⟨k + 1, by omega, by go_num, ag || decide (0 < hs.length), bC ++ hs, rfl, hbl2, HQ, HSR2, HLN⟩
                case measure => simp [intOf]; omega
        · have hr1 := hsR.out
          rw [drop_end hlt, satR] at hr1
          have hv2 := HVV.out
          rw [hr1] at hv2
          simp only at hv2
          have HV2 := Lib.hid hv2
          have hl2 := hlen.out
          clear hr1 hv2 hsR hlen HVV
          go_wp2_with fail
          go_roundg g'
          case measure => omega
          case rel => exact ⟨ag, bC, rfl, hbC, hmC, HV2, Lib.hid (fun h => by have := hl2.2 h; omega)⟩
end Go.Proofs.YtkjoaodoioicpaaGreatDoor
namespace Go.Proofs.YtkjoaodoioicpaaGreatDoor
open Go.RowKit
theorem satR_le (most : Nat) : ∀ (rs : List Rul) (b : List Atm) (ag : Bool) (b' : List Atm) (ag' : Bool), satR most rs b ag = some (b', ag') → b.length ≤ most → b'.length ≤ most
  | [], b, ag, b', ag', h, hb => by
    rw [satR] at h
    injection h with h
    injection h with h1 h2
    rw [← h1]; exact hb
  | r :: t, b, ag, b', ag', h, hb => by
    rw [satR_cons] at h
    split at h
    · cases h
    · rename_i hn
      exact satR_le most t _ _ b' ag' h (by omega)
theorem satGo_le (most : Nat) (l : List Rul) : ∀ (f : Nat) (b b' : List Atm), satGo most l f b = some b' → b.length ≤ most → b'.length ≤ most
  | 0, b, b', h, _ => by cases h
  | f + 1, b, b', h, hb => by
    rw [satGo_succ] at h
    cases hs : satR most l b false with
    | none => rw [hs] at h; cases h
    | some q =>
      obtain ⟨b1, ag⟩ := q
      rw [hs] at h
      simp only at h
      have h1 := satR_le most l b false b1 ag hs hb
      cases ag
      · simp only [Bool.false_eq_true, if_false, Option.some.injEq] at h
        rw [← h]; exact h1
      · simp only [if_true] at h
        exact satGo_le most l f b1 b' h h1
theorem Own.toRow {w : World} {T : Nat → Prop} {base : Nat} {A : Option Addr} {c : Nat} {xs : List Rul} (h : Own w T base 34 A c xs) (hA : A ≠ none) : ∃ g, A = some ⟨g, 0, none⟩ ∧ base ≤ g ∧ g < w.heap.size ∧ c ≤ 9223372036854775807 ∧ RowC w (fun k => (T k ∧ k < w.heap.size) ∧ k ≠ g) g c xs := by
  have hcap := h.cap
  obtain ⟨cs, ⟨h1, h2⟩, h3⟩ := h
  rcases h2 with ⟨hv, h0⟩ | ⟨g, cap, cur, hv, hb, hg, hn, hm, hcs, htk⟩
  · injection hv with e1 e2 e3
    exact absurd e1 hA
  · injection hv with e1 e2 e3
    subst e1
    have hsz : GoT.size Rul = 3 := rfl
    rw [hsz] at h1 htk hcs
    have hcell : ∀ i j, i < xs.length → j < 3 → w.cell? ⟨g, i * 3 + j, none⟩ = some (cs.getD (i * 3 + j) undef) := fun i j hi hj => by
      rw [cell_blk hg]
      have hlt : i * 3 + j < cs.length := by omega
      rw [List.getD_eq_getElem?_getD, List.getElem?_eq_getElem hlt, Option.getD_some]
      have h5 : cs[i * 3 + j]? = some cs[i * 3 + j] := List.getElem?_eq_getElem hlt
      rw [← h5]
      conv => rhs; rw [← htk]
      rw [List.getElem?_take, if_pos (by omega), Array.getElem?_toList]
    refine ⟨g, rfl, hb, (Array.getElem?_eq_some_iff.1 hg).1, hcap.2, fun t ht => ⟨?_, frz_blk hg t⟩, by rw [e3]; exact hn, fun i hi => ?_⟩
    · rw [cell_blk hg, Array.getElem?_eq_getElem (by rw [hcs, ← e3]; exact ht)]; rfl
    · obtain ⟨r0, ⟨A1, n1, c1, r1, s1⟩, A2, n2, c2, r2, s2⟩ := h3 i hi
      refine ⟨A1, n1, c1, A2, n2, c2, (hcell i 0 hi (by omega)).trans (congrArg some r0), (hcell i 1 hi (by omega)).trans (congrArg some r1), (hcell i 2 hi (by omega)).trans (congrArg some r2), s1.wide (fun k hk hT => ⟨⟨hT.1, hk⟩, fun e => hT.2 (by rw [e]; rfl)⟩) (by decide), s2.wide (fun k hk hT => ⟨⟨hT.1, hk⟩, fun e => hT.2 (by rw [e]; rfl)⟩) (by decide)⟩
set_option maxRecDepth 100000 in
set_option maxHeartbeats 1000000 in
theorem cloneRulO_any (ad : Addr) (n c : Nat) (w : World) (S : Nat → Prop) (xs : List Rul) (hl : Sl w S (some ad) n c xs) (hn : n ≤ 1000000) :
    Calls Tryz.prog 58 #[.slice (some ad) n c] w fun e w' => ∃ g cap, e = .returned (.slice (some ⟨g, 0, none⟩) xs.length cap) ∧ w.heap.size ≤ g ∧ g < w'.heap.size ∧ cap ≤ 9223372036854775807 ∧ RowC w' (fun k => S k ∧ k < w.heap.size) g cap xs ∧ Below w.heap.size w w' := by
  obtain rfl : n = xs.length := hl.len
  have hle := hl.2.1
  have hcc := hl.2.2.1
  have hl' := hl.wide (S' := fun k => S k ∧ k < w.heap.size) (fun k hk h => ⟨h, hk⟩) (by decide)
  have HL := Lib.hid hl'; clear hl hl'
  go_enter Tryz.func58, Tryz.ntmps58
  go_wp2_with (at_builtin; go_loud (refine wpList_appN (e := 34) (T := fun k => S k ∧ k < w.heap.size) (base := w.heap.size) (xs := ([] : List Rul)) rfl (.tmp 5) (.tmp 6) eltRul rfl (by decide) rfl rfl rfl (Own.emp (blkAt _ _ rfl) (Nat.le_refl _)) rfl ((HL.out.wide (fun k hk1 hk => ⟨hk, fun e => by injection e with e; exact absurd e (by have := hk1; simp only; omega)⟩) (by decide)).alloc _) (by simp; omega) (by simp; omega) (by simp) ?_); intro A' c' w3 hown' hg hat)
  go_ret
  have hown2 : Own w3 (fun k => S k ∧ k < w.heap.size) w.heap.size 34 A' c' xs := by simpa using hown'
  have hA : A' ≠ none := by
    rcases hat with hat | hat
    · intro e; rw [e] at hat; cases hat
    · intro e; rw [e] at hat; cases hat
  obtain ⟨g, rfl, hg1, hg2, hc, hrow⟩ := hown2.toRow hA
  refine ⟨g, c', ?_, hg1, hg2, hc, ?_, boxed.grown hg (by simp) (fun k hk => by have hk : some w.heap.size = some k := hk; injection hk with hk; omega)⟩
  · simp
  · refine ⟨hrow.cell, hrow.le, fun i hi => ?_⟩
    obtain ⟨A1, n1, c1, A2, n2, c2, h1, h2, h3, h4, h5⟩ := hrow.at_ i hi
    exact ⟨A1, n1, c1, A2, n2, c2, h1, h2, h3, h4.wide (fun k _ hk => hk.1.1) (by decide), h5.wide (fun k _ hk => hk.1.1) (by decide)⟩
theorem mod1_any (names : List Bs) (r : Rul) (kn : Nat) (An : Option Addr) (nn cn : Nat) (A1 : Option Addr) (n1 c1 : Nat) (A2 : Option Addr) (n2 c2 : Nat) (w : World) (S : Nat → Prop) (hb : w.heap[kn]? = some (.cells #[.slice An nn cn] 71 (0, 0))) (hs : Sl w S An nn cn names) :
    Calls Tryz.prog 59 (#[.agg #[.string ⟨r.head.name.toArray⟩, .slice A1 n1 c1, .slice A2 n2 c2]] ++ #[.pointer (some ⟨kn, 0, none⟩)]) w fun e w' => e = .returned (.bool (!names.contains r.head.name)) ∧ Below w.heap.size w w' := by
  have hcn := fun w' (h' : Sl w' S An nn cn names) => contains_any An nn cn w' S names r.head.name h'
  have k0 := (cell_blk hb 0).trans rfl
  have hlt := (Array.getElem?_eq_some_iff.1 hb).1
  have HC := Lib.hid hcn; have HS := Lib.hid hs
  clear hcn hs hb
  go_enter Tryz.func59, Tryz.ntmps59
  go_wp2_with fail
  refine (HC.out _ (HS.out.alloc _)).mono ?_
  rintro e w1 ⟨rfl, rfl⟩
  go_wp2_with fail
  go_ret
  exact ⟨ret_bool (by simp), boxed⟩
end Go.Proofs.YtkjoaodoioicpaaGreatDoor
