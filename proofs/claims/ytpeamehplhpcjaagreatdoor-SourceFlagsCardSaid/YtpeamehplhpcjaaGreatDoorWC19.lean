/- A part of the proofs of the laws of one package; see the law's own text, which comes last in 'order'. No conditions of its own. -/
import Derived.Laws.EntriesVeiled
import Derived.Test.YtpeamehplhpcjaaGreatDoorWC10
import Derived.Test.YtpeamehplhpcjaaGreatDoorWC18
set_option linter.unusedVariables false
set_option linter.unusedSimpArgs false
namespace Go.Proofs.YtpeamehplhpcjaaGreatDoor
open Go.RowKit
set_option maxHeartbeats 400000 in
theorem item1_any (w : World) (S : Nat → Prop) (v : Value) (x : Itm) (hv : VItm w S v x) (q : Nat) (nm : Bs) (hq : w.cell? ⟨q, 2, none⟩ = some (.string ⟨nm.toArray⟩)) :
    Calls Tryz.prog 196 #[v, .pointer (some ⟨q, 0, none⟩)] w fun e w' => e = .returned (.bool (x.name == nm)) ∧ Below w.heap.size w w' := by
  obtain ⟨A, n, c, rfl, -⟩ := hv
  have h1 := cell_alloc' hq (.cells #[.string ⟨x.name.toArray⟩, .int .i64 x.kind, .int .i64 x.mode, .slice A n c, .string ⟨x.body.path.toArray⟩, .int .i64 x.body.fr, .int .i64 x.body.tu] 48 (0, 0))
  clear hq
  go_enter Tryz.func196, Tryz.ntmps196
  go_wp2_with fail
  go_ret
  exact ⟨rfl, by ((repeat (first | (with_reducible exact Below.refl _ _) | (with_reducible refine belowA ?_ _) | (with_reducible refine belowD ?_) | (with_reducible refine belowS ?_ (Nat.le_refl _) _ _) | (with_reducible refine next ?_ (by assumption) (Nat.le_refl _)))); done)⟩
def mkI (h : Hd) (b : Spn) : Itm := if h.word = 7 then ⟨h.name, 3, 3, h.params, spn0⟩ else ⟨h.name, if h.word = 9 then 2 else 1, h.mode, h.params, b⟩
theorem ScB.slices {W W' : World} {M : Nat → Prop} {B g : Nat} {tA : Option Addr} {tn tc mf mm mh ml : Nat} {iA : Option Addr} {ic : Nat} {oA : Option Addr} {oc : Nat} {mv : List (Bs × Value)} {t : List Fil} {s : Sst}
    (H : ScB W M B g tA tn tc mf mm mh ml iA ic oA oc mv t s) (xs : List Itm) (ys : List Bs) {A' : Option Addr} {c' : Nat} {O' : Option Addr} {d' : Nat}
    (hc : W'.heap[g]? = some (.cells (scC tA tn tc mf mm A' c' mh ml O' d' { s with items := xs, opn := ys }) 96 (0, 0)))
    (hi : Own W' (fun k => ¬ M k ∧ O'.map Addr.block ≠ some k) B 48 A' c' xs) (ho : Own W' (fun _ => False) B 9 O' d' ys)
    (hf : Frm (fun k => k = g ∨ iA.map Addr.block = some k ∨ oA.map Addr.block = some k) W W')
    (hat : A'.map Addr.block = iA.map Addr.block ∨ ∃ q, A'.map Addr.block = some q ∧ W.heap.size ≤ q) (hao : O'.map Addr.block = oA.map Addr.block ∨ ∃ q, O'.map Addr.block = some q ∧ W.heap.size ≤ q)
    (hdd : ∀ k, A'.map Addr.block = some k → O'.map Addr.block ≠ some k) :
    ∃ M', ScB W' M' B g tA tn tc mf mm mh ml A' c' O' d' mv t { s with items := xs, opn := ys } ∧ ScOut W M W' M' := by
  have hz := hf.size
  have hg := H.own g (.inl rfl)
  have hMi : ∀ k, iA.map Addr.block = some k → M k := fun k e => H.own k (.inr (.inr (.inr (.inr (.inr (.inl e))))))
  have hMo : ∀ k, oA.map Addr.block = some k → M k := fun k e => H.own k (.inr (.inr (.inr (.inr (.inr (.inr e))))))
  have hkM : ∀ k, k < W.heap.size → ¬ M k → W'.heap[k]? = W.heap[k]? := fun k hk' hm => hf.block k hk' (fun h => hm (by
    rcases h with h | h | h
    · exact h ▸ hg
    · exact hMi k h
    · exact hMo k h))
  have hnewi : ∀ k, A'.map Addr.block = some k → M k ∨ W.heap.size ≤ k := fun k e => by
    rcases hat with h | ⟨q, h, hq⟩
    · exact .inl (hMi k (h ▸ e))
    · rw [h] at e; injection e with e; exact .inr (by omega)
  have hnewo : ∀ k, O'.map Addr.block = some k → M k ∨ W.heap.size ≤ k := fun k e => by
    rcases hao with h | ⟨q, h, hq⟩
    · exact .inl (hMo k (h ▸ e))
    · rw [h] at e; injection e with e; exact .inr (by omega)
  have hm : ∀ k, (k = mf ∨ k = mm ∨ k = mh ∨ k = ml) → W'.heap[k]? = W.heap[k]? := fun k hk' => by
    refine hf.block k (H.lt k (H.own k (by rcases hk' with h | h | h | h <;> simp [h]))) fun h => ?_
    have hng : k ≠ g := by
      rcases hk' with h | h | h | h
      · exact fun e => H.dif.1 (e.symm.trans h)
      · exact fun e => H.dif.2.1 (e.symm.trans h)
      · exact fun e => H.dif.2.2.1 (e.symm.trans h)
      · exact fun e => H.dif.2.2.2.1 (e.symm.trans h)
    rcases h with h | h | h
    · exact hng h
    · obtain ⟨a1, a2, a3, a4, a5, a6⟩ := H.difi k h
      rcases hk' with h | h | h | h
      · exact a2 h
      · exact a3 h
      · exact a4 h
      · exact a5 h
    · obtain ⟨a1, a2, a3, a4, a5⟩ := H.difo k h
      rcases hk' with h | h | h | h
      · exact a2 h
      · exact a3 h
      · exact a4 h
      · exact a5 h
  have hMM : ∀ k, k < W.heap.size → (M k ∨ A'.map Addr.block = some k ∨ O'.map Addr.block = some k) → M k := fun k hk' h => by
    rcases h with h | h | h
    · exact h
    · exact (hnewi k h).elim id fun h => absurd hk' (by omega)
    · exact (hnewo k h).elim id fun h => absurd hk' (by omega)
  have hl : ∀ j k, M j → W.heap.size ≤ k → k ≠ j := fun j k hj hk e => by have := H.lt j hj; omega
  have hfive : ∀ k, W.heap.size ≤ k → k ≠ g ∧ k ≠ mf ∧ k ≠ mm ∧ k ≠ mh ∧ k ≠ ml := fun k hk =>
    ⟨hl _ k hg hk, hl _ k (H.own _ (.inr (.inl rfl))) hk, hl _ k (H.own _ (.inr (.inr (.inl rfl)))) hk, hl _ k (H.own _ (.inr (.inr (.inr (.inl rfl))))) hk, hl _ k (H.own _ (.inr (.inr (.inr (.inr (.inl rfl)))))) hk⟩
  refine ⟨fun k => M k ∨ A'.map Addr.block = some k ∨ O'.map Addr.block = some k, ⟨hc, H.tree.keep fun k hk' hb => hkM k hk' (fun hm => by have := H.old k hm; have hb : k < B := hb; omega), H.flags.keep (hm mf (by simp)), H.mval.keep (hm mm (by simp)), ?_, ?_, H.heads.keep (hm mh (by simp)), H.files.keep (hm ml (by simp)), ho, ?_, ?_, ?_, H.dif, ?_, ?_⟩, ?_, ?_⟩
  · exact (VMacs.wide hMM H.macs).keep fun k hk' hn => hkM k hk' fun h => hn (.inl h)
  · obtain ⟨cs, h1, h3⟩ := hi
    exact ⟨cs, h1, fun i hi => GoT.wide (fun k _ hk => ⟨fun hm => hm.elim hk.1.1 (fun h => h.elim hk.2 hk.1.2), hk.2⟩) (h3 i hi)⟩
  · rintro k (h | h | h | h | h | h | h)
    · exact .inl (H.own k (.inl h))
    · exact .inl (H.own k (.inr (.inl h)))
    · exact .inl (H.own k (.inr (.inr (.inl h))))
    · exact .inl (H.own k (.inr (.inr (.inr (.inl h)))))
    · exact .inl (H.own k (.inr (.inr (.inr (.inr (.inl h))))))
    · exact .inr (.inl h)
    · exact .inr (.inr h)
  · rintro k (h | h | h)
    · exact H.old k h
    · exact (hi.lt k h).1
    · exact (ho.lt k h).1
  · rintro k (h | h | h)
    · have := H.lt k h; omega
    · exact (hi.lt k h).2
    · exact (ho.lt k h).2
  · intro k e
    have hd := hdd k e
    rcases hat with h | ⟨q, h, hq⟩
    · obtain ⟨a1, a2, a3, a4, a5, _⟩ := H.difi k (h ▸ e)
      exact ⟨a1, a2, a3, a4, a5, hd⟩
    · have hkq : k = q := by rw [h] at e; injection e with e; exact e.symm
      obtain ⟨a1, a2, a3, a4, a5⟩ := hfive k (by omega)
      exact ⟨a1, a2, a3, a4, a5, hd⟩
  · intro k e
    rcases hao with h | ⟨q, h, hq⟩
    · exact H.difo k (h ▸ e)
    · have hkq : k = q := by rw [h] at e; injection e with e; exact e.symm
      exact hfive k (by omega)
  · rintro k (h | h | h)
    · exact .inl h
    · exact hnewi k h
    · exact hnewo k h
  · exact hf.mono fun k _ h => by
      rcases h with h | h | h
      · exact h ▸ hg
      · exact hMi k h
      · exact hMo k h
theorem ScB.app {W W' : World} {M : Nat → Prop} {B g : Nat} {tA : Option Addr} {tn tc mf mm mh ml : Nat} {iA : Option Addr} {ic : Nat} {oA : Option Addr} {oc : Nat} {mv : List (Bs × Value)} {t : List Fil} {s : Sst}
    (H : ScB W M B g tA tn tc mf mm mh ml iA ic oA oc mv t s) (x : Itm) {A' : Option Addr} {c' : Nat}
    (hc : W'.heap[g]? = some (.cells (scC tA tn tc mf mm A' c' mh ml oA oc { s with items := s.items ++ [x] }) 96 (0, 0)))
    (hi : Own W' (fun k => ¬ M k) B 48 A' c' (s.items ++ [x]))
    (hf : Frm (fun k => k = g ∨ iA.map Addr.block = some k) W W') (hat : A'.map Addr.block = iA.map Addr.block ∨ ∃ q, A'.map Addr.block = some q ∧ W.heap.size ≤ q) :
    ∃ M', ScB W' M' B g tA tn tc mf mm mh ml A' c' oA oc mv t { s with items := s.items ++ [x] } ∧ ScOut W M W' M' := by
  have hMo : ∀ k, oA.map Addr.block = some k → M k := fun k e => H.own k (.inr (.inr (.inr (.inr (.inr (.inr e))))))
  have ho : Own W' (fun _ => False) B 9 oA oc s.opn := H.opn.keep fun k hk hb => hf.block k hk (fun h => by
    rcases hb with hb | hb
    · exact hb
    · rcases h with h | h
      · exact (H.difo k hb).1 h
      · exact (H.difi k h).2.2.2.2.2 hb)
  refine H.slices (s.items ++ [x]) s.opn hc (hi.wide fun k _ hk => ⟨hk, fun e => hk (hMo k e)⟩) ho (hf.mono fun k _ h => by rcases h with h | h; exact .inl h; exact .inr (.inl h)) hat (.inl rfl) (fun k e eo => ?_)
  rcases hat with h | ⟨q, h, hq⟩
  · exact (H.difi k (h ▸ e)).2.2.2.2.2 eo
  · have := H.lt k (hMo k eo)
    rw [h] at e; injection e with e; omega
theorem ScB.opened {W W' : World} {M : Nat → Prop} {B g : Nat} {tA : Option Addr} {tn tc mf mm mh ml : Nat} {iA : Option Addr} {ic : Nat} {oA : Option Addr} {oc : Nat} {mv : List (Bs × Value)} {t : List Fil} {s : Sst}
    (H : ScB W M B g tA tn tc mf mm mh ml iA ic oA oc mv t s) (ys : List Bs) {O' : Option Addr} {d' : Nat}
    (hc : W'.heap[g]? = some (.cells (scC tA tn tc mf mm iA ic mh ml O' d' { s with opn := ys }) 96 (0, 0)))
    (ho : Own W' (fun _ => False) B 9 O' d' ys)
    (hf : Frm (fun k => k = g ∨ oA.map Addr.block = some k) W W') (hao : O'.map Addr.block = oA.map Addr.block ∨ ∃ q, O'.map Addr.block = some q ∧ W.heap.size ≤ q) :
    ∃ M', ScB W' M' B g tA tn tc mf mm mh ml iA ic O' d' mv t { s with opn := ys } ∧ ScOut W M W' M' := by
  have hMo : ∀ k, oA.map Addr.block = some k → M k := fun k e => H.own k (.inr (.inr (.inr (.inr (.inr (.inr e))))))
  have hMi : ∀ k, iA.map Addr.block = some k → M k := fun k e => H.own k (.inr (.inr (.inr (.inr (.inr (.inl e))))))
  have hi0 : Own W (fun k => ¬ M k ∧ O'.map Addr.block ≠ some k) B 48 iA ic s.items := H.items.wide fun k hk hm => ⟨hm, fun e => by
    rcases hao with h | ⟨q, h, hq⟩
    · exact hm (hMo k (h ▸ e))
    · rw [h] at e; injection e with e; omega⟩
  have hi : Own W' (fun k => ¬ M k ∧ O'.map Addr.block ≠ some k) B 48 iA ic s.items := hi0.keep fun k hk hb => hf.block k hk (fun h => by
    rcases hb with hb | hb
    · rcases h with h | h
      · exact hb.1 (h ▸ H.own g (.inl rfl))
      · exact hb.1 (hMo k h)
    · rcases h with h | h
      · exact (H.difi k hb).1 h
      · exact (H.difi k hb).2.2.2.2.2 h)
  refine H.slices s.items ys hc hi ho (hf.mono fun k _ h => by rcases h with h | h; exact .inl h; exact .inr (.inr h)) (.inl rfl) hao (fun k e eo => ?_)
  rcases hao with h | ⟨q, h, hq⟩
  · exact (H.difi k e).2.2.2.2.2 (h ▸ eo)
  · have := H.lt k (hMi k e)
    rw [h] at eo; injection eo with eo; omega
end Go.Proofs.YtpeamehplhpcjaaGreatDoor
