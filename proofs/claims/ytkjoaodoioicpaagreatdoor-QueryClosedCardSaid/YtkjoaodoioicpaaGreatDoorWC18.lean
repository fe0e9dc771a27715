/- Query (package licitlaw54): a part of the proofs of its laws; see the law's own text, which comes last in 'order'. No conditions of its own. -/
import Derived.Test.YtkjoaodoioicpaaGreatDoorWC08
import Derived.Test.YtkjoaodoioicpaaGreatDoorWC17
set_option linter.unusedVariables false
set_option linter.unusedSimpArgs false
namespace Go.Proofs.YtkjoaodoioicpaaGreatDoor
open Go.RowKit
section
variable {w : World} {F I : Nat → Prop} {p fb ib : Nat} {L : List Atm} {lst : Plc → List Atm}
theorem BaseW.app (h : BaseW w F I p fb ib L lst) (q : Plc) (hq : OkP q) : ∃ im B c, MapV TP w ib im ∧ (getM im q).getD (.slice none 0 0) = .slice B (lst q).length c ∧
    (∀ k, B.map Addr.block = some k → F k ∧ p + 1 ≤ k ∧ k < w.heap.size) ∧ (∀ k, I k → B.map Addr.block ≠ some k) ∧
    (∀ w1, w.heap.size ≤ w1.heap.size → (∀ k, k < w.heap.size → k ≠ ib → w1.heap[k]? = w.heap[k]?) → Own w1 I (p + 1) 31 B c (lst q)) ∧
    ∀ x (w1 w2 w3 : World) B' c', w.heap.size ≤ w1.heap.size → (∀ k, k < w.heap.size → k ≠ ib → w1.heap[k]? = w.heap[k]?) → Own w2 I (p + 1) 31 B' c' (lst q ++ [x]) → w1.grownBy w2 (B.map Addr.block) →
      (B'.map Addr.block = B.map Addr.block ∨ B'.map Addr.block = some w1.heap.size) → MapV TP w3 ib (setM im q (.slice B' ((lst q).length + 1) c')) → w2.grownBy w3 (some ib) →
      BaseW w3 (fun k => F k ∨ B'.map Addr.block = some k) I p fb ib L (fun q' => if q' = q then lst q ++ [x] else lst q') := by
  obtain ⟨im, B, c, hm, he, ho, hF, hcl⟩ := h.place q hq
  have hap := h.apart
  obtain ⟨f1, f2, f3, f4, f5⟩ := h.maps
  refine ⟨im, B, c, hm, he, fun k hk => ⟨hF k hk, ho.lt k hk⟩, fun k hk e => hap k (hF k e) hk, fun w1 hs hk => ?_, fun x w1 w2 w3 B' c' hs1 hk1 ho2 hg2 hat hm3 hg3 => ?_⟩
  · refine ho.keep fun k hk' hI => hk k hk' ?_
    rcases hI with hI | hI
    · exact fun e => hap ib f2 (by rw [← e]; exact hI)
    · have := (ho.lt k hI).1; omega
  · have hlow : ∀ k, B'.map Addr.block = some k → k ≠ ib := fun k hk e => by have := (ho2.lt k hk).1; omega
    refine hcl x w3 B' c' hm3 (ho2.keep fun k hk' hI => hg3.block k hk' (fun e => ?_)) ?_ (Nat.le_trans hs1 (Nat.le_trans hg2.size hg3.size)) fun k hk hne hB => ?_
    · injection e with e
      rcases hI with hI | hI
      · exact hap k (by rw [e]; exact f2) hI
      · exact hlow k hI e
    · rcases hat with hat | hat
      · exact .inl hat
      · exact .inr fun k hk => by rw [hat] at hk; injection hk with hk; omega
    · rw [hg3.block k (Nat.lt_of_lt_of_le hk (Nat.le_trans hs1 hg2.size)) (fun e => hne (by injection e)), hg2.block k (Nat.lt_of_lt_of_le hk hs1) (fun e => hB e.symm), hk1 k hk hne]
end
structure Grw (w w' : World) (F I F' I' : Nat → Prop) : Prop where
  f : ∀ k, F k → F' k
  f2 : ∀ k, F' k → F k ∨ w.heap.size ≤ k
  i : ∀ k, I k → I' k
  i2 : ∀ k, I' k → I k ∨ w.heap.size ≤ k
  b : ∀ k, F' k ∨ I' k → k < w'.heap.size
  frm : Frm F w w'
theorem Grw.refl {w w' : World} {F I : Nat → Prop} (hb : ∀ k, F k ∨ I k → k < w.heap.size) (h : Below w.heap.size w w') : Grw w w' F I F I :=
  ⟨fun _ h => h, fun _ h => .inl h, fun _ h => h, fun _ h => .inl h, fun k hk => Nat.lt_of_lt_of_le (hb k hk) h.size, Frm.any h⟩
structure AddI (w wx : World) (F I F' I' : Nat → Prop) (p fb ib : Nat) (x : Atm) (A : Option Addr) (c : Nat) (L : List Atm) (k : Int) : Prop where
  base : BaseW wx F' I' p fb ib (L ++ [x]) (lstK L x k)
  f : ∀ k, F k → F' k
  f2 : ∀ k, F' k → F k ∨ w.heap.size ≤ k
  i : ∀ k, I k → I' k
  i2 : ∀ k, I' k → I k ∨ w.heap.size ≤ k
  frm : Frm F w wx
  nk : ¬ F' w.heap.size
  blk : wx.heap[w.heap.size]? = some (.cells #[.string ⟨x.name.toArray⟩, .slice A x.args.length c] 31 (0, 0))
  sl : Sl wx I' A x.args.length c x.args
theorem AddI.below {w wx wy : World} {F I F' I' : Nat → Prop} {p fb ib : Nat} {x : Atm} {A : Option Addr} {c : Nat} {L : List Atm} {k : Int} (h : AddI w wx F I F' I' p fb ib x A c L k) (hb : Below wx.heap.size wx wy) : AddI w wy F I F' I' p fb ib x A c L k :=
  ⟨h.base.below hb, h.f, h.f2, h.i, h.i2, h.frm.trans (Frm.any hb), h.nk, keptBlk hb h.blk, h.sl.below hb⟩
theorem AddI.app {w wx : World} {F I F' I' : Nat → Prop} {p fb ib : Nat} {x : Atm} {A : Option Addr} {c : Nat} {L : List Atm} {k : Int} (h : AddI w wx F I F' I' p fb ib x A c L k) (q : Plc) (hq : OkP q) (k' : Int)
    (hl : ∀ q', (if q' = q then lstK L x k q ++ [x] else lstK L x k q') = lstK L x k' q') : ∃ im B c0, MapV TP wx ib im ∧ (getM im q).getD (.slice none 0 0) = .slice B (lstK L x k q).length c0 ∧
    (∀ k, B.map Addr.block = some k → p + 1 ≤ k ∧ k < wx.heap.size ∧ k ≠ w.heap.size) ∧
    (∀ w1, wx.heap.size ≤ w1.heap.size → (∀ k, k < wx.heap.size → k ≠ ib → w1.heap[k]? = wx.heap[k]?) → Own w1 I' (p + 1) 31 B c0 (lstK L x k q) ∧
      GoT.rd w1 (fun b => I' b ∧ B.map Addr.block ≠ some b) (fun j => ([.string ⟨x.name.toArray⟩, .slice A x.args.length c] : List Value).getD j undef) x) ∧
    ∀ (w1 w2 w3 : World) B' c', wx.heap.size ≤ w1.heap.size → w1.os = wx.os → w1.tape = wx.tape → w1.output = wx.output → (∀ k, k < wx.heap.size → k ≠ ib → w1.heap[k]? = wx.heap[k]?) → Own w2 I' (p + 1) 31 B' c' (lstK L x k q ++ [x]) → w1.grownBy w2 (B.map Addr.block) →
      (B'.map Addr.block = B.map Addr.block ∨ B'.map Addr.block = some w1.heap.size) → MapV TP w3 ib (setM im q (.slice B' ((lstK L x k q).length + 1) c')) → w2.grownBy w3 (some ib) →
      AddI w w3 F I (fun k => F' k ∨ B'.map Addr.block = some k) I' p fb ib x A c L k' := by
  obtain ⟨im, B, c0, h1, h2, h3, h4, h5, h6⟩ := h.base.app q hq
  obtain ⟨f1, f2, f3, f4, f5⟩ := h.base.maps
  have hap := h.base.apart
  have hklt := (Array.getElem?_eq_some_iff.1 h.blk).1
  have hni : w.heap.size ≠ ib := fun e => h.nk (by rw [e]; exact f2)
  have hnB : B.map Addr.block ≠ some w.heap.size := fun e => h.nk (h3 _ e).1
  have hII : ∀ k, I' k → k ≠ ib := fun k hk e => hap ib f2 (by rw [← e]; exact hk)
  refine ⟨im, B, c0, h1, h2, fun k hk => ⟨(h3 k hk).2.1, (h3 k hk).2.2, fun e => hnB (by rw [← e]; exact hk)⟩, fun w1 hs hk => ⟨h5 w1 hs hk, rfl, A, _, c, rfl, (h.sl.keep (w' := w1) fun k hk' hI => hk k hk' (hII k hI)).wide (fun k _ hI => ⟨hI, h4 k hI⟩) (by decide)⟩, fun w1 w2 w3 B' c' hs1 ho1 ht1 hu1 hk1 ho2 hg2 hat hm3 hg3 => ?_⟩
  have hall : ∀ k, k < wx.heap.size → k ≠ ib → B.map Addr.block ≠ some k → w3.heap[k]? = wx.heap[k]? := fun k hk hne hB => by
    rw [hg3.block k (Nat.lt_of_lt_of_le hk (Nat.le_trans hs1 hg2.size)) (fun e => hne (by injection e)), hg2.block k (Nat.lt_of_lt_of_le hk hs1) (fun e => hB e.symm), hk1 k hk hne]
  have hF2 : ∀ k, B'.map Addr.block = some k → F' k ∨ wx.heap.size ≤ k := fun k hk => by
    rcases hat with hat | hat
    · exact .inl (h3 k (by rw [← hat]; exact hk)).1
    · rw [hat] at hk; injection hk with hk; exact .inr (by omega)
  refine ⟨(h6 x w1 w2 w3 B' c' hs1 hk1 ho2 hg2 hat hm3 hg3).congr fun q' _ => hl q', fun k hk => .inl (h.f k hk), fun k hk => ?_, h.i, h.i2, ?_, fun e => ?_, (hall _ hklt hni hnB).trans h.blk, h.sl.keep fun k hk' hI => hall k hk' (hII k hI) (h4 k hI)⟩
  · rcases hk with hk | hk
    · exact h.f2 k hk
    · rcases hF2 k hk with hk | hk
      · exact h.f2 k hk
      · have := h.frm.size; exact .inr (by omega)
  · have hsz := h.frm.size
    refine ⟨?_, ?_, ?_, Nat.le_trans hsz (Nat.le_trans hs1 (Nat.le_trans hg2.size hg3.size)), fun k hk hF => ?_⟩
    · rw [hg3.os, hg2.os, ho1, h.frm.os]
    · rw [hg3.tape, hg2.tape, ht1, h.frm.tape]
    · rw [hg3.output, hg2.output, hu1, h.frm.output]
    · have hn : ∀ k', F' k' → k ≠ k' := fun k' hk' e => by
        rcases h.f2 k' hk' with h' | h'
        · exact hF (by rw [e]; exact h')
        · omega
      rw [hall k (by omega) (hn ib f2) (fun e => hn k (h3 k e).1 rfl), h.frm.block k hk hF]
  · rcases e with e | e
    · exact h.nk e
    · rcases hF2 _ e with e | e
      · exact h.nk e
      · omega
end Go.Proofs.YtkjoaodoioicpaaGreatDoor
namespace Go.Proofs.YtkjoaodoioicpaaGreatDoor
open Go.RowKit
structure CbOk {σ : Type} (Fn : Nat) (caps : Array Value) (found : σ → Bnd → σ × Bool) (P : Bnd → Prop) (Lv : σ → Nat → Prop) (St : World → σ → (Nat → Prop) → Prop) : Prop where
  enter : ∀ (args : Array Value) (w : World), (callFunc Fn args).run Tryz.prog w = .ok (.enter Fn args) w
  keep : ∀ {w w' s G}, St w s G → Below w.heap.size w w' → St w' s G
  ld : ∀ {w s G}, St w s G → LD w
  bd : ∀ {w s G}, St w s G → ∀ k, G k → k < w.heap.size
  lvm : ∀ s n m, m ≤ n → Lv s n → Lv s m
  lv : ∀ s v n, Lv s (n + 1) → (found s v).2 = true → Lv (found s v).1 n
  call : ∀ (w : World) s G b v, St w s G → Lv s 1 → MapA w b v → ¬ G b → P v → Calls Tryz.prog Fn (#[.map (some b)] ++ caps) w fun e w' => e = .returned (.bool (found s v).2) ∧ ∃ G', St w' (found s v).1 G' ∧ (∀ k, G' k → G k ∨ w.heap.size ≤ k) ∧ Frm G w w'
theorem iter_lv {α σ : Type} {found : σ → α → σ × Bool} {Lv : σ → Nat → Prop} (hl : ∀ s v n, Lv s (n + 1) → (found s v).2 = true → Lv (found s v).1 n) (m : Nat) : ∀ (l : List α) (s : σ), Lv s (l.length + m) → (iterF found l s).2 = true → Lv (iterF found l s).1 m
  | [], s, h, _ => by rw [List.length_nil, Nat.zero_add] at h; exact h
  | v :: r, s, h, h2 => by
    rw [List.length_cons, Nat.add_right_comm] at h
    rw [iterF] at h2 ⊢
    cases hf : (found s v).2
    · rw [hf] at h2; simp at h2
    · rw [hf] at h2
      simp only [if_true] at h2 ⊢
      exact iter_lv hl m r _ (hl s v _ h hf) h2
structure EachE (w : World) (G R : Nat → Prop) (kb ka kf kw ks : Nat) (A : Option Addr) (n c : Nat) (body : List Ltl) (ps pa : Nat) (Fs Is Fa Ia : Nat → Prop) (Ls La : List Atm) (Fn : Nat) (caps : Array Value) : Prop where
  b1 : w.heap[kb]? = some (.cells #[.slice A n c] 32 (0, 0))
  b2 : w.heap[ka]? = some (.cells #[.pointer (some ⟨pa, 0, none⟩)] 65 (0, 0))
  b3 : w.heap[kf]? = some (.cells #[.func (.func Fn) #[] caps] 92 (0, 0))
  b4 : w.heap[kw]? = some (.cells #[.func (.func 76) #[] #[.pointer (some ⟨kb, 0, none⟩), .pointer (some ⟨ka, 0, none⟩), .pointer (some ⟨kf, 0, none⟩), .pointer (some ⟨kw, 0, none⟩), .pointer (some ⟨ks, 0, none⟩)]] 121 (0, 0))
  b5 : w.heap[ks]? = some (.cells #[.pointer (some ⟨ps, 0, none⟩)] 65 (0, 0))
  sl : Sl w R A n c body
  bs : BaseR w Fs Is ps Ls
  ba : BaseR w Fa Ia pa La
  rd : ∀ k, k = kb ∨ k = ka ∨ k = kf ∨ k = kw ∨ k = ks ∨ Fs k ∨ Is k ∨ k = ps ∨ Fa k ∨ Ia k ∨ k = pa → R k
  off : ∀ k, R k → k < w.heap.size ∧ ¬ G k
section
variable {w w' : World} {G G' R : Nat → Prop} {kb ka kf kw ks : Nat} {A : Option Addr} {n c : Nat} {body : List Ltl} {ps pa : Nat} {Fs Is Fa Ia : Nat → Prop} {Ls La : List Atm} {Fn : Nat} {caps : Array Value}
theorem EachE.keep (h : EachE w G R kb ka kf kw ks A n c body ps pa Fs Is Fa Ia Ls La Fn caps) (hk : ∀ k, R k → w'.heap[k]? = w.heap[k]?) (hs : w.heap.size ≤ w'.heap.size) (hG : ∀ k, G' k → G k ∨ w.heap.size ≤ k) : EachE w' G' R kb ka kf kw ks A n c body ps pa Fs Is Fa Ia Ls La Fn caps := by
  obtain ⟨h1, h2, h3, h4, h5, h6, h7, h8, h9, h10⟩ := h
  refine ⟨(hk _ (h9 _ (by simp))).trans h1, (hk _ (h9 _ (by simp))).trans h2, (hk _ (h9 _ (by simp))).trans h3, (hk _ (h9 _ (by simp))).trans h4, (hk _ (h9 _ (by simp))).trans h5, h6.keep fun k _ hr => hk k hr, h7.keep fun k _ hr => hk k (h9 k ?_), h8.keep fun k _ hr => hk k (h9 k ?_), h9, fun k hr => ⟨Nat.lt_of_lt_of_le (h10 k hr).1 hs, fun hg => ?_⟩⟩
  · rcases hr with hr | hr | hr <;> simp [hr]
  · rcases hr with hr | hr | hr <;> simp [hr]
  · rcases hG k hg with hg | hg
    · exact (h10 k hr).2 hg
    · have := (h10 k hr).1; omega
theorem EachE.below (h : EachE w G R kb ka kf kw ks A n c body ps pa Fs Is Fa Ia Ls La Fn caps) (hb : Below w.heap.size w w') : EachE w' G R kb ka kf kw ks A n c body ps pa Fs Is Fa Ia Ls La Fn caps :=
  h.keep (fun k hr => hb.block k (h.off k hr).1) hb.size (fun _ hg => .inl hg)
theorem EachE.frm (h : EachE w G R kb ka kf kw ks A n c body ps pa Fs Is Fa Ia Ls La Fn caps) (hf : Frm G w w') (hG : ∀ k, G' k → G k ∨ w.heap.size ≤ k) : EachE w' G' R kb ka kf kw ks A n c body ps pa Fs Is Fa Ia Ls La Fn caps :=
  h.keep (fun k hr => hf.block k (h.off k hr).1 (h.off k hr).2) hf.size hG
end
def leftE (Ls La : List Atm) (body : List Ltl) (i : Nat) (v : Bnd) : List Bnd := (bindsS Ls (body.drop i) v).filter fun v => restS La v body
def EPost {σ : Type} (found : σ → Bnd → σ × Bool) (St : World → σ → (Nat → Prop) → Prop) (w : World) (G : Nat → Prop) (r : σ × Bool) (e : Ending) (w' : World) : Prop :=
  e = .returned (.bool r.2) ∧ ∃ G', St w' r.1 G' ∧ (∀ k, G' k → G k ∨ w.heap.size ≤ k) ∧ Frm G w w'
theorem leftE_end {Ls La : List Atm} {body : List Ltl} {v : Bnd} : leftE Ls La body body.length v = if restS La v body then [v] else [] := by
  unfold leftE
  rw [List.drop_length, bindsS, List.filter_cons]
  rfl
theorem leftE_neg {Ls La : List Atm} {body : List Ltl} {i : Nat} {v : Bnd} (h : i < body.length) (hp : positiveS body[i] = false) : leftE Ls La body i v = leftE Ls La body (i + 1) v := by
  unfold leftE
  rw [drop_get h, bindsS, hp]
  rfl
def stepE (Ls La : List Atm) (body : List Ltl) (i : Nat) (a : Atm) (v : Bnd) (f : Atm) : List Bnd := match fitGo v a.args f.args with
  | some w => leftE Ls La body (i + 1) w
  | none => []
theorem leftE_pos {Ls La : List Atm} (hg : Gr Ls) {body : List Ltl} {i : Nat} {v : Bnd} (hv : GrB v) (h : i < body.length) (hp : positiveS body[i] = true) {q : Plc} (hq : CandP (atomV v body[i].atom) q) :
    leftE Ls La body i v = (idxL Ls q).flatMap (stepE Ls La body i body[i].atom v) := by
  have h1 := fits_cand hg hv hq (leftE Ls La body (i + 1))
  refine Eq.trans ?_ h1.symm
  unfold leftE
  rw [drop_get h, bindsS, hp]
  simp only [Bool.not_true, Bool.false_eq_true, if_false]
  rw [List.filter_flatMap]
  congr 1
  funext f
  cases fitGo v body[i].atom.args f.args <;> rfl
theorem step_grb {v w : Bnd} {a f : Atm} (hv : GrB v) (hf : groundP f = true) (hl : f.args.length = a.args.length) (h : fitGo v a.args f.args = some w) : GrB w :=
  (fit_sound a.args f.args v w h hv (ground_args hf) hl.symm).1
end Go.Proofs.YtkjoaodoioicpaaGreatDoor
