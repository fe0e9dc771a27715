/- A part of the proofs of the laws of one package; see the law's own text, which comes last in 'order'. No conditions of its own. -/
import Derived.DeepKeys4
import Derived.Test.YtpeamehplhpcjaaGreatDoorWC03
import Derived.Test.YtpeamehplhpcjaaGreatDoorWC04
import Derived.Test.YtpeamehplhpcjaaGreatDoorWC14
set_option linter.unusedVariables false
set_option linter.unusedSimpArgs false
namespace Go.Proofs.YtpeamehplhpcjaaGreatDoor
open Go.RowKit Go.ChangeShapes Go.WideShapes
def vLn (p : Ln) : Value := .agg #[.string ⟨p.path.toArray⟩, .int .i64 p.n]
def In64 (n : Int) : Prop := -9223372036854775808 ≤ n ∧ n ≤ 9223372036854775807
def OkLn (p : Ln) : Prop := p.path.length ≤ 9223372036854775807 ∧ In64 p.n
theorem wf64 {n : Int} (h : In64 n) : (Lit.int .i64 n).wf = true := WalkArith.wf_i64 h
theorem keyLit_str {d : Nat} {s : Bs} (h : s.length ≤ 9223372036854775807) : Tryz.prog.keyLits (d + 1) 9 [.string ⟨s.toArray⟩] = some [.string s] := by
  have hs : (⟨s.toArray⟩ : ByteArray).size ≤ maxLen := by simpa [ByteArray.size, maxLen] using h
  unfold Program.keyLits
  rw [Tryz.underlying9]
  simp [hs]
theorem keyLit_int {d : Nat} {n : Int} (h : In64 n) : Tryz.prog.keyLits (d + 1) 3 [.int .i64 n] = some [.int .i64 n] := by
  unfold Program.keyLits
  rw [Tryz.underlying3]
  simp [wf64 h]
theorem ln_lit (p : Ln) (h : OkLn p) : ∃ l, keyOf Tryz.prog 38 (vLn p) = some l := by
  obtain ⟨nm, n⟩ := p
  obtain ⟨h1, h3⟩ := h
  simp only at h1 h3
  have hkt : Tryz.prog.keyType 38 = true := by kernel_rfl
  have hfm : (vLn ⟨nm, n⟩).formed Tryz.prog 38 = true := by
    unfold vLn Value.formed
    rw [Tryz.underlying38]
    simp only [beq_iff_eq]
    kernel_rfl
  unfold keyOf
  rw [Tryz.underlying38]
  simp only [hkt, hfm, Bool.and_self, if_true]
  have hsz : ∃ d, Tryz.prog.types.size + 1 = d + 1 + 1 := ⟨Tryz.prog.types.size - 1, by have : 0 < Tryz.prog.types.size := of_decide_eq_true (by kernel_rfl); omega⟩
  obtain ⟨d, hd⟩ := hsz
  rw [hd]
  refine Option.isSome_iff_exists.1 ?_
  rw [Option.isSome_map]
  unfold Program.keyLits
  rw [Tryz.underlying38]
  have hc : Tryz.prog.cellsOf 38 = 2 := by kernel_rfl
  have hcs : Tryz.prog.cellsOf 9 = 1 := by kernel_rfl
  have hci : Tryz.prog.cellsOf 3 = 1 := by kernel_rfl
  simp [vLn, Value.cells, hc, hcs, hci, keyLit_str h1, keyLit_int h3]
theorem str_inj {a b : Bs} (h : (⟨a.toArray⟩ : ByteArray) = ⟨b.toArray⟩) : a = b := by
  injection h with h
  simpa using congrArg Array.toList h
def TLn : KeyT Ln where
  K := 38
  kv := vLn
  law := deep_law_laid (m := 3) (by kernel_rfl) (by omega) (of_decide_eq_true (by kernel_rfl)) (by kernel_rfl) (by rw [Tryz.underlying38])
  ok := OkLn
  lit := ln_lit
  inj := fun a b h => by
    obtain ⟨a1, a2⟩ := a
    obtain ⟨b1, b2⟩ := b
    simp only [vLn, Value.agg.injEq, Array.mk.injEq, List.cons.injEq, Value.string.injEq, Value.int.injEq, and_true] at h
    obtain ⟨h1, h2⟩ := h
    rw [str_inj h1, h2.2]
end Go.Proofs.YtpeamehplhpcjaaGreatDoor
namespace Go.Proofs.YtpeamehplhpcjaaGreatDoor
open Go.RowKit
def VMac (w : World) (M : Nat → Prop) (v : Value) (x : Mac) : Prop := ∃ A n c, v = .agg #[.string ⟨x.name.toArray⟩, .slice A n c, .string ⟨x.body.path.toArray⟩, .int .i64 x.body.fr, .int .i64 x.body.tu] ∧ Sl w (fun k => ¬ M k) A n c x.params
def VMacs (w : World) (M : Nat → Prop) : List (Bs × Value) → List (Bs × Mac) → Prop
  | [], [] => True
  | p :: r, q :: t => p.1 = q.1 ∧ VMac w M p.2 q.2 ∧ VMacs w M r t
  | _, _ => False
def vFlags (m : List (Bs × Bool)) : List (Bs × Value) := m.map fun p => (p.1, .bool p.2)
def vHeads (m : List (Ln × Bool)) : List (Ln × Value) := m.map fun p => (p.1, .bool p.2)
def scC (tA : Option Addr) (tn tc mf mm : Nat) (iA : Option Addr) (ic mh ml : Nat) (oA : Option Addr) (oc : Nat) (s : Sst) : Array Value :=
  #[.slice tA tn tc, .map (some mf), .map (some mm), .slice iA s.items.length ic, .map (some mh), .map (some ml), .slice oA s.opn.length oc, .int .i64 s.count, .int .i64 s.fault.err, .int .i64 s.fault.pkg, .int .i64 s.fault.step, .string ⟨s.fault.ln.path.toArray⟩, .int .i64 s.fault.ln.n]
structure ScB (W : World) (M : Nat → Prop) (B g : Nat) (tA : Option Addr) (tn tc : Nat) (mf mm mh ml : Nat) (iA : Option Addr) (ic : Nat) (oA : Option Addr) (oc : Nat) (mv : List (Bs × Value)) (t : List Fil) (s : Sst) : Prop where
  cells : W.heap[g]? = some (.cells (scC tA tn tc mf mm iA ic mh ml oA oc s) 96 (0, 0))
  tree : Sl W (fun k => k < B) tA tn tc t
  flags : MapV TS W mf (vFlags s.flags)
  mval : MapV TS W mm mv
  macs : VMacs W M mv s.macros
  items : Own W (fun k => ¬ M k) B 48 iA ic s.items
  heads : MapV TLn W mh (vHeads s.heads)
  files : MapV TS W ml (vFlags s.files)
  opn : Own W (fun _ => False) B 9 oA oc s.opn
  own : ∀ k, (k = g ∨ k = mf ∨ k = mm ∨ k = mh ∨ k = ml ∨ iA.map Addr.block = some k ∨ oA.map Addr.block = some k) → M k
  old : ∀ k, M k → B ≤ k
  lt : ∀ k, M k → k < W.heap.size
  dif : g ≠ mf ∧ g ≠ mm ∧ g ≠ mh ∧ g ≠ ml ∧ mf ≠ mm ∧ mf ≠ mh ∧ mf ≠ ml ∧ mm ≠ mh ∧ mm ≠ ml ∧ mh ≠ ml
  difi : ∀ k, iA.map Addr.block = some k → k ≠ g ∧ k ≠ mf ∧ k ≠ mm ∧ k ≠ mh ∧ k ≠ ml ∧ oA.map Addr.block ≠ some k
  difo : ∀ k, oA.map Addr.block = some k → k ≠ g ∧ k ≠ mf ∧ k ≠ mm ∧ k ≠ mh ∧ k ≠ ml
def ScOut (W : World) (M : Nat → Prop) (w' : World) (M' : Nat → Prop) : Prop := (∀ k, M' k → M k ∨ W.heap.size ≤ k) ∧ Frm M W w'
theorem VMacs.keep {w w' : World} {M : Nat → Prop} (hk : ∀ k, k < w.heap.size → ¬ M k → w'.heap[k]? = w.heap[k]?) : ∀ {mv : List (Bs × Value)} {ms : List (Bs × Mac)}, VMacs w M mv ms → VMacs w' M mv ms
  | [], [], _ => trivial
  | p :: r, q :: t, h => by
    obtain ⟨h1, ⟨A, n, c, e, hs⟩, h2⟩ := h
    exact ⟨h1, ⟨A, n, c, e, hs.keep hk⟩, VMacs.keep hk h2⟩
  | [], _ :: _, h => h.elim
  | _ :: _, [], h => h.elim
theorem ScB.below {W W' : World} {M : Nat → Prop} {B g : Nat} {tA : Option Addr} {tn tc mf mm mh ml : Nat} {iA : Option Addr} {ic : Nat} {oA : Option Addr} {oc : Nat} {mv : List (Bs × Value)} {t : List Fil} {s : Sst}
    (H : ScB W M B g tA tn tc mf mm mh ml iA ic oA oc mv t s) (hb : Below W.heap.size W W') : ScB W' M B g tA tn tc mf mm mh ml iA ic oA oc mv t s where
  cells := keptBlk hb H.cells
  tree := H.tree.below hb
  flags := H.flags.below hb
  mval := H.mval.below hb
  macs := H.macs.keep fun k hk _ => hb.block k hk
  items := H.items.below hb
  heads := H.heads.below hb
  files := H.files.below hb
  opn := H.opn.below hb
  own := H.own
  old := H.old
  lt := fun k hk => Nat.lt_of_lt_of_le (H.lt k hk) hb.size
  dif := H.dif
  difi := H.difi
  difo := H.difo
theorem ScB.touch {W W' : World} {M : Nat → Prop} {B g : Nat} {tA : Option Addr} {tn tc mf mm mh ml : Nat} {iA : Option Addr} {ic : Nat} {oA : Option Addr} {oc : Nat} {mv : List (Bs × Value)} {t : List Fil} {s : Sst}
    (H : ScB W M B g tA tn tc mf mm mh ml iA ic oA oc mv t s) (n : Nat) (f : Flt)
    (hc : W'.heap[g]? = some (.cells (scC tA tn tc mf mm iA ic mh ml oA oc { s with count := n, fault := f }) 96 (0, 0))) (hk : ∀ k, k ≠ g → W'.heap[k]? = W.heap[k]?) (hz : W.heap.size ≤ W'.heap.size) :
    ScB W' M B g tA tn tc mf mm mh ml iA ic oA oc mv t { s with count := n, fault := f } where
  cells := hc
  tree := H.tree.keep fun k _ hb => hk k (fun e => by have := H.old g (H.own g (.inl rfl)); have hb : k < B := hb; omega)
  flags := H.flags.keep (hk mf (Ne.symm H.dif.1))
  mval := H.mval.keep (hk mm (Ne.symm H.dif.2.1))
  macs := H.macs.keep fun k _ hM => hk k (fun e => hM (e ▸ H.own g (.inl rfl)))
  items := H.items.keep fun k _ hb => hk k (fun e => by
    subst e
    rcases hb with hb | hb
    · exact hb (H.own k (.inl rfl))
    · exact (H.difi k hb).1 rfl)
  heads := H.heads.keep (hk mh (Ne.symm H.dif.2.2.1))
  files := H.files.keep (hk ml (Ne.symm H.dif.2.2.2.1))
  opn := H.opn.keep fun k _ hb => hk k (fun e => by
    subst e
    rcases hb with hb | hb
    · exact hb
    · exact (H.difo k hb).1 rfl)
  own := H.own
  old := H.old
  lt := fun k hk => Nat.lt_of_lt_of_le (H.lt k hk) hz
  dif := H.dif
  difi := H.difi
  difo := H.difo
end Go.Proofs.YtpeamehplhpcjaaGreatDoor
namespace Go.Proofs.YtpeamehplhpcjaaGreatDoor
theorem ltS_irr (a : Bs) : ltS a a = false := by
  induction a with
  | nil => rfl
  | cons x r ih => simp [ltS, ih]
theorem ltS_trans (a : Bs) : ∀ b c, ltS a b = true → ltS b c = true → ltS a c = true := by
  induction a with
  | nil =>
    intro b c h1 h2
    cases b with
    | nil => cases h1
    | cons y t =>
      cases c with
      | nil => cases h2
      | cons z u => rfl
  | cons x r ih =>
    intro b c h1 h2
    cases b with
    | nil => cases h1
    | cons y t =>
      cases c with
      | nil => cases h2
      | cons z u =>
        simp only [ltS] at h1 h2 ⊢
        by_cases hxy : x = y
        · subst hxy
          rw [if_pos rfl] at h1
          by_cases hxz : x = z
          · subst hxz
            rw [if_pos rfl] at h2 ⊢
            exact ih _ _ h1 h2
          · rw [if_neg hxz] at h2 ⊢
            exact h2
        · rw [if_neg hxy] at h1
          by_cases hyz : y = z
          · subst hyz
            rw [if_neg hxy]
            exact h1
          · rw [if_neg hyz] at h2
            simp only [decide_eq_true_eq] at h1 h2
            have hxz : x ≠ z := fun e => by subst e; omega
            rw [if_neg hxz]
            simp only [decide_eq_true_eq]
            omega
theorem ltS_tot (a : Bs) : ∀ b, ltS a b = true ∨ a = b ∨ ltS b a = true := by
  induction a with
  | nil => intro b; cases b with | nil => exact .inr (.inl rfl) | cons y t => exact .inl rfl
  | cons x r ih =>
    intro b
    cases b with
    | nil => exact .inr (.inr rfl)
    | cons y t =>
      simp only [ltS]
      by_cases h : x = y
      · subst h
        rw [if_pos rfl, if_pos rfl]
        rcases ih t with h | h | h
        · exact .inl h
        · exact .inr (.inl (by rw [h]))
        · exact .inr (.inr h)
      · rw [if_neg h, if_neg (Ne.symm h)]
        have : x.toNat ≠ y.toNat := fun e => h (UInt8.toNat_inj.1 e)
        simp only [decide_eq_true_eq]
        omega
abbrev Srt {α : Type} (lt : α → α → Bool) (l : List α) : Prop := l.Pairwise fun a b => lt a b = true
structure Strict {α : Type} (lt : α → α → Bool) : Prop where
  irr : ∀ a, lt a a = false
  trans : ∀ a b c, lt a b = true → lt b c = true → lt a c = true
theorem strS : Strict ltS := ⟨ltS_irr, ltS_trans⟩
theorem strMac : Strict ltMac := ⟨fun a => ltS_irr _, fun a b c => ltS_trans _ _ _⟩
theorem strLn : Strict ltLn := by
  refine ⟨fun a => ?_, fun a b c h1 h2 => ?_⟩
  · unfold ltLn; simp [ltS_irr]
  · unfold ltLn at *
    simp only [Bool.or_eq_true, Bool.and_eq_true, beq_iff_eq, decide_eq_true_eq] at *
    rcases h1 with h1 | ⟨e1, h1⟩ <;> rcases h2 with h2 | ⟨e2, h2⟩
    · exact .inl (ltS_trans _ _ _ h1 h2)
    · exact .inl (e2 ▸ h1)
    · exact .inl (e1 ▸ h2)
    · exact .inr ⟨e1.trans e2, by omega⟩
theorem ltLn_tot (a b : Ln) : ltLn a b = true ∨ a = b ∨ ltLn b a = true := by
  obtain ⟨p, n⟩ := a
  obtain ⟨q, m⟩ := b
  unfold ltLn
  simp only [Bool.or_eq_true, Bool.and_eq_true, beq_iff_eq, decide_eq_true_eq]
  rcases ltS_tot p q with h | h | h
  · exact .inl (.inl h)
  · subst h
    rcases Int.lt_trichotomy n m with h | h | h
    · exact .inl (.inr ⟨rfl, h⟩)
    · exact .inr (.inl (by rw [h]))
    · exact .inr (.inr (.inr ⟨rfl, h⟩))
  · exact .inr (.inr (.inl h))
theorem srt_unique {α : Type} {lt : α → α → Bool} (hs : Strict lt) : ∀ {l m : List α}, Srt lt l → Srt lt m → (∀ x, x ∈ l ↔ x ∈ m) → l = m := by
  intro l
  induction l with
  | nil =>
    intro m _ _ h
    cases m with
    | nil => rfl
    | cons y t => exact absurd ((h y).2 (by simp)) (by simp)
  | cons x r ih =>
    intro m h1 h2 h
    cases m with
    | nil => exact absurd ((h x).1 (by simp)) (by simp)
    | cons y t =>
      have p1 := List.pairwise_cons.1 h1
      have p2 := List.pairwise_cons.1 h2
      have hxy : x = y := by
        have a1 := (h x).1 (by simp)
        have a2 := (h y).2 (by simp)
        rcases List.mem_cons.1 a1 with e | e
        · exact e
        · rcases List.mem_cons.1 a2 with e' | e'
          · exact e'.symm
          · have := hs.trans _ _ _ (p1.1 y e') (p2.1 x e)
            rw [hs.irr] at this
            cases this
      subst hxy
      rw [ih p1.2 p2.2 fun z => ?_]
      constructor
      · intro hz
        rcases List.mem_cons.1 ((h z).1 (List.mem_cons_of_mem _ hz)) with e | e
        · subst e
          have := p1.1 z hz
          rw [hs.irr] at this
          cases this
        · exact e
      · intro hz
        rcases List.mem_cons.1 ((h z).2 (List.mem_cons_of_mem _ hz)) with e | e
        · subst e
          have := p2.1 z hz
          rw [hs.irr] at this
          cases this
        · exact e
theorem mem_insG {α : Type} {lt : α → α → Bool} (x : α) : ∀ (l : List α) (_ : ∀ y ∈ l, lt y x = true ∨ y = x ∨ lt x y = true) (z : α), z ∈ insG lt x l ↔ z = x ∨ z ∈ l := by
  intro l
  induction l with
  | nil => intro _ z; simp [insG]
  | cons y r ih =>
    intro h z
    unfold insG
    split
    · rw [List.mem_cons, ih (fun a ha => h a (List.mem_cons_of_mem _ ha)), List.mem_cons]
      constructor
      · rintro (h | h | h)
        · exact .inr (.inl h)
        · exact .inl h
        · exact .inr (.inr h)
      · rintro (h | h | h)
        · exact .inr (.inl h)
        · exact .inl h
        · exact .inr (.inr h)
    · split
      · rw [List.mem_cons]
      · rename_i h1 h2
        rcases h y (by simp) with e | e | e
        · exact absurd e h1
        · subst e
          constructor
          · exact .inr
          · rintro (e | e)
            · rw [e]; simp
            · exact e
        · exact absurd e h2
theorem srt_insG {α : Type} {lt : α → α → Bool} (hs : Strict lt) (x : α) : ∀ (l : List α) (_ : ∀ y ∈ l, lt y x = true ∨ y = x ∨ lt x y = true), Srt lt l → Srt lt (insG lt x l) := by
  intro l
  induction l with
  | nil => intro _ _; simp [insG, Srt]
  | cons y r ih =>
    intro h hp
    have p := List.pairwise_cons.1 hp
    have hr : ∀ a ∈ r, lt a x = true ∨ a = x ∨ lt x a = true := fun a ha => h a (List.mem_cons_of_mem _ ha)
    unfold insG
    split
    · rename_i h1
      refine List.pairwise_cons.2 ⟨fun b hb => ?_, ih hr p.2⟩
      rcases (mem_insG x r hr b).1 hb with rfl | h2
      · exact h1
      · exact p.1 b h2
    · split
      · rename_i h2
        refine List.pairwise_cons.2 ⟨fun b hb => ?_, hp⟩
        rcases List.mem_cons.1 hb with rfl | h4
        · exact h2
        · exact hs.trans _ _ _ h2 (p.1 b h4)
      · exact hp
theorem sortG_law {α : Type} {lt : α → α → Bool} (hs : Strict lt) : ∀ (l : List α) (_ : ∀ x ∈ l, ∀ y ∈ l, lt y x = true ∨ y = x ∨ lt x y = true), Srt lt (sortG lt l) ∧ ∀ x, x ∈ sortG lt l ↔ x ∈ l := by
  intro l
  induction l with
  | nil => intro _; exact ⟨List.Pairwise.nil, fun x => Iff.rfl⟩
  | cons a r ih =>
    intro h
    obtain ⟨h1, h2⟩ := ih fun x hx y hy => h x (List.mem_cons_of_mem _ hx) y (List.mem_cons_of_mem _ hy)
    have hc : ∀ y ∈ sortG lt r, lt y a = true ∨ y = a ∨ lt a y = true := fun y hy => h a (by simp) y (List.mem_cons_of_mem _ ((h2 y).1 hy))
    refine ⟨srt_insG hs a _ hc h1, fun x => ?_⟩
    show x ∈ insG lt a (sortG lt r) ↔ _
    rw [mem_insG a _ hc, h2, List.mem_cons]
def inSp (s : Spn) (x : Ln) : Prop := s.path = x.path ∧ s.fr ≤ x.n ∧ x.n < s.tu
def inL (l : List Spn) (x : Ln) : Prop := ∃ s ∈ l, inSp s x
def befSp (a b : Spn) : Prop := ltS a.path b.path = true ∨ (a.path = b.path ∧ a.tu < b.fr)
def NF (l : List Spn) : Prop := l.Pairwise befSp ∧ ∀ s ∈ l, s.fr < s.tu
theorem NF.tail {s : Spn} {l : List Spn} (h : NF (s :: l)) : NF l := ⟨(List.pairwise_cons.1 h.1).2, fun x hx => h.2 x (List.mem_cons_of_mem _ hx)⟩
theorem NF.head {s : Spn} {l : List Spn} (h : NF (s :: l)) : s.fr < s.tu ∧ ∀ b ∈ l, befSp s b := ⟨h.2 s (by simp), (List.pairwise_cons.1 h.1).1⟩
theorem NF.least {s : Spn} {l : List Spn} (h : NF (s :: l)) {x : Ln} (hx : inL (s :: l) x) : x = ⟨s.path, s.fr⟩ ∨ ltLn ⟨s.path, s.fr⟩ x = true := by
  obtain ⟨a, ha, h1, h2, h3⟩ := hx
  rcases List.mem_cons.1 ha with rfl | ha
  · rcases Int.lt_or_eq_of_le h2 with h4 | h4
    · right; unfold ltLn; simp [h1, h4]
    · left; cases x; simp_all
  · right
    unfold ltLn
    rcases h.head.2 a ha with h4 | ⟨h4, h5⟩
    · simp [← h1, h4]
    · have : s.fr < s.tu := h.head.1
      simp only [Bool.or_eq_true, Bool.and_eq_true, beq_iff_eq, decide_eq_true_eq]
      exact .inr ⟨h4.trans h1, by omega⟩
theorem NF.first {s : Spn} {l : List Spn} (h : NF (s :: l)) : inL (s :: l) ⟨s.path, s.fr⟩ := ⟨s, by simp, rfl, Int.le_refl _, h.head.1⟩
theorem NF.gap {s : Spn} {l : List Spn} (h : NF (s :: l)) : ¬ inL (s :: l) ⟨s.path, s.tu⟩ := by
  rintro ⟨a, ha, h1, h2, h3⟩
  simp only at h1 h2 h3
  rcases List.mem_cons.1 ha with rfl | ha
  · omega
  · rcases h.head.2 a ha with h4 | ⟨h4, h5⟩
    · rw [h1, ltS_irr] at h4; cases h4
    · omega
theorem nf_unique : ∀ {l m : List Spn}, NF l → NF m → (∀ x, inL l x ↔ inL m x) → l = m := by
  intro l
  induction l with
  | nil =>
    intro m _ h2 h
    cases m with
    | nil => rfl
    | cons y t => obtain ⟨s, hs, _⟩ := (h _).2 h2.first; cases hs
  | cons a r ih =>
    intro m h1 h2 h
    cases m with
    | nil => obtain ⟨s, hs, _⟩ := (h _).1 h1.first; cases hs
    | cons b t =>
      have e1 : (⟨a.path, a.fr⟩ : Ln) = ⟨b.path, b.fr⟩ := by
        rcases h2.least ((h _).1 h1.first) with e | e
        · exact e
        · rcases h1.least ((h _).2 h2.first) with e' | e'
          · exact e'.symm
          · have := strLn.trans _ _ _ e e'
            rw [strLn.irr] at this
            cases this
      have ep : a.path = b.path := congrArg Ln.path e1
      have ef : a.fr = b.fr := congrArg Ln.n e1
      have et : a.tu = b.tu := by
        rcases Int.lt_trichotomy a.tu b.tu with h3 | h3 | h3
        · exact absurd ((h _).2 ⟨b, by simp, ep.symm, by have := h1.head.1; show b.fr ≤ a.tu; omega, h3⟩) h1.gap
        · exact h3
        · exact absurd ((h _).1 ⟨a, by simp, ep, by have := h2.head.1; show a.fr ≤ b.tu; omega, h3⟩) h2.gap
      have eab : a = b := by cases a; cases b; simp_all
      subst eab
      rw [ih h1.tail h2.tail fun x => ?_]
      have hout : ∀ {q : List Spn}, NF (a :: q) → inL q x → ¬ inSp a x := by
        rintro q hq ⟨c, hc, k1, k2, k3⟩ ⟨j1, j2, j3⟩
        rcases hq.head.2 c hc with h4 | ⟨h4, h5⟩
        · rw [j1, k1, ltS_irr] at h4; cases h4
        · omega
      constructor
      · intro hx
        obtain ⟨c, hc, hcx⟩ := (h x).1 (by obtain ⟨c, hc, hcx⟩ := hx; exact ⟨c, List.mem_cons_of_mem _ hc, hcx⟩)
        rcases List.mem_cons.1 hc with rfl | hc
        · exact absurd hcx (hout h1 hx)
        · exact ⟨c, hc, hcx⟩
      · intro hx
        obtain ⟨c, hc, hcx⟩ := (h x).2 (by obtain ⟨c, hc, hcx⟩ := hx; exact ⟨c, List.mem_cons_of_mem _ hc, hcx⟩)
        rcases List.mem_cons.1 hc with rfl | hc
        · exact absurd hcx (hout h2 hx)
        · exact ⟨c, hc, hcx⟩
end Go.Proofs.YtpeamehplhpcjaaGreatDoor
