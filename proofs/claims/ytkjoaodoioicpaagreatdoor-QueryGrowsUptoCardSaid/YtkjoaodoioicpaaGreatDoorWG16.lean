/- Query (package licitlaw54): a part of the proofs of its laws; see the law's own text, which comes last in 'order'. No conditions of its own. -/
import Derived.Lib.SliceRun
import Derived.Test.YtkjoaodoioicpaaGreatDoorWG04
import Derived.Test.YtkjoaodoioicpaaGreatDoorWG15
set_option linter.unusedVariables false
set_option linter.unusedSimpArgs false
namespace Go.Proofs.YtkjoaodoioicpaaGreatDoor
open Go.RowKit
theorem Own.argT {w : World} {T T' : Nat → Prop} {base e : Nat} {A : Option Addr} {c : Nat} {xs : List Arg} (h : Own w T base e A c xs) : Own w T' base e A c xs := by
  obtain ⟨cs, h1, h2⟩ := h
  exact ⟨cs, h1, fun i hi => h2 i hi⟩
theorem sliArg : Tryz.prog.underlying 29 = some (.slice 46) := by kernel_rfl
@[go_sem ↓] theorem eqNilArg (w : World) (a : Option Addr) (n c : Nat) : (binOp .eql 29 (.slice a n c) (.slice none 0 0)).run Tryz.prog w = .ok (.bool a.isNone) w := by
  simp [Lib.run_eql_slice_nil w _ _ a n c 0 0 sliArg]
set_option maxRecDepth 100000 in
set_option maxHeartbeats 1000000 in
theorem cloneArg_any (A : Option Addr) (n c : Nat) (w : World) (S : Nat → Prop) (xs : List Arg) (hl : Sl w S A n c xs) (hn : n ≤ 1000000) :
    Calls Tryz.prog 62 #[.slice A n c] w fun e w' => ∃ A' n' c', e = .returned (.slice A' n' c') ∧ Sl w' (fun b => w.heap.size ≤ b) A' n' c' xs ∧ Below w.heap.size w w' := by
  have hlen := hl.len
  have hle := hl.2.1
  have hcc := hl.2.2.1
  cases A with
  | none =>
    have hx : xs = [] := by
      cases xs with
      | nil => rfl
      | cons a r => obtain ⟨ad, hA, _⟩ := hl.at_ (k := 0) (by simp); cases hA
    subst hx
    have hn0 : n = 0 := hlen
    subst hn0
    clear hlen hl hn hle hcc
    go_enter Tryz.func62, Tryz.ntmps62
    go_wp2
    go_ret
    exact ⟨none, 0, 0, rfl, Sl.nil _ _ _ _ (by decide), Below.refl _ _⟩
  | some ad =>
    have HL := Lib.hid hl; clear hl
    go_enter Tryz.func62, Tryz.ntmps62
    go_wp2_with (at_builtin; go_loud (refine wpList_appN (e := 46) (T := S) (base := w.heap.size) (xs := ([] : List Arg)) rfl (.tmp 5) (.tmp 6) eltArg rfl (by decide) rfl rfl rfl (Own.emp (blkAt _ _ rfl) (Nat.le_refl _)) rfl ((HL.out.wide (fun k hk1 hk => ⟨hk, fun e => by injection e with e; exact absurd e (by have := hk1; simp only; omega)⟩) (by decide)).alloc _) (by simp; omega) (by simp; omega) (by simp) ?_); intro A' c' w3 hown' hg hat)
    go_ret
    refine ⟨A', _, c', rfl, ?_, boxed.grown hg (by simp) (fun k hk => by have hk : some w.heap.size = some k := hk; injection hk with hk; omega)⟩
    have h2 := (hown'.argT.sl (by decide)).wide (S' := fun b => w.heap.size ≤ b) (fun k _ hk => hk.elim (fun hk => (hk : False).elim) (fun hk => (hown'.lt k hk).1)) (by decide)
    simpa using h2
theorem sliRul : Tryz.prog.underlying 22 = some (.slice 34) := by kernel_rfl
@[go_sem ↓] theorem eqNilRul (w : World) (a : Option Addr) (n c : Nat) : (binOp .eql 22 (.slice a n c) (.slice none 0 0)).run Tryz.prog w = .ok (.bool a.isNone) w := by
  simp [Lib.run_eql_slice_nil w _ _ a n c 0 0 sliRul]
end Go.Proofs.YtkjoaodoioicpaaGreatDoor
namespace Go.Proofs.YtkjoaodoioicpaaGreatDoor
open Go.RowKit
set_option maxRecDepth 100000 in
set_option maxHeartbeats 4000000 in
theorem equalA_any (A : Option Addr) (n c : Nat) (xs : List Arg) (B : Option Addr) (m d : Nat) (ys : List Arg) (w : World) (S T : Nat → Prop) (hl : Sl w S A n c xs) (hr : Sl w T B m d ys) :
    Calls Tryz.prog 86 #[.slice A n c, .slice B m d] w fun e w' => e = .returned (.bool (decide (xs = ys))) ∧ Below w.heap.size w w' := by
  obtain ⟨v, hv⟩ : ∃ v, v = decide (xs = ys) := ⟨_, rfl⟩
  rw [← hv]
  have hn := hl.len; have hm := hr.len
  subst hn hm
  have hle := hl.le; have hle2 := hr.le
  by_cases hlen : xs.length = ys.length
  · have HV : Hid (v = decide (xs.drop 0 = ys.drop 0)) := hv
    have HL := Lib.hid hl; have HR := Lib.hid hr; have HLEN := Lib.hid hlen
    have hlb : ((xs.length : Int) != (ys.length : Int)) = false := by simp [hlen]
    clear hv hl hr
    go_enter Tryz.func86, Tryz.ntmps86
    clear hlen
    go_wp2_with fail
    clear hlb
    go_loopw [13] (fun i wr => ∃ k : Nat, k ≤ xs.length ∧ i = .int .i64 k ∧ Below w.heap.size w wr ∧ Hid (v = decide (xs.drop k = ys.drop k))) (fun i _ => xs.length - (intOf i).toNat)
    case atStart => exact ⟨0, by omega, rfl, Below.refl _ _, HV⟩
    case round =>
      obtain ⟨k, hk, rfl, hb, hf⟩ := hrel
      by_cases hlt : k < xs.length
      · obtain ⟨b1, o1, rfl, -, hbs1, h1, h2, h3⟩ := (HL.out.below hb).arg hlt
        obtain ⟨b2, o2, rfl, -, hbs2, g1, g2, g3⟩ := (HR.out.below hb).arg (k := k) (by have := HLEN.out; omega)
        have hd := hf.out
        rw [drop_get hlt, drop_get (l := ys) (k := k) (by have := HLEN.out; omega)] at hd
        generalize xs[k] = p at *
        generalize ys[k]'_ = q at *
        obtain ⟨pk, pt, pn⟩ := p
        obtain ⟨qk, qt, qn⟩ := q
        simp only at h1 h2 h3 g1 g2 g3
        have HD := Lib.hid hd
        have HX := Lib.hid (fun (x : World) (hx : Below wr.heap.size wr x) => And.intro (cell_later hx h1) (And.intro (cell_later hx h2) (And.intro (cell_later hx h3) (And.intro (cell_later hx g1) (And.intro (cell_later hx g2) (cell_later hx g3))))))
        have HBW := Lib.hid hb
        have q0 : (0 : Int) ≤ (k : Int) := by omega
        have q1 : (k : Int) < (xs.length : Int) := by omega
        have q2 : (k : Int) < (ys.length : Int) := by have := HLEN.out; omega
        clear hd hf
        go_wp2_with fail
        refine wpH_region (fun x => Below wr.heap.size wr x) (by kernel_rfl) ?_
        have hS : Below wr.heap.size wr wr.drew := (Below.refl _ _).drew
        clear h1 h2 h3 g1 g2 g3 hb
        (refine tkW 0 (v := ?_) hS ?_ ?_; rotate_left; (focus (intro x hx; have fx := HX.out x hx; go_simp; (try with_reducible rfl); done)); (try simp only [Act.put, lsa, lsz, lss]))
        (refine tkW 1 (v := ?_) hS ?_ ?_; rotate_left; (focus (intro x hx; have fx := HX.out x hx; go_simp; (try with_reducible rfl); done)); (try simp only [Act.put, lsa, lsz, lss]))
        (refine tkW 2 (v := ?_) hS ?_ ?_; rotate_left; (focus (intro x hx; have fx := HX.out x hx; go_simp; (try with_reducible rfl); done)); (try simp only [Act.put, lsa, lsz, lss]))
        (refine tkW 3 (v := ?_) hS ?_ ?_; rotate_left; (focus (intro x hx; have fx := HX.out x hx; go_simp; (try with_reducible rfl); done)); (try simp only [Act.put, lsa, lsz, lss]))
        (refine tkW 4 (v := ?_) hS ?_ ?_; rotate_left; (focus (intro x hx; have fx := HX.out x hx; go_simp; (try with_reducible rfl); done)); (try simp only [Act.put, lsa, lsz, lss]))
        (refine tkW 5 (v := ?_) hS ?_ ?_; rotate_left; (focus (intro x hx; have fx := HX.out x hx; go_simp; (try with_reducible rfl); done)); (try simp only [Act.put, lsa, lsz, lss]))
        (refine tkW 6 (v := ?_) hS ?_ ?_; rotate_left; (focus (intro x hx; have fx := HX.out x hx; go_simp; (try with_reducible rfl); done)); (try simp only [Act.put, lsa, lsz, lss]))
        (refine tkW 7 (v := ?_) hS ?_ ?_; rotate_left; (focus (intro x hx; have fx := HX.out x hx; go_simp; (try with_reducible rfl); done)); (try simp only [Act.put, lsa, lsz, lss]))
        by_cases hpq : pk = qk ∧ pt = qt ∧ pn = qn
        · obtain ⟨rfl, rfl, rfl⟩ := hpq
          (refine tkW 8 (v := ?_) hS ?_ ?_; rotate_left; (focus (intro x hx; have fx := HX.out x hx; go_simp; (try with_reducible rfl); done)); (try simp only [Act.put, lsa, lsz, lss]))
          refine wpAnyH_done (by kernel_rfl) ?_ _
          go_wp2_with fail
          go_roundw
          case rel =>
            refine ⟨k + 1, by omega, by go_num, HBW.out.trans (hS.mono HBW.out.size), Lib.hid ?_⟩
            rw [HD.out, Bool.eq_iff_iff]
            simp
          case measure => simp [intOf]; omega
        · refine wpAnyH_takeW 8 rfl rfl (by kernel_rfl) (by kernel_rfl) (by kernel_rfl) (fun _ _ _ h => h) (v := .bool true) (by kernel_rfl) hS (fun x hx => by have fx := HX.out x hx; go_simp; exact fun a b c => hpq ⟨a, b, c⟩) ?_
          simp only [Act.put, lsa, lsz, lss]
          refine wpAnyH_done (by kernel_rfl) ?_ _
          have hd : v = false := by
            rw [HD.out, decide_eq_false_iff_not]
            intro e
            injection e with e
            injection e with e1 e2 e3
            exact hpq ⟨e1, e2, e3⟩
          have HF := Lib.hid hd; clear hd hpq
          go_wp2_with fail
          go_ret
          exact ⟨ret_bool HF.out, HBW.out.trans (hS.mono HBW.out.size)⟩
      · have hd := hf.out
        rw [drop_end hlt, drop_end (by have := HLEN.out; omega)] at hd
        have HD := Lib.hid (show v = true by rw [hd]; rfl)
        clear hd hf
        go_wp2_with fail
        go_ret
        exact ⟨ret_bool HD.out, hb⟩
  · have HV := Lib.hid (show v = false by rw [hv, decide_eq_false_iff_not]; intro e; exact hlen (by rw [e]))
    have hlb : ((xs.length : Int) != (ys.length : Int)) = true := by rw [bne_iff_ne]; omega
    clear hv hl hr hlen
    go_enter Tryz.func86, Tryz.ntmps86
    go_wp2_with fail
    go_ret
    exact ⟨ret_bool HV.out, Below.refl _ _⟩
set_option maxHeartbeats 2000000 in
theorem sameQ_any (x y : Atm) (A : Option Addr) (n c : Nat) (B : Option Addr) (m d : Nat) (w : World) (S T : Nat → Prop) (hl : Sl w S A n c x.args) (hr : Sl w T B m d y.args) :
    Calls Tryz.prog 50 #[.agg #[.string ⟨x.name.toArray⟩, .slice A n c], .agg #[.string ⟨y.name.toArray⟩, .slice B m d]] w fun e w' => e = .returned (.bool (decide (x = y))) ∧ Below w.heap.size w w' := by
  obtain ⟨v, hv⟩ : ∃ v, v = decide (x = y) := ⟨_, rfl⟩
  rw [← hv]
  obtain ⟨xn, xa⟩ := x
  obtain ⟨yn, ya⟩ := y
  simp only at *
  have hq := fun w S T hl hr => equalA_any A n c xa B m d ya w S T hl hr
  by_cases hn : xn = yn
  · subst hn
    have HV := Lib.hid (show v = decide (xa = ya) by rw [hv, Bool.eq_iff_iff]; simp)
    have HQ := Lib.hid hq; have HL := Lib.hid hl; have HR := Lib.hid hr
    clear hv hq hl hr
    go_enter Tryz.func50, Tryz.ntmps50
    go_wp2_with fail
    refine (HQ.out _ _ _ ((HL.out.alloc _).alloc _) ((HR.out.alloc _).alloc _)).mono ?_
    rintro e w3 ⟨rfl, hb3⟩
    rw [← HV.out]
    go_wp2_with fail
    go_ret
    have hb0 : Below w.heap.size w ((w.alloc (.cells #[.string ⟨xn.toArray⟩, .slice A n c] 31)).alloc (.cells #[.string ⟨xn.toArray⟩, .slice B m d] 31)) := boxed.alloc (by simp) _
    exact ⟨rfl, hb0.trans (hb3.mono hb0.size)⟩
  · have HV := Lib.hid (show v = false by rw [hv, decide_eq_false_iff_not]; intro e; injection e with e _; exact hn e)
    have hnb : (xn == yn) = false := by simpa using hn
    clear hv hq hl hr
    go_enter Tryz.func50, Tryz.ntmps50
    go_wp2_with fail
    go_ret
    exact ⟨ret_bool HV.out, boxed.alloc (by simp) _⟩
end Go.Proofs.YtkjoaodoioicpaaGreatDoor
namespace Go.Proofs.YtkjoaodoioicpaaGreatDoor
open Go.RowKit
set_option maxHeartbeats 800000 in
theorem idxT_any (A : Option Addr) (n c : Nat) (w : World) (S : Nat → Prop) (xs : List Atm) (hl : Sl w S A n c xs) (F : Nat) (caps : Array Value) (hF : ∀ (args : Array Value) (w : World), (callFunc F args).run Tryz.prog w = .ok (.enter F args) w)
    (p : Atm → Bool) (hp : ∀ x ∈ xs, ∀ w1, Below w.heap.size w w1 → ∀ v, VAtm w1 S v x → Calls Tryz.prog F (#[v] ++ caps) w1 fun e w2 => e = .returned (.bool (p x)) ∧ Below w1.heap.size w1 w2) :
    Calls Tryz.prog 85 #[.slice A n c, .func (.func F) #[] caps] w fun e w' => e = .returned (.int .i64 (idxS p xs 0)) ∧ Below w.heap.size w w' := by
  have hn := hl.le
  have hlen := hl.len
  subst hlen
  have HL := Lib.hid hl; have HP := Lib.hid hp; clear hl hp
  obtain ⟨v0, hv⟩ : ∃ v0, v0 = idxS p xs 0 := ⟨_, rfl⟩
  rw [← hv]
  have Hf : Hid (v0 = idxS p (xs.drop 0) 0) := hv
  clear hv
  go_enter Tryz.func85, Tryz.ntmps85
  go_wp2_with fail
  go_loopw [8] (fun i wr => ∃ k : Nat, k ≤ xs.length ∧ i = .int .i64 k ∧ Below w.heap.size w wr ∧ Hid (v0 = idxS p (xs.drop k) k)) (fun i _ => xs.length - (intOf i).toNat)
  case atStart => exact ⟨0, by omega, rfl, Below.refl _ _, Hf⟩
  case round =>
    obtain ⟨k, hk, rfl, hb, hf⟩ := hrel
    by_cases hlt : k < xs.length
    · obtain ⟨b, o, rfl, -, hbs, A1, n1, c1, h1, h2, hs⟩ := (HL.out.below hb).atm hlt
      have hd : v0 = if p xs[k] then (k : Int) else idxS p (xs.drop (k + 1)) (k + 1) := by rw [hf.out, drop_get hlt]; rfl
      have hc := HP.out _ (List.getElem_mem hlt) _ hb _ ⟨A1, n1, c1, rfl, hs⟩
      generalize p xs[k] = q at *
      generalize xs[k] = x at *
      have HD := Lib.hid hd; have HC := Lib.hid hc; have HS := Lib.hid hs; clear hs
      clear hd hc hf
      go_wp2_with fail
      refine HC.out.mono ?_
      rintro e w1 ⟨rfl, hb1⟩
      cases q
      · go_wp2
        go_roundw
        case rel => exact ⟨k + 1, by omega, by go_num, next hb hb1 (Nat.le_refl _), HD.out⟩
        case measure => simp [intOf]; omega
      · go_wp2
        go_ret
        exact ⟨ret_int HD.out, next hb hb1 (Nat.le_refl _)⟩
    · go_wp2
      go_ret
      exact ⟨ret_int (by rw [hf.out, drop_end hlt]; rfl), hb⟩
theorem conT_any (A : Option Addr) (n c : Nat) (w : World) (S : Nat → Prop) (xs : List Atm) (hl : Sl w S A n c xs) (F : Nat) (caps : Array Value) (hF : ∀ (args : Array Value) (w : World), (callFunc F args).run Tryz.prog w = .ok (.enter F args) w)
    (p : Atm → Bool) (hp : ∀ x ∈ xs, ∀ w1, Below w.heap.size w w1 → ∀ v, VAtm w1 S v x → Calls Tryz.prog F (#[v] ++ caps) w1 fun e w2 => e = .returned (.bool (p x)) ∧ Below w1.heap.size w1 w2) :
    Calls Tryz.prog 48 #[.slice A n c, .func (.func F) #[] caps] w fun e w' => e = .returned (.bool (xs.any p)) ∧ Below w.heap.size w w' := by
  have h := idxT_any A n c w S xs hl F caps hF p hp
  rw [← idxS_any p xs 0]
  generalize idxS p xs 0 = z at *
  have H := Lib.hid h
  clear h hl hp
  go_enter Tryz.func48, Tryz.ntmps48
  go_wp2_with (first | (go_at_call 85; refine H.out.mono ?_; rintro e w1 ⟨rfl, hb1⟩))
  go_ret
  exact ⟨rfl, hb1⟩
set_option maxHeartbeats 2000000 in
theorem has1_any (x y : Atm) (k0 : Nat) (A : Option Addr) (n c : Nat) (B : Option Addr) (m d : Nat) (w : World) (S T : Nat → Prop) (hl : Sl w S A n c x.args) (hr : Sl w T B m d y.args) (hb : w.heap[k0]? = some (.cells #[.string ⟨y.name.toArray⟩, .slice B m d] 31 (0, 0))) :
    Calls Tryz.prog 49 (#[.agg #[.string ⟨x.name.toArray⟩, .slice A n c]] ++ #[.pointer (some ⟨k0, 0, none⟩)]) w fun e w' => e = .returned (.bool (decide (x = y))) ∧ Below w.heap.size w w' := by
  have hq := sameQ_any x y A n c B m d _ S T (hl.alloc (.cells #[.string ⟨x.name.toArray⟩, .slice A n c] 31)) (hr.alloc (.cells #[.string ⟨x.name.toArray⟩, .slice A n c] 31))
  have c0 := (cell_blk hb 0).trans rfl
  have c1 := (cell_blk hb 1).trans rfl
  have hlt := (Array.getElem?_eq_some_iff.1 hb).1
  have HQ := Lib.hid hq; clear hq hl hr hb
  go_enter Tryz.func49, Tryz.ntmps49
  go_wp2_with fail
  refine HQ.out.mono ?_
  rintro e w3 ⟨rfl, hb3⟩
  go_wp2_with fail
  go_ret
  exact ⟨rfl, boxed.trans (hb3.mono (by simp))⟩
set_option maxHeartbeats 2000000 in
theorem HasQ_any (L : List Atm) (y : Atm) (A : Option Addr) (n c : Nat) (B : Option Addr) (m d : Nat) (w : World) (S T : Nat → Prop) (hl : Sl w S A n c L) (hr : Sl w T B m d y.args) :
    Calls Tryz.prog 22 #[.slice A n c, .agg #[.string ⟨y.name.toArray⟩, .slice B m d]] w fun e w' => e = .returned (.bool (hasQ L y)) ∧ Below w.heap.size w w' := by
  have hx : hasQ L y = L.any (fun x => decide (x = y)) := by
    unfold hasQ
    rw [Bool.eq_iff_iff, List.contains_iff_mem, List.any_eq_true]
    constructor
    · intro h; exact ⟨y, h, by simp⟩
    · rintro ⟨x, hx, e⟩; have : x = y := by simpa using e
      rw [← this]; exact hx
  have hbk := blkAt w (.cells #[.string ⟨y.name.toArray⟩, .slice B m d] 31) rfl
  have hc := conT_any A n c (w.alloc (.cells #[.string ⟨y.name.toArray⟩, .slice B m d] 31)) S L (hl.alloc _) 49 #[.pointer (some ⟨w.heap.size, 0, none⟩)] (fun _ _ => by kernel_rfl) (fun x => decide (x = y))
    (fun x _ w1 hb1 v hv => by
      obtain ⟨A1, n1, c1, rfl, hs⟩ := hv
      exact has1_any x y w.heap.size A1 n1 c1 B m d w1 _ _ hs ((hr.alloc _).below hb1) (keptBlk hb1 hbk))
  rw [hx]
  generalize L.any (fun x => decide (x = y)) = v at *
  have HC := Lib.hid hc; clear hc hl hr hbk hx
  go_enter Tryz.func22, Tryz.ntmps22
  go_wp2_with fail
  refine HC.out.mono ?_
  rintro e w3 ⟨rfl, hb3⟩
  go_wp2_with fail
  go_ret
  exact ⟨rfl, boxed.trans (hb3.mono (by simp))⟩
end Go.Proofs.YtkjoaodoioicpaaGreatDoor
namespace Go.Proofs.YtkjoaodoioicpaaGreatDoor
open Go.RowKit
def basePl (a : Atm) : Plc := ⟨a.name, a.args.length, -1, 0, 0, []⟩
def argPl (a : Atm) (i : Nat) (x : Arg) : Plc := ⟨a.name, a.args.length, i, x.kind, x.num, x.text⟩
def CandP (a : Atm) (q : Plc) : Prop := q = basePl a ∨ ∃ i x, a.args[i]? = some x ∧ x.kind ≠ 1 ∧ q = argPl a i x
def Kinds (l : List Arg) : Prop := ∀ y ∈ l, y.kind = 1 ∨ y.kind = 2 ∨ y.kind = 3
theorem okP_base {a : Atm} (h : OkT a) (hl : a.args.length ≤ 1000000) : OkP (basePl a) := by
  refine ⟨h.1, by simp [basePl], ⟨?_, ?_⟩, ⟨?_, ?_⟩, ⟨?_, ?_⟩, ⟨?_, ?_⟩⟩ <;> simp only [basePl] <;> omega
theorem okP_arg {a : Atm} (h : OkT a) (hl : a.args.length ≤ 1000000) (hk : Kinds a.args) {i : Nat} {x : Arg} (hi : a.args[i]? = some x) : OkP (argPl a i x) := by
  have hm := List.mem_of_getElem? hi
  obtain ⟨h2, h2b, h2c⟩ := h.2 x hm
  have h3 := hk x hm
  have h4 := (List.getElem?_eq_some_iff.1 hi).1
  refine ⟨h.1, h2, ⟨?_, ?_⟩, ⟨?_, ?_⟩, ⟨?_, ?_⟩, ⟨?_, ?_⟩⟩ <;> simp only [argPl] <;> omega
theorem zeroP (w : World) : (zeroValue 23).run Tryz.prog w = .ok (.slice none 0 0) w := by kernel_rfl
set_option maxRecDepth 100000 in
set_option maxHeartbeats 8000000 in
theorem candQ_any (F I : Nat → Prop) (p : Nat) (L : List Atm) (x : Atm) (A : Option Addr) (n c : Nat) (w : World) (S : Nat → Prop) (hb : BaseR w F I p L) (hs : Sl w S A n c x.args) (ho : OkT x) (hN : x.args.length ≤ 1000000) (hkd : Kinds x.args) :
    Calls Tryz.prog 79 #[.pointer (some ⟨p, 0, none⟩), .agg #[.string ⟨x.name.toArray⟩, .slice A n c]] w fun e w' => ∃ q B c', CandP x q ∧ e = .returned (.slice B (idxL L q).length c') ∧ Sl w' (fun k => F k ∨ I k) B (idxL L q).length c' (idxL L q) ∧ Below w.heap.size w w' := by
  have hn := hs.len
  subst hn
  obtain ⟨fb, ib, fm, im, hbb, -, -, -, -, -, -, hmi, -, -, hidx, -⟩ := hb.ex
  have hidx2 : ∀ q, OkP q → ∃ B c', (getM im q).getD (.slice none 0 0) = .slice B (idxL L q).length c' ∧ Sl w (fun k => F k ∨ I k) B (idxL L q).length c' (idxL L q) := by
    intro q hq
    obtain ⟨B, c', e, ho, hF⟩ := hidx q hq
    exact ⟨B, c', e, (ho.sl (by decide)).wide (fun k _ hk => hk.elim .inr (fun hk => .inl (hF k hk))) (by decide)⟩
  have hlook : ∀ (z : World) (hz : Below w.heap.size w z) q (hq : OkP q) B c', (getM im q).getD (.slice none 0 0) = .slice B (idxL L q).length c' → Sem.run Tryz.prog (Instr.lookup 89 (.map (some ib)) (vPlc q) false) z = .ok (.slice B (idxL L q).length c') z := by
    intro z hz q hq B c' e
    have := (hmi.below hz).look Tryz.underlying89 (zeroP z) (k := q) hq false
    rw [e] at this
    exact this
  have hob := okP_base ho hN
  have hoa := fun i y (h : x.args[i]? = some y) => okP_arg ho hN hkd h
  obtain ⟨nm, args⟩ := x
  simp only at hs hN hoa
  have hle := hs.le
  have HID := Lib.hid hidx2; have HLK := Lib.hid hlook; have HOB := Lib.hid hob; have HOA := Lib.hid hoa; have HS := Lib.hid hs; have HBB := Lib.hid hbb; have HKD := Lib.hid hkd
  clear hidx2 hlook hob hoa hs hbb hkd hidx hmi hb ho
  have hbx : ((w.alloc (.cells #[.string ⟨nm.toArray⟩, .slice A args.length c] 31)).alloc (.cells #[.string ⟨nm.toArray⟩, .int .i64 args.length, .int .i64 (-1), .int .i64 0, .int .i64 0, .string ⟨#[]⟩] 128)).heap[w.heap.size]? = some (.cells #[.string ⟨nm.toArray⟩, .slice A args.length c] 31 (0, 0)) := blkOld (blkAt w _ rfl) _
  have hby : ((w.alloc (.cells #[.string ⟨nm.toArray⟩, .slice A args.length c] 31)).alloc (.cells #[.string ⟨nm.toArray⟩, .int .i64 args.length, .int .i64 (-1), .int .i64 0, .int .i64 0, .string ⟨#[]⟩] 128)).heap[w.heap.size + 1]? = some (.cells #[.string ⟨nm.toArray⟩, .int .i64 args.length, .int .i64 (-1), .int .i64 0, .int .i64 0, .string ⟨#[]⟩] 128 (0, 0)) := blkAt _ _ (by simp)
  have hbl : Below w.heap.size w ((w.alloc (.cells #[.string ⟨nm.toArray⟩, .slice A args.length c] 31)).alloc (.cells #[.string ⟨nm.toArray⟩, .int .i64 args.length, .int .i64 (-1), .int .i64 0, .int .i64 0, .string ⟨#[]⟩] 128)) := boxed.alloc (by simp) _
  have HBX := Lib.hid hbx; have HBY := Lib.hid hby; have HBL := Lib.hid hbl; clear hbx hby hbl
  go_enter Tryz.func79, Tryz.ntmps79
  go_wp2_with fail
  have hbx := HBX.out; have hby := HBY.out; have hbl := HBL.out
  generalize (w.alloc (.cells #[.string ⟨nm.toArray⟩, .slice A args.length c] 31)).alloc (.cells #[.string ⟨nm.toArray⟩, .int .i64 args.length, .int .i64 (-1), .int .i64 0, .int .i64 0, .string ⟨#[]⟩] 128) = W at *
  clear HBX HBY HBL
  have hbb := keptBlk hbl HBB.out
  have HX := Lib.hid (fun (z : World) (hz : Below W.heap.size W z) => And.intro ((cell_blk (keptBlk hz hbb) 1).trans rfl) (And.intro ((cell_blk (keptBlk hz hbx) 0).trans rfl) (And.intro ((cell_blk (keptBlk hz hbx) 1).trans rfl) (And.intro ((cell_blk (keptBlk hz hby) 0).trans rfl) (And.intro ((cell_blk (keptBlk hz hby) 1).trans rfl) (And.intro ((cell_blk (keptBlk hz hby) 2).trans rfl) (And.intro ((cell_blk (keptBlk hz hby) 3).trans rfl) (And.intro ((cell_blk (keptBlk hz hby) 4).trans rfl) ((cell_blk (keptBlk hz hby) 5).trans rfl)))))))))
  have HT := Lib.hid (fun (z : World) (hz : Below W.heap.size W z) => hbl.trans (hz.mono hbl.size))
  clear hbb hbx hby hbl HBB
  obtain ⟨B0, c0, e0, s0⟩ := HID.out _ HOB.out
  have HL0 := Lib.hid (fun (z : World) (hz : Below W.heap.size W z) => HLK.out z (HT.out z hz) _ HOB.out _ _ e0)
  refine wpH_region (fun z => Below W.heap.size W z) (by kernel_rfl) ?_
  have hS : Below W.heap.size W W.drew := (Below.refl _ _).drew
  (refine tkW 0 (v := ?_) hS ?_ ?_; rotate_left; (focus (intro x hx; have fx := HX.out x hx; go_simp; (try with_reducible rfl); done)); (try simp only [Act.put, lsa, lsz, lss]))
  (refine tkW 1 (v := ?_) hS ?_ ?_; rotate_left; (focus (intro x hx; have fx := HX.out x hx; go_simp; (try with_reducible rfl); done)); (try simp only [Act.put, lsa, lsz, lss]))
  (refine tkW 2 (v := ?_) hS ?_ ?_; rotate_left; (focus (intro x hx; have fx := HX.out x hx; go_simp; (try with_reducible rfl); done)); (try simp only [Act.put, lsa, lsz, lss]))
  (refine tkW 3 (v := ?_) hS ?_ ?_; rotate_left; (focus (intro x hx; have fx := HX.out x hx; go_simp; (try with_reducible rfl); done)); (try simp only [Act.put, lsa, lsz, lss]))
  (refine tkW 4 (v := ?_) hS ?_ ?_; rotate_left; (focus (intro x hx; have fx := HX.out x hx; go_simp; (try with_reducible rfl); done)); (try simp only [Act.put, lsa, lsz, lss]))
  refine wpAnyH_takeW 5 rfl rfl (by kernel_rfl) (by kernel_rfl) (by kernel_rfl) (fun _ _ _ h => h) (v := .slice B0 (idxL L (basePl ⟨nm, args⟩)).length c0) (by kernel_rfl) hS (fun x hx => by have fx := HX.out x hx; go_simp; rw [show Sem.run Tryz.prog (Instr.lookup 89 (.map (some ib)) (.agg #[.string ⟨nm.toArray⟩, .int .i64 args.length, .int .i64 (-1), .int .i64 0, .int .i64 0, .string ⟨#[]⟩]) false) x = .ok (.slice B0 (idxL L (basePl ⟨nm, args⟩)).length c0) x from HL0.out x hx]; rfl) ?_
  simp only [Act.put, lsa, lsz, lss]
  (refine tkW 6 (v := ?_) hS ?_ ?_; rotate_left; (focus (intro x hx; have fx := HX.out x hx; go_simp; (try with_reducible rfl); done)); (try simp only [Act.put, lsa, lsz, lss]))
  refine wpAnyH_done (by kernel_rfl) ?_ _
  obtain ⟨q1, q2, q3, -⟩ := HX.out _ hS
  have HS1 := Lib.hid hS
  generalize hWd : W.drew = W1 at *
  clear hS hWd
  go_wp2_with fail
  clear q1 q2 q3
  go_loopw [6, 25] (fun o i wr => ∃ k : Nat, k ≤ args.length ∧ i = .int .i64 k ∧ Below W1.heap.size W1 wr ∧ ∃ q B c', CandP ⟨nm, args⟩ q ∧ o = .slice B (idxL L q).length c' ∧ Sl w (fun k => F k ∨ I k) B (idxL L q).length c' (idxL L q)) (fun _ i _ => args.length - (intOf i).toNat)
  case atStart => exact ⟨0, by omega, rfl, Below.refl _ _, _, B0, c0, .inl rfl, rfl, s0⟩
  case round =>
    obtain ⟨k, hk, rfl, hb, q, B, c', hq, rfl, hsl⟩ := hrel
    have hbW : Below W.heap.size W wr := HS1.out.trans (hb.mono HS1.out.size)
    by_cases hlt : k < args.length
    · obtain ⟨b1, o1, rfl, -, hbs1, g1, g2, g3⟩ := (HS.out.below (HT.out _ hbW)).arg hlt
      have hki := List.getElem?_eq_getElem hlt
      have hoa := HOA.out k _ hki
      have hkk := HKD.out _ (List.getElem_mem hlt)
      generalize args[k] = y at *
      obtain ⟨yk, yt, yn⟩ := y
      simp only at g1 g2 g3 hkk
      have HQ := Lib.hid hq; have HSL := Lib.hid hsl; have HKI := Lib.hid hki; have HOA2 := Lib.hid hoa; have HBb := Lib.hid hb; have HBW := Lib.hid hbW
      clear hq hsl hki hoa hb hbW
      by_cases hy1 : yk = 1
      · subst hy1
        go_wp2_with fail
        go_roundw
        case rel => exact ⟨k + 1, by omega, by go_num, HBb.out.alloc HBb.out.size _, q, B, c', HQ.out, rfl, HSL.out⟩
        case measure => simp [intOf]; omega
      · have hyb : (yk == 1) = false := by simpa using hy1
        have hY := blkAt wr (.cells #[.int .i64 yk, .string ⟨yt.toArray⟩, .int .i64 yn] 46) rfl
        have hbY : Below W.heap.size W (wr.alloc (.cells #[.int .i64 yk, .string ⟨yt.toArray⟩, .int .i64 yn] 46)) := HBW.out.alloc HBW.out.size _
        have hbY1 : Below W1.heap.size W1 (wr.alloc (.cells #[.int .i64 yk, .string ⟨yt.toArray⟩, .int .i64 yn] 46)) := HBb.out.alloc HBb.out.size _
        have HYY := Lib.hid hY; have HBY := Lib.hid hbY; have HBY1 := Lib.hid hbY1
        clear hY hbY hbY1
        go_wp2_with fail
        have hY := HYY.out; have hbY := HBY.out; have hbY1 := HBY1.out
        generalize wr.alloc (.cells #[.int .i64 yk, .string ⟨yt.toArray⟩, .int .i64 yn] 46) = W5 at *
        clear HYY HBY HBY1 g1 g2 g3
        have HX' := Lib.hid (fun (z : World) (hz : Below W5.heap.size W5 z) => And.intro ((cell_blk (keptBlk hz hY) 0).trans rfl) (And.intro ((cell_blk (keptBlk hz hY) 1).trans rfl) (And.intro ((cell_blk (keptBlk hz hY) 2).trans rfl) (HX.out z (hbY.trans (hz.mono hbY.size))))))
        obtain ⟨B2, c2, e2, s2⟩ := HID.out _ HOA2.out
        have HL2 := Lib.hid (fun (z : World) (hz : Below W5.heap.size W5 z) => HLK.out z (HT.out z (hbY.trans (hz.mono hbY.size))) _ HOA2.out _ _ e2)
        have HBY := Lib.hid hbY; have HBY1 := Lib.hid hbY1; have HS2 := Lib.hid s2
        clear hY hbY hbY1 e2 s2
        replace HX := HX'
        refine wpH_region (fun z => Below W5.heap.size W5 z) (by kernel_rfl) ?_
        have hS : Below W5.heap.size W5 W5.drew := (Below.refl _ _).drew
        (refine tkW 0 (v := ?_) hS ?_ ?_; rotate_left; (focus (intro x hx; have fx := HX.out x hx; go_simp; (try with_reducible rfl); done)); (try simp only [Act.put, lsa, lsz, lss]))
        (refine tkW 1 (v := ?_) hS ?_ ?_; rotate_left; (focus (intro x hx; have fx := HX.out x hx; go_simp; (try with_reducible rfl); done)); (try simp only [Act.put, lsa, lsz, lss]))
        (refine tkW 2 (v := ?_) hS ?_ ?_; rotate_left; (focus (intro x hx; have fx := HX.out x hx; go_simp; (try with_reducible rfl); done)); (try simp only [Act.put, lsa, lsz, lss]))
        (refine tkW 3 (v := ?_) hS ?_ ?_; rotate_left; (focus (intro x hx; have fx := HX.out x hx; go_simp; (try with_reducible rfl); done)); (try simp only [Act.put, lsa, lsz, lss]))
        (refine tkW 4 (v := ?_) hS ?_ ?_; rotate_left; (focus (intro x hx; have fx := HX.out x hx; go_simp; (try with_reducible rfl); done)); (try simp only [Act.put, lsa, lsz, lss]))
        (refine tkW 5 (v := ?_) hS ?_ ?_; rotate_left; (focus (intro x hx; have fx := HX.out x hx; go_simp; (try with_reducible rfl); done)); (try simp only [Act.put, lsa, lsz, lss]))
        (refine tkW 6 (v := ?_) hS ?_ ?_; rotate_left; (focus (intro x hx; have fx := HX.out x hx; go_simp; (try with_reducible rfl); done)); (try simp only [Act.put, lsa, lsz, lss]))
        (refine tkW 7 (v := ?_) hS ?_ ?_; rotate_left; (focus (intro x hx; have fx := HX.out x hx; go_simp; (try with_reducible rfl); done)); (try simp only [Act.put, lsa, lsz, lss]))
        (refine tkW 8 (v := ?_) hS ?_ ?_; rotate_left; (focus (intro x hx; have fx := HX.out x hx; go_simp; (try with_reducible rfl); done)); (try simp only [Act.put, lsa, lsz, lss]))
        (refine tkW 9 (v := ?_) hS ?_ ?_; rotate_left; (focus (intro x hx; have fx := HX.out x hx; go_simp; (try with_reducible rfl); done)); (try simp only [Act.put, lsa, lsz, lss]))
        (refine tkW 10 (v := ?_) hS ?_ ?_; rotate_left; (focus (intro x hx; have fx := HX.out x hx; go_simp; (try with_reducible rfl); done)); (try simp only [Act.put, lsa, lsz, lss]))
        (refine tkW 11 (v := ?_) hS ?_ ?_; rotate_left; (focus (intro x hx; have fx := HX.out x hx; go_simp; (try with_reducible rfl); done)); (try simp only [Act.put, lsa, lsz, lss]))
        (refine tkW 12 (v := ?_) hS ?_ ?_; rotate_left; (focus (intro x hx; have fx := HX.out x hx; go_simp; (try with_reducible rfl); done)); (try simp only [Act.put, lsa, lsz, lss]))
        (refine tkW 13 (v := ?_) hS ?_ ?_; rotate_left; (focus (intro x hx; have fx := HX.out x hx; go_simp; (try with_reducible rfl); done)); (try simp only [Act.put, lsa, lsz, lss]))
        (refine tkW 14 (v := ?_) hS ?_ ?_; rotate_left; (focus (intro x hx; have fx := HX.out x hx; go_simp; (try with_reducible rfl); done)); (try simp only [Act.put, lsa, lsz, lss]))
        (refine tkW 15 (v := ?_) hS ?_ ?_; rotate_left; (focus (intro x hx; have fx := HX.out x hx; go_simp; (try with_reducible rfl); done)); (try simp only [Act.put, lsa, lsz, lss]))
        (refine tkW 16 (v := ?_) hS ?_ ?_; rotate_left; (focus (intro x hx; have fx := HX.out x hx; go_simp; (try with_reducible rfl); done)); (try simp only [Act.put, lsa, lsz, lss]))
        refine wpAnyH_takeW 17 rfl rfl (by kernel_rfl) (by kernel_rfl) (by kernel_rfl) (fun _ _ _ h => h) (v := .slice B2 (idxL L (argPl ⟨nm, args⟩ k ⟨yk, yt, yn⟩)).length c2) (by kernel_rfl) hS (fun x hx => by have fx := HX.out x hx; go_simp; rw [show Sem.run Tryz.prog (Instr.lookup 89 (.map (some ib)) (.agg #[.string ⟨nm.toArray⟩, .int .i64 args.length, .int .i64 k, .int .i64 yk, .int .i64 yn, .string ⟨yt.toArray⟩]) false) x = .ok (.slice B2 (idxL L (argPl ⟨nm, args⟩ k ⟨yk, yt, yn⟩)).length c2) x from HL2.out x hx]; rfl) ?_
        simp only [Act.put, lsa, lsz, lss]
        (refine tkW 18 (v := ?_) hS ?_ ?_; rotate_left; (focus (intro x hx; have fx := HX.out x hx; go_simp; (try with_reducible rfl); done)); (try simp only [Act.put, lsa, lsz, lss]))
        refine wpAnyH_done (by kernel_rfl) ?_ _
        have hbz := HBY1.out.trans (hS.mono HBY1.out.size)
        have hcp : CandP ⟨nm, args⟩ (argPl ⟨nm, args⟩ k ⟨yk, yt, yn⟩) := .inr ⟨k, _, HKI.out, hy1, rfl⟩
        have HCP := Lib.hid hcp; have HBZ := Lib.hid hbz
        clear hcp hbz HX HL2
        generalize argPl ⟨nm, args⟩ k ⟨yk, yt, yn⟩ = q2 at *
        by_cases hlq : (idxL L q2).length < (idxL L q).length
        · have hlI : ((idxL L q2).length : Int) < ((idxL L q).length : Int) := by omega
          go_wp2_with fail
          go_roundw
          case rel => exact ⟨k + 1, by omega, by go_num, HBZ.out, q2, B2, c2, HCP.out, rfl, HS2.out⟩
          case measure => simp [intOf]; omega
        · have hlI : ¬ ((idxL L q2).length : Int) < ((idxL L q).length : Int) := by omega
          go_wp2_with fail
          go_roundw
          case rel => exact ⟨k + 1, by omega, by go_num, HBZ.out, q, B, c', HQ.out, rfl, HSL.out⟩
          case measure => simp [intOf]; omega
    · have HQ := Lib.hid hq; have HSL := Lib.hid hsl
      clear hq hsl
      go_wp2_with fail
      refine bodyPost_ret (v := .slice B (idxL L q).length c') (by simp [results, Tryz.results79, go_sem]) rfl ?_
      exact ⟨q, B, c', HQ.out, rfl, HSL.out.below (HT.out _ hbW), HT.out _ hbW⟩
end Go.Proofs.YtkjoaodoioicpaaGreatDoor
