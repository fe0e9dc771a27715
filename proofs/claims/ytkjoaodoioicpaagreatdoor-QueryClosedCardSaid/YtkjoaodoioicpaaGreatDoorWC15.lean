/- Query (package licitlaw54): a part of the proofs of its laws; see the law's own text, which comes last in 'order'. No conditions of its own. -/
import Derived.Lib.SliceRun
import Derived.Test.YtkjoaodoioicpaaGreatDoorWC03
import Derived.Test.YtkjoaodoioicpaaGreatDoorWC12
import Derived.Test.YtkjoaodoioicpaaGreatDoorWC14
set_option linter.unusedVariables false
set_option linter.unusedSimpArgs false
namespace Go.Proofs.YtkjoaodoioicpaaGreatDoor
open Go.RowKit
theorem has_key' {L : List Atm} (hg : Gr L) {fm : List (Bs × Value)} (hk : fm.map (·.1) = L.map (fun a => (printAtomS a).1)) (a : Atm) : (getM fm (printAtomS a).1).isSome = L.contains a :=
  has_key hg hk a (by by_cases h : a ∈ L; exact .inl (hg a h); exact .inr h)
theorem print_le (x : Atm) : (printAtomS x).1.length ≤ 9223372036854775807 := by
  unfold printAtomS
  cases h : atomS x
  · simp
  · have := prAtom_len h
    simp only [Bool.not_true, Bool.false_eq_true, if_false]
    omega
theorem zeroT (w : World) : (zeroValue 31).run Tryz.prog w = .ok (.agg #[.string ⟨#[]⟩, .slice none 0 0]) w := by kernel_rfl
theorem fact_at {w : World} {I : Nat → Prop} {L : List Atm} {fm : List (Bs × Value)} (hk : fm.map (·.1) = L.map (fun a => (printAtomS a).1)) (hv : ∀ i (h : i < fm.length) (h' : i < L.length), FactV w I fm[i].2 L[i]) (s : Bs) :
    ∃ s' A' n' c', (getM fm s).getD (.agg #[.string ⟨#[]⟩, .slice none 0 0]) = .agg #[.string s', .slice A' n' c'] := by
  have hl : fm.length = L.length := by have := congrArg List.length hk; simpa using this
  cases hg : getM fm s with
  | none => exact ⟨_, _, _, _, rfl⟩
  | some v =>
    unfold getM at hg
    rw [Option.map_eq_some_iff] at hg
    obtain ⟨q, hq, e⟩ := hg
    have hm := List.mem_of_find?_eq_some hq
    obtain ⟨i, hi, hqi⟩ := List.getElem_of_mem hm
    obtain ⟨A, n, c, e2, -⟩ := hv i hi (by omega)
    rw [hqi, e] at e2
    exact ⟨_, _, _, _, by simp only [Option.getD_some]; exact e2⟩
set_option maxRecDepth 100000 in
set_option maxHeartbeats 4000000 in
theorem hasQ_any (F I : Nat → Prop) (p : Nat) (L : List Atm) (x : Atm) (A : Option Addr) (n c : Nat) (w : World) (S : Nat → Prop) (hb : BaseR w F I p L) (hs : Sl w S A n c x.args) (ho : OkT x) (hL : LD w) :
    Calls Tryz.prog 44 #[.pointer (some ⟨p, 0, none⟩), .agg #[.string ⟨x.name.toArray⟩, .slice A n c]] w fun e w' => e = .returned (.bool (L.contains x)) ∧ Below w.heap.size w w' := by
  obtain ⟨fb, ib, fm, im, hbb, -, -, -, -, -, hmf, -, hkeys, hvals, -⟩ := hb.ex
  have hcon := has_key' hb.gr hkeys x
  obtain ⟨us, uA, un, uc, hu⟩ := fact_at hkeys hvals (printAtomS x).1
  have hky := fun w A' hs hL => key_any x A n c w A' hs ho hL
  obtain ⟨V, hV⟩ : ∃ V, V = L.contains x := ⟨_, rfl⟩
  rw [← hV] at hcon ⊢
  have hkl := print_le x
  generalize (printAtomS x).1 = ks at *
  have hbw : Below w.heap.size w (w.alloc (.cells #[.string ⟨x.name.toArray⟩, .slice A n c] 31)) := boxed
  have hbx := blkAt w (.cells #[.string ⟨x.name.toArray⟩, .slice A n c] 31) rfl
  have HBB := Lib.hid (keptBlk hbw hbb); have HMF := Lib.hid (hmf.below hbw); have HU := Lib.hid hu; have HCON := Lib.hid hcon; have HKY := Lib.hid hky
  have HS := Lib.hid (hs.below hbw); have HL := Lib.hid (hL.below hbw); have HBW := Lib.hid hbw; have HBX := Lib.hid hbx
  clear hb hbb hmf hkeys hvals hcon hu hky hs hL ho hbw hbx hV
  go_enter Tryz.func44, Tryz.ntmps44
  go_wp2_with fail
  have hBB := HBB.out; have hMF := HMF.out; have hS0 := HS.out; have hL0 := HL.out; have hBW := HBW.out; have hBX := HBX.out
  generalize w.alloc (.cells #[.string ⟨x.name.toArray⟩, .slice A n c] 31) = W at *
  clear HBB HMF HS HL HBW HBX
  have HX := Lib.hid (fun (z : World) (hz : Below W.heap.size W z) => And.intro ((cell_blk (keptBlk hz hBB) 0).trans rfl) (And.intro ((cell_blk (keptBlk hz hBX) 0).trans rfl) ((cell_blk (keptBlk hz hBX) 1).trans rfl)))
  have HMF := Lib.hid hMF; have HS := Lib.hid hS0; have HL := Lib.hid hL0; have HBW := Lib.hid hBW
  clear hBB hMF hS0 hL0 hBW hBX
  refine wpH_region (fun z => Below W.heap.size W z) (by kernel_rfl) ?_
  have hS : Below W.heap.size W W.drew := (Below.refl _ _).drew
  (refine tkW 0 (v := ?_) hS ?_ ?_; rotate_left; (focus (intro x hx; have fx := HX.out x hx; go_simp; (try with_reducible rfl); done)); (try simp only [Act.put, lsa, lsz, lss]))
  (refine tkW 1 (v := ?_) hS ?_ ?_; rotate_left; (focus (intro x hx; have fx := HX.out x hx; go_simp; (try with_reducible rfl); done)); (try simp only [Act.put, lsa, lsz, lss]))
  (refine tkW 2 (v := ?_) hS ?_ ?_; rotate_left; (focus (intro x hx; have fx := HX.out x hx; go_simp; (try with_reducible rfl); done)); (try simp only [Act.put, lsa, lsz, lss]))
  (refine tkW 3 (v := ?_) hS ?_ ?_; rotate_left; (focus (intro x hx; have fx := HX.out x hx; go_simp; (try with_reducible rfl); done)); (try simp only [Act.put, lsa, lsz, lss]))
  (refine tkW 4 (v := ?_) hS ?_ ?_; rotate_left; (focus (intro x hx; have fx := HX.out x hx; go_simp; (try with_reducible rfl); done)); (try simp only [Act.put, lsa, lsz, lss]))
  have hLK := fun z (hz : Below W.heap.size W z) => (HMF.out.below hz).look Tryz.underlying88 (zeroT z) (k := ks) hkl true
  rw [HCON.out, HU.out] at hLK
  simp only [if_true] at hLK
  have HLK := Lib.hid hLK; clear hLK
  refine wpAnyH_two 5 10 (by kernel_rfl) rfl rfl ?sx1 ?sx2
  case' sx1 =>
    intro K' hK'
    go_simp
    refine (HKY.out _ _ (HS.out.below hS) (HL.out.below hS)).mono ?_
    rintro e w3 ⟨rfl, hb3⟩
    have hS := hS.trans (hb3.mono hS.size)
    refine hK'.out _ _ hS ?_
    clear hK' K'
  case' sx2 =>
    intro K' hK'
    go_simp
    have hY : (W.alloc (.cells #[.string ⟨#[]⟩, .slice none 0 0] 31)).drew.heap[W.heap.size]? = some (.cells #[.string ⟨#[]⟩, .slice none 0 0] 31 (0, 0)) := blkAt W _ rfl
    have hS : Below W.heap.size W (W.alloc (.cells #[.string ⟨#[]⟩, .slice none 0 0] 31)).drew := boxed.drew
    refine hK'.out _ _ hS ?_
    clear hK' K'
    generalize (W.alloc (.cells #[.string ⟨#[]⟩, .slice none 0 0] 31)).drew = W2 at *
    refine wpAnyH_one 5 (by kernel_rfl) rfl ?_
    intro K' hK'
    go_simp
    refine (HKY.out _ _ (HS.out.below hS) (HL.out.below hS)).mono ?_
    rintro e w3 ⟨rfl, hb3⟩
    have hY := keptBlk hb3 hY
    have hS := hS.trans (hb3.mono hS.size)
    refine hK'.out _ _ hS ?_
    clear hK' K'
  rotate_left
  · refine wpAnyH_takeW 6 rfl rfl (by kernel_rfl) (by kernel_rfl) (by kernel_rfl) (fun _ _ _ h => h) (v := .tuple #[.agg #[.string us, .slice uA un uc], .bool V]) (by kernel_rfl) hS (fun x hx => by have fx := HX.out x hx; go_simp; rw [show Sem.run Tryz.prog (Instr.lookup 88 (.map (some fb)) (.string ⟨ks.toArray⟩) true) x = .ok (.tuple #[.agg #[.string us, .slice uA un uc], .bool V]) x from HLK.out x hx]; rfl) ?_
    simp only [Act.put, lsa, lsz, lss]
    (refine tkW 7 (v := ?_) hS ?_ ?_; rotate_left; (focus (intro x hx; have fx := HX.out x hx; go_simp; (try with_reducible rfl); done)); (try simp only [Act.put, lsa, lsz, lss]))
    (refine tkW 8 (v := ?_) hS ?_ ?_; rotate_left; (focus (intro x hx; have fx := HX.out x hx; go_simp; (try with_reducible rfl); done)); (try simp only [Act.put, lsa, lsz, lss]))
    (refine tkW 9 (v := ?_) hS ?_ ?_; rotate_left; (focus (intro x hx; have fx := HX.out x hx; go_simp; (try with_reducible rfl); done)); (try simp only [Act.put, lsa, lsz, lss]))
    refine wpAnyH_one 10 (by kernel_rfl) rfl ?_
    intro K' hK'
    go_simp
    refine hK'.out _ _ (hS.alloc hS.size _) ?_
    clear hK' K'
    refine wpAnyH_one 11 (by kernel_rfl) rfl ?_
    intro K' hK'
    go_simp
    have hS := hS.alloc hS.size (.cells #[.string us, .slice uA un uc] 31)
    refine hK'.out _ _ hS ?_
    clear hK' K'
    (refine tkW 12 (v := ?_) hS ?_ ?_; rotate_left; (focus (intro x hx; have fx := HX.out x hx; go_simp; (try with_reducible rfl); done)); (try simp only [Act.put, lsa, lsz, lss]))
    refine wpAnyH_done (by kernel_rfl) ?_ _
    have hE := HBW.out.trans (hS.mono HBW.out.size)
    clear HX HLK HMF HS HL HKY
    go_wp2_with fail
    refine bodyPost_ret (v := .bool V) (by simp [results, Tryz.results44, go_sem]) rfl ?_
    exact ⟨rfl, hE⟩
  · refine wpAnyH_takeW 6 rfl rfl (by kernel_rfl) (by kernel_rfl) (by kernel_rfl) (fun _ _ _ h => h) (v := .tuple #[.agg #[.string us, .slice uA un uc], .bool V]) (by kernel_rfl) hS (fun x hx => by have fx := HX.out x hx; go_simp; rw [show Sem.run Tryz.prog (Instr.lookup 88 (.map (some fb)) (.string ⟨ks.toArray⟩) true) x = .ok (.tuple #[.agg #[.string us, .slice uA un uc], .bool V]) x from HLK.out x hx]; rfl) ?_
    simp only [Act.put, lsa, lsz, lss]
    (refine tkW 7 (v := ?_) hS ?_ ?_; rotate_left; (focus (intro x hx; have fx := HX.out x hx; go_simp; (try with_reducible rfl); done)); (try simp only [Act.put, lsa, lsz, lss]))
    (refine tkW 8 (v := ?_) hS ?_ ?_; rotate_left; (focus (intro x hx; have fx := HX.out x hx; go_simp; (try with_reducible rfl); done)); (try simp only [Act.put, lsa, lsz, lss]))
    (refine tkW 9 (v := ?_) hS ?_ ?_; rotate_left; (focus (intro x hx; have fx := HX.out x hx; go_simp; (try with_reducible rfl); done)); (try simp only [Act.put, lsa, lsz, lss]))
    have y0 := frz_blk hY 0; have y1 := frz_blk hY 1
    have x0 := (cell_blk hY 0).trans rfl; have x1 := (cell_blk hY 1).trans rfl
    refine wpAnyH_one 11 (by kernel_rfl) rfl ?_
    intro K' hK'
    go_simp
    have hS := (hS.setCell (p := ⟨W.heap.size, 0, none⟩) (Nat.le_refl _) (.string us)).setCell (p := ⟨W.heap.size, 1, none⟩) (Nat.le_refl _) (.slice uA un uc)
    refine hK'.out _ _ hS ?_
    clear hK' K'
    (refine tkW 12 (v := ?_) hS ?_ ?_; rotate_left; (focus (intro x hx; have fx := HX.out x hx; go_simp; (try with_reducible rfl); done)); (try simp only [Act.put, lsa, lsz, lss]))
    refine wpAnyH_done (by kernel_rfl) ?_ _
    have hE := HBW.out.trans (hS.mono HBW.out.size)
    clear HX HLK HMF HS HL HKY
    go_wp2_with fail
    refine bodyPost_ret (v := .bool V) (by simp [results, Tryz.results44, go_sem]) rfl ?_
    exact ⟨rfl, hE⟩
end Go.Proofs.YtkjoaodoioicpaaGreatDoor
namespace Go.Proofs.YtkjoaodoioicpaaGreatDoor
open Go.RowKit
def twoB (k0 : Nat) : Nat → Prop := fun k => k = k0 ∨ k = k0 + 1
set_option maxHeartbeats 1000000 in
theorem emptyQ_any (w : World) (I : Nat → Prop) (hI : ∀ k, I k → k < w.heap.size) :
    Calls Tryz.prog 37 #[] w fun e w' => e = .returned (.pointer (some ⟨w.heap.size + 2, 0, none⟩)) ∧ BaseR w' (twoB w.heap.size) I (w.heap.size + 2) [] ∧ Below w.heap.size w w' := by
  have hmm := @run_makeMap Tryz.prog
  go_enter Tryz.func37, Tryz.ntmps37
  go_wp2_with fail
  go_ret
  refine ⟨rfl, ⟨⟨w.heap.size, w.heap.size + 1, [], [], blkAt _ _ (by simp), .inl rfl, .inr rfl, by omega, by omega, by omega, ?_, ?_, rfl, fun i hi => absurd hi (Nat.not_lt_zero _), fun q _ => ⟨none, 0, rfl, Own.nil _ _ _ _, fun k hk => (by cases hk)⟩, ?_⟩, ?_, ?_, fun f hf => (by cases hf), List.nodup_nil⟩, ?_⟩
  · exact ((MapV.made w).alloc _).alloc _
  · have := (MapV.made (T := TP) (w.alloc (.map #[] 0))).alloc (.cells #[.map (some w.heap.size), .map (some (w.heap.size + 1))] 91)
    simpa using this
  · intro q q' B B' n n' c c' _ _ _ h1 h2 k hk
    injection h1 with h1
    subst h1
    cases hk
  · refine ⟨fun h => ?_, fun h => ?_⟩
    · rcases h with h | h
      · omega
      · omega
    · have := hI _ h; omega
  · intro k h h'
    have := hI k h'
    rcases h with h | h
    · omega
    · omega
  · exact ((((Below.refl _ _).alloc (Nat.le_refl _) _).alloc (by simp) _).alloc (by simp; omega) _)
end Go.Proofs.YtkjoaodoioicpaaGreatDoor
namespace Go.Proofs.YtkjoaodoioicpaaGreatDoor
open Go.RowKit
theorem Own.argT {w : World} {T T' : Nat → Prop} {base e : Nat} {A : Option Addr} {c : Nat} {xs : List Arg} (h : Own w T base e A c xs) : Own w T' base e A c xs := by
  obtain ⟨cs, h1, h2⟩ := h
  exact ⟨cs, h1, fun i hi => h2 i hi⟩
theorem sliArg : Tryz.prog.underlying 29 = some (.slice 46) := by kernel_rfl
@[go_sem ↓] theorem eqNilArg (w : World) (a : Option Addr) (n c : Nat) : (binOp .eql 29 (.slice a n c) (.slice none 0 0)).run Tryz.prog w = .ok (.bool a.isNone) w := by
  simp [Lib.run_eql_slice_nil w _ _ a n c 0 0 sliArg]
set_option maxRecDepth 100000 in
set_option maxHeartbeats 1000000 in
theorem cloneArg_any (A : Option Addr) (n c : Nat) (w : World) (S : Nat → Prop) (xs : List Arg) (hl : Sl w S A n c xs) (hn : n ≤ 1000000) :
    Calls Tryz.prog 62 #[.slice A n c] w fun e w' => ∃ A' n' c', e = .returned (.slice A' n' c') ∧ Sl w' (fun b => w.heap.size ≤ b) A' n' c' xs ∧ Below w.heap.size w w' := by
  have hlen := hl.len
  have hle := hl.2.1
  have hcc := hl.2.2.1
  cases A with
  | none =>
    have hx : xs = [] := by
      cases xs with
      | nil => rfl
      | cons a r => obtain ⟨ad, hA, _⟩ := hl.at_ (k := 0) (by simp); cases hA
    subst hx
    have hn0 : n = 0 := hlen
    subst hn0
    clear hlen hl hn hle hcc
    go_enter Tryz.func62, Tryz.ntmps62
    go_wp2
    go_ret
    exact ⟨none, 0, 0, rfl, Sl.nil _ _ _ _ (by decide), Below.refl _ _⟩
  | some ad =>
    have HL := Lib.hid hl; clear hl
    go_enter Tryz.func62, Tryz.ntmps62
    go_wp2_with (at_builtin; go_loud (refine wpList_appN (e := 46) (T := S) (base := w.heap.size) (xs := ([] : List Arg)) rfl (.tmp 5) (.tmp 6) eltArg rfl (by decide) rfl rfl rfl (Own.emp (blkAt _ _ rfl) (Nat.le_refl _)) rfl ((HL.out.wide (fun k hk1 hk => ⟨hk, fun e => by injection e with e; exact absurd e (by have := hk1; simp only; omega)⟩) (by decide)).alloc _) (by simp; omega) (by simp; omega) (by simp) ?_); intro A' c' w3 hown' hg hat)
    go_ret
    refine ⟨A', _, c', rfl, ?_, boxed.grown hg (by simp) (fun k hk => by have hk : some w.heap.size = some k := hk; injection hk with hk; omega)⟩
    have h2 := (hown'.argT.sl (by decide)).wide (S' := fun b => w.heap.size ≤ b) (fun k _ hk => hk.elim (fun hk => (hk : False).elim) (fun hk => (hown'.lt k hk).1)) (by decide)
    simpa using h2
theorem sliRul : Tryz.prog.underlying 22 = some (.slice 34) := by kernel_rfl
@[go_sem ↓] theorem eqNilRul (w : World) (a : Option Addr) (n c : Nat) : (binOp .eql 22 (.slice a n c) (.slice none 0 0)).run Tryz.prog w = .ok (.bool a.isNone) w := by
  simp [Lib.run_eql_slice_nil w _ _ a n c 0 0 sliRul]
end Go.Proofs.YtkjoaodoioicpaaGreatDoor
namespace Go.Proofs.YtkjoaodoioicpaaGreatDoor
open Go.RowKit
set_option maxRecDepth 100000 in
set_option maxHeartbeats 4000000 in
theorem equalA_any (A : Option Addr) (n c : Nat) (xs : List Arg) (B : Option Addr) (m d : Nat) (ys : List Arg) (w : World) (S T : Nat → Prop) (hl : Sl w S A n c xs) (hr : Sl w T B m d ys) :
    Calls Tryz.prog 86 #[.slice A n c, .slice B m d] w fun e w' => e = .returned (.bool (decide (xs = ys))) ∧ Below w.heap.size w w' := by
  obtain ⟨v, hv⟩ : ∃ v, v = decide (xs = ys) := ⟨_, rfl⟩
  rw [← hv]
  have hn := hl.len; have hm := hr.len
  subst hn hm
  have hle := hl.le; have hle2 := hr.le
  by_cases hlen : xs.length = ys.length
  · have HV : Hid (v = decide (xs.drop 0 = ys.drop 0)) := hv
    have HL := Lib.hid hl; have HR := Lib.hid hr; have HLEN := Lib.hid hlen
    have hlb : ((xs.length : Int) != (ys.length : Int)) = false := by simp [hlen]
    clear hv hl hr
    go_enter Tryz.func86, Tryz.ntmps86
    clear hlen
    go_wp2_with fail
    clear hlb
    go_loopw [13] (fun i wr => ∃ k : Nat, k ≤ xs.length ∧ i = .int .i64 k ∧ Below w.heap.size w wr ∧ Hid (v = decide (xs.drop k = ys.drop k))) (fun i _ => xs.length - (intOf i).toNat)
    case atStart => exact ⟨0, by omega, rfl, Below.refl _ _, HV⟩
    case round =>
      obtain ⟨k, hk, rfl, hb, hf⟩ := hrel
      by_cases hlt : k < xs.length
      · obtain ⟨b1, o1, rfl, -, hbs1, h1, h2, h3⟩ := (HL.out.below hb).arg hlt
        obtain ⟨b2, o2, rfl, -, hbs2, g1, g2, g3⟩ := (HR.out.below hb).arg (k := k) (by have := HLEN.out; omega)
        have hd := hf.out
        rw [drop_get hlt, drop_get (l := ys) (k := k) (by have := HLEN.out; omega)] at hd
        generalize xs[k] = p at *
        generalize ys[k]'_ = q at *
        obtain ⟨pk, pt, pn⟩ := p
        obtain ⟨qk, qt, qn⟩ := q
        simp only at h1 h2 h3 g1 g2 g3
        have HD := Lib.hid hd
        have HX := Lib.hid (fun (x : World) (hx : Below wr.heap.size wr x) => And.intro (cell_later hx h1) (And.intro (cell_later hx h2) (And.intro (cell_later hx h3) (And.intro (cell_later hx g1) (And.intro (cell_later hx g2) (cell_later hx g3))))))
        have HBW := Lib.hid hb
        have q0 : (0 : Int) ≤ (k : Int) := by omega
        have q1 : (k : Int) < (xs.length : Int) := by omega
        have q2 : (k : Int) < (ys.length : Int) := by have := HLEN.out; omega
        clear hd hf
        go_wp2_with fail
        refine wpH_region (fun x => Below wr.heap.size wr x) (by kernel_rfl) ?_
        have hS : Below wr.heap.size wr wr.drew := (Below.refl _ _).drew
        clear h1 h2 h3 g1 g2 g3 hb
        (refine tkW 0 (v := ?_) hS ?_ ?_; rotate_left; (focus (intro x hx; have fx := HX.out x hx; go_simp; (try with_reducible rfl); done)); (try simp only [Act.put, lsa, lsz, lss]))
        (refine tkW 1 (v := ?_) hS ?_ ?_; rotate_left; (focus (intro x hx; have fx := HX.out x hx; go_simp; (try with_reducible rfl); done)); (try simp only [Act.put, lsa, lsz, lss]))
        (refine tkW 2 (v := ?_) hS ?_ ?_; rotate_left; (focus (intro x hx; have fx := HX.out x hx; go_simp; (try with_reducible rfl); done)); (try simp only [Act.put, lsa, lsz, lss]))
        (refine tkW 3 (v := ?_) hS ?_ ?_; rotate_left; (focus (intro x hx; have fx := HX.out x hx; go_simp; (try with_reducible rfl); done)); (try simp only [Act.put, lsa, lsz, lss]))
        (refine tkW 4 (v := ?_) hS ?_ ?_; rotate_left; (focus (intro x hx; have fx := HX.out x hx; go_simp; (try with_reducible rfl); done)); (try simp only [Act.put, lsa, lsz, lss]))
        (refine tkW 5 (v := ?_) hS ?_ ?_; rotate_left; (focus (intro x hx; have fx := HX.out x hx; go_simp; (try with_reducible rfl); done)); (try simp only [Act.put, lsa, lsz, lss]))
        (refine tkW 6 (v := ?_) hS ?_ ?_; rotate_left; (focus (intro x hx; have fx := HX.out x hx; go_simp; (try with_reducible rfl); done)); (try simp only [Act.put, lsa, lsz, lss]))
        (refine tkW 7 (v := ?_) hS ?_ ?_; rotate_left; (focus (intro x hx; have fx := HX.out x hx; go_simp; (try with_reducible rfl); done)); (try simp only [Act.put, lsa, lsz, lss]))
        by_cases hpq : pk = qk ∧ pt = qt ∧ pn = qn
        · obtain ⟨rfl, rfl, rfl⟩ := hpq
          (refine tkW 8 (v := ?_) hS ?_ ?_; rotate_left; (focus (intro x hx; have fx := HX.out x hx; go_simp; (try with_reducible rfl); done)); (try simp only [Act.put, lsa, lsz, lss]))
          refine wpAnyH_done (by kernel_rfl) ?_ _
          go_wp2_with fail
          go_roundw
          case rel =>
            refine ⟨k + 1, by omega, by go_num, HBW.out.trans (hS.mono HBW.out.size), Lib.hid ?_⟩
            rw [HD.out, Bool.eq_iff_iff]
            simp
          case measure => simp [intOf]; omega
        · refine wpAnyH_takeW 8 rfl rfl (by kernel_rfl) (by kernel_rfl) (by kernel_rfl) (fun _ _ _ h => h) (v := .bool true) (by kernel_rfl) hS (fun x hx => by have fx := HX.out x hx; go_simp; exact fun a b c => hpq ⟨a, b, c⟩) ?_
          simp only [Act.put, lsa, lsz, lss]
          refine wpAnyH_done (by kernel_rfl) ?_ _
          have hd : v = false := by
            rw [HD.out, decide_eq_false_iff_not]
            intro e
            injection e with e
            injection e with e1 e2 e3
            exact hpq ⟨e1, e2, e3⟩
          have HF := Lib.hid hd; clear hd hpq
          go_wp2_with fail
          go_ret
          exact ⟨ret_bool HF.out, HBW.out.trans (hS.mono HBW.out.size)⟩
      · have hd := hf.out
        rw [drop_end hlt, drop_end (by have := HLEN.out; omega)] at hd
        have HD := Lib.hid (show v = true by rw [hd]; rfl)
        clear hd hf
        go_wp2_with fail
        go_ret
        exact ⟨ret_bool HD.out, hb⟩
  · have HV := Lib.hid (show v = false by rw [hv, decide_eq_false_iff_not]; intro e; exact hlen (by rw [e]))
    have hlb : ((xs.length : Int) != (ys.length : Int)) = true := by rw [bne_iff_ne]; omega
    clear hv hl hr hlen
    go_enter Tryz.func86, Tryz.ntmps86
    go_wp2_with fail
    go_ret
    exact ⟨ret_bool HV.out, Below.refl _ _⟩
set_option maxHeartbeats 2000000 in
theorem sameQ_any (x y : Atm) (A : Option Addr) (n c : Nat) (B : Option Addr) (m d : Nat) (w : World) (S T : Nat → Prop) (hl : Sl w S A n c x.args) (hr : Sl w T B m d y.args) :
    Calls Tryz.prog 50 #[.agg #[.string ⟨x.name.toArray⟩, .slice A n c], .agg #[.string ⟨y.name.toArray⟩, .slice B m d]] w fun e w' => e = .returned (.bool (decide (x = y))) ∧ Below w.heap.size w w' := by
  obtain ⟨v, hv⟩ : ∃ v, v = decide (x = y) := ⟨_, rfl⟩
  rw [← hv]
  obtain ⟨xn, xa⟩ := x
  obtain ⟨yn, ya⟩ := y
  simp only at *
  have hq := fun w S T hl hr => equalA_any A n c xa B m d ya w S T hl hr
  by_cases hn : xn = yn
  · subst hn
    have HV := Lib.hid (show v = decide (xa = ya) by rw [hv, Bool.eq_iff_iff]; simp)
    have HQ := Lib.hid hq; have HL := Lib.hid hl; have HR := Lib.hid hr
    clear hv hq hl hr
    go_enter Tryz.func50, Tryz.ntmps50
    go_wp2_with fail
    refine (HQ.out _ _ _ ((HL.out.alloc _).alloc _) ((HR.out.alloc _).alloc _)).mono ?_
    rintro e w3 ⟨rfl, hb3⟩
    rw [← HV.out]
    go_wp2_with fail
    go_ret
    have hb0 : Below w.heap.size w ((w.alloc (.cells #[.string ⟨xn.toArray⟩, .slice A n c] 31)).alloc (.cells #[.string ⟨xn.toArray⟩, .slice B m d] 31)) := boxed.alloc (by simp) _
    exact ⟨rfl, hb0.trans (hb3.mono hb0.size)⟩
  · have HV := Lib.hid (show v = false by rw [hv, decide_eq_false_iff_not]; intro e; injection e with e _; exact hn e)
    have hnb : (xn == yn) = false := by simpa using hn
    clear hv hq hl hr
    go_enter Tryz.func50, Tryz.ntmps50
    go_wp2_with fail
    go_ret
    exact ⟨ret_bool HV.out, boxed.alloc (by simp) _⟩
end Go.Proofs.YtkjoaodoioicpaaGreatDoor
namespace Go.Proofs.YtkjoaodoioicpaaGreatDoor
open Go.RowKit
set_option maxHeartbeats 800000 in
theorem idxT_any (A : Option Addr) (n c : Nat) (w : World) (S : Nat → Prop) (xs : List Atm) (hl : Sl w S A n c xs) (F : Nat) (caps : Array Value) (hF : ∀ (args : Array Value) (w : World), (callFunc F args).run Tryz.prog w = .ok (.enter F args) w)
    (p : Atm → Bool) (hp : ∀ x ∈ xs, ∀ w1, Below w.heap.size w w1 → ∀ v, VAtm w1 S v x → Calls Tryz.prog F (#[v] ++ caps) w1 fun e w2 => e = .returned (.bool (p x)) ∧ Below w1.heap.size w1 w2) :
    Calls Tryz.prog 85 #[.slice A n c, .func (.func F) #[] caps] w fun e w' => e = .returned (.int .i64 (idxS p xs 0)) ∧ Below w.heap.size w w' := by
  have hn := hl.le
  have hlen := hl.len
  subst hlen
  have HL := Lib.hid hl; have HP := Lib.hid hp; clear hl hp
  obtain ⟨v0, hv⟩ : ∃ v0, v0 = idxS p xs 0 := ⟨_, rfl⟩
  rw [← hv]
  have Hf : Hid (v0 = idxS p (xs.drop 0) 0) := hv
  clear hv
  go_enter Tryz.func85, Tryz.ntmps85
  go_wp2_with fail
  go_loopw [8] (fun i wr => ∃ k : Nat, k ≤ xs.length ∧ i = .int .i64 k ∧ Below w.heap.size w wr ∧ Hid (v0 = idxS p (xs.drop k) k)) (fun i _ => xs.length - (intOf i).toNat)
  case atStart => exact ⟨0, by omega, rfl, Below.refl _ _, Hf⟩
  case round =>
    obtain ⟨k, hk, rfl, hb, hf⟩ := hrel
    by_cases hlt : k < xs.length
    · obtain ⟨b, o, rfl, -, hbs, A1, n1, c1, h1, h2, hs⟩ := (HL.out.below hb).atm hlt
      have hd : v0 = if p xs[k] then (k : Int) else idxS p (xs.drop (k + 1)) (k + 1) := by rw [hf.out, drop_get hlt]; rfl
      have hc := HP.out _ (List.getElem_mem hlt) _ hb _ ⟨A1, n1, c1, rfl, hs⟩
      generalize p xs[k] = q at *
      generalize xs[k] = x at *
      have HD := Lib.hid hd; have HC := Lib.hid hc; have HS := Lib.hid hs; clear hs
      clear hd hc hf
      go_wp2_with fail
      refine HC.out.mono ?_
      rintro e w1 ⟨rfl, hb1⟩
      cases q
      · go_wp2
        go_roundw
        case rel => exact ⟨k + 1, by omega, by go_num, next hb hb1 (Nat.le_refl _), HD.out⟩
        case measure => simp [intOf]; omega
      · go_wp2
        go_ret
        exact ⟨ret_int HD.out, next hb hb1 (Nat.le_refl _)⟩
    · go_wp2
      go_ret
      exact ⟨ret_int (by rw [hf.out, drop_end hlt]; rfl), hb⟩
theorem conT_any (A : Option Addr) (n c : Nat) (w : World) (S : Nat → Prop) (xs : List Atm) (hl : Sl w S A n c xs) (F : Nat) (caps : Array Value) (hF : ∀ (args : Array Value) (w : World), (callFunc F args).run Tryz.prog w = .ok (.enter F args) w)
    (p : Atm → Bool) (hp : ∀ x ∈ xs, ∀ w1, Below w.heap.size w w1 → ∀ v, VAtm w1 S v x → Calls Tryz.prog F (#[v] ++ caps) w1 fun e w2 => e = .returned (.bool (p x)) ∧ Below w1.heap.size w1 w2) :
    Calls Tryz.prog 48 #[.slice A n c, .func (.func F) #[] caps] w fun e w' => e = .returned (.bool (xs.any p)) ∧ Below w.heap.size w w' := by
  have h := idxT_any A n c w S xs hl F caps hF p hp
  rw [← idxS_any p xs 0]
  generalize idxS p xs 0 = z at *
  have H := Lib.hid h
  clear h hl hp
  go_enter Tryz.func48, Tryz.ntmps48
  go_wp2_with (first | (go_at_call 85; refine H.out.mono ?_; rintro e w1 ⟨rfl, hb1⟩))
  go_ret
  exact ⟨rfl, hb1⟩
set_option maxHeartbeats 2000000 in
theorem has1_any (x y : Atm) (k0 : Nat) (A : Option Addr) (n c : Nat) (B : Option Addr) (m d : Nat) (w : World) (S T : Nat → Prop) (hl : Sl w S A n c x.args) (hr : Sl w T B m d y.args) (hb : w.heap[k0]? = some (.cells #[.string ⟨y.name.toArray⟩, .slice B m d] 31 (0, 0))) :
    Calls Tryz.prog 49 (#[.agg #[.string ⟨x.name.toArray⟩, .slice A n c]] ++ #[.pointer (some ⟨k0, 0, none⟩)]) w fun e w' => e = .returned (.bool (decide (x = y))) ∧ Below w.heap.size w w' := by
  have hq := sameQ_any x y A n c B m d _ S T (hl.alloc (.cells #[.string ⟨x.name.toArray⟩, .slice A n c] 31)) (hr.alloc (.cells #[.string ⟨x.name.toArray⟩, .slice A n c] 31))
  have c0 := (cell_blk hb 0).trans rfl
  have c1 := (cell_blk hb 1).trans rfl
  have hlt := (Array.getElem?_eq_some_iff.1 hb).1
  have HQ := Lib.hid hq; clear hq hl hr hb
  go_enter Tryz.func49, Tryz.ntmps49
  go_wp2_with fail
  refine HQ.out.mono ?_
  rintro e w3 ⟨rfl, hb3⟩
  go_wp2_with fail
  go_ret
  exact ⟨rfl, boxed.trans (hb3.mono (by simp))⟩
set_option maxHeartbeats 2000000 in
theorem HasQ_any (L : List Atm) (y : Atm) (A : Option Addr) (n c : Nat) (B : Option Addr) (m d : Nat) (w : World) (S T : Nat → Prop) (hl : Sl w S A n c L) (hr : Sl w T B m d y.args) :
    Calls Tryz.prog 22 #[.slice A n c, .agg #[.string ⟨y.name.toArray⟩, .slice B m d]] w fun e w' => e = .returned (.bool (hasQ L y)) ∧ Below w.heap.size w w' := by
  have hx : hasQ L y = L.any (fun x => decide (x = y)) := by
    unfold hasQ
    rw [Bool.eq_iff_iff, List.contains_iff_mem, List.any_eq_true]
    constructor
    · intro h; exact ⟨y, h, by simp⟩
    · rintro ⟨x, hx, e⟩; have : x = y := by simpa using e
      rw [← this]; exact hx
  have hbk := blkAt w (.cells #[.string ⟨y.name.toArray⟩, .slice B m d] 31) rfl
  have hc := conT_any A n c (w.alloc (.cells #[.string ⟨y.name.toArray⟩, .slice B m d] 31)) S L (hl.alloc _) 49 #[.pointer (some ⟨w.heap.size, 0, none⟩)] (fun _ _ => by kernel_rfl) (fun x => decide (x = y))
    (fun x _ w1 hb1 v hv => by
      obtain ⟨A1, n1, c1, rfl, hs⟩ := hv
      exact has1_any x y w.heap.size A1 n1 c1 B m d w1 _ _ hs ((hr.alloc _).below hb1) (keptBlk hb1 hbk))
  rw [hx]
  generalize L.any (fun x => decide (x = y)) = v at *
  have HC := Lib.hid hc; clear hc hl hr hbk hx
  go_enter Tryz.func22, Tryz.ntmps22
  go_wp2_with fail
  refine HC.out.mono ?_
  rintro e w3 ⟨rfl, hb3⟩
  go_wp2_with fail
  go_ret
  exact ⟨rfl, boxed.trans (hb3.mono (by simp))⟩
end Go.Proofs.YtkjoaodoioicpaaGreatDoor
