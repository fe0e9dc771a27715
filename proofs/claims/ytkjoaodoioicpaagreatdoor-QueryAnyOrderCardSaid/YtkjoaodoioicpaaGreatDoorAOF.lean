/- QueryAnyOrder: the law answers true, whatever the input, and writes nothing that was there. Conditions: none beyond the given statement's (the listed package-level variables start as the program's text lays them; the card ties them, over a pruned copy of the project). -/
import Derived.Test.YtkjoaodoioicpaaGreatDoorWA35
import Derived.Test.YtkjoaodoioicpaaGreatDoorWA43
import Derived.Test.YtkjoaodoioicpaaGreatDoorTie
import Derived.Test.YtkjoaodoioicpaaGreatDoorCards
import Derived.ProofKit
import Derived.OpenShut
import Derived.ShutString
import Derived.ChangeOld
import Derived.Below
import Derived.Lay
import Derived.Handy
import Derived.SevenTiedAt
set_option linter.unusedVariables false
set_option linter.unusedSimpArgs false
namespace Go.Proofs.YtkjoaodoioicpaaGreatDoor
open Go.RowKit

/-- The two lists while their elements change places. -/
structure TwoL (w : World) (T : Nat → Prop) (b : Nat) (w0 : World) (A : Option Addr) (c N : Nat) (A' : Option Addr) (c' N' : Nat) (l : List Rul) (f : List Atm) : Prop where
  ex : ∃ lm ln, Own w T b 34 A c lm ∧ Own w T b 31 A' c' ln ∧ lm.length = N ∧ ln.length = N' ∧ (∀ x, x ∈ lm ↔ x ∈ l) ∧ (∀ x, x ∈ ln ↔ x ∈ f)
  ne : ∀ k, A.map Addr.block = some k → A'.map Addr.block = some k → False
  bl : Below b w0 w
theorem TwoL.below {w w' : World} {T : Nat → Prop} {b : Nat} {w0 : World} {A : Option Addr} {c N : Nat} {A' : Option Addr} {c' N' : Nat} {l : List Rul} {f : List Atm} (h : TwoL w T b w0 A c N A' c' N' l f) (hb : Below w.heap.size w w') (hz : b ≤ w.heap.size) : TwoL w' T b w0 A c N A' c' N' l f := by
  obtain ⟨⟨lm, ln, h1, h2, h3⟩, h4, h5⟩ := h
  exact ⟨⟨lm, ln, h1.below hb, h2.below hb, h3⟩, h4, h5.trans (hb.mono hz)⟩

theorem swap3 {cs : Array Value} {i j : Nat} {u0 u1 u2 v0 v1 v2 : Value} (hu0 : cs[i * 3]? = some u0) (hu1 : cs[i * 3 + 1]? = some u1) (hu2 : cs[i * 3 + 2]? = some u2) (hv0 : cs[j * 3]? = some v0) (hv1 : cs[j * 3 + 1]? = some v1) (hv2 : cs[j * 3 + 2]? = some v2)
    (p m : Nat) (hm : m < 3) : ((((((cs.setIfInBounds (i * 3) v0).setIfInBounds (i * 3 + 1) v1).setIfInBounds (i * 3 + 2) v2).setIfInBounds (j * 3) u0).setIfInBounds (j * 3 + 1) u1).setIfInBounds (j * 3 + 2) u2)[p * 3 + m]? = cs[(if j = p then i else if i = p then j else p) * 3 + m]? := by
  have hi := (Array.getElem?_eq_some_iff.1 hu2).1
  have hj := (Array.getElem?_eq_some_iff.1 hv2).1
  simp only [Array.getElem?_setIfInBounds, Array.size_setIfInBounds]
  match m, hm with
  | 0, _ =>
    by_cases h1 : j = p
    · subst h1
      rw [if_pos rfl]
      repeat (first | rw [if_neg (by omega)] | rw [if_pos (by omega)])
      exact hu0.symm
    · rw [if_neg h1]
      by_cases h2 : i = p
      · subst h2
        rw [if_pos rfl]
        repeat (first | rw [if_neg (by omega)] | rw [if_pos (by omega)])
        exact hv0.symm
      · rw [if_neg h2]
        repeat (first | rw [if_neg (by omega)] | rw [if_pos (by omega)])
  | 1, _ =>
    by_cases h1 : j = p
    · subst h1
      rw [if_pos rfl]
      repeat (first | rw [if_neg (by omega)] | rw [if_pos (by omega)])
      exact hu1.symm
    · rw [if_neg h1]
      by_cases h2 : i = p
      · subst h2
        rw [if_pos rfl]
        repeat (first | rw [if_neg (by omega)] | rw [if_pos (by omega)])
        exact hv1.symm
      · rw [if_neg h2]
        repeat (first | rw [if_neg (by omega)] | rw [if_pos (by omega)])
  | 2, _ =>
    by_cases h1 : j = p
    · subst h1
      rw [if_pos rfl]
      repeat (first | rw [if_neg (by omega)] | rw [if_pos (by omega)])
      exact hu2.symm
    · rw [if_neg h1]
      by_cases h2 : i = p
      · subst h2
        rw [if_pos rfl]
        repeat (first | rw [if_neg (by omega)] | rw [if_pos (by omega)])
        exact hv2.symm
      · rw [if_neg h2]
        repeat (first | rw [if_neg (by omega)] | rw [if_pos (by omega)])
theorem swap2 {cs : Array Value} {i j : Nat} {u0 u1 v0 v1 : Value} (hu0 : cs[i * 2]? = some u0) (hu1 : cs[i * 2 + 1]? = some u1) (hv0 : cs[j * 2]? = some v0) (hv1 : cs[j * 2 + 1]? = some v1)
    (p m : Nat) (hm : m < 2) : ((((cs.setIfInBounds (i * 2) v0).setIfInBounds (i * 2 + 1) v1).setIfInBounds (j * 2) u0).setIfInBounds (j * 2 + 1) u1)[p * 2 + m]? = cs[(if j = p then i else if i = p then j else p) * 2 + m]? := by
  have hi := (Array.getElem?_eq_some_iff.1 hu1).1
  have hj := (Array.getElem?_eq_some_iff.1 hv1).1
  simp only [Array.getElem?_setIfInBounds, Array.size_setIfInBounds]
  match m, hm with
  | 0, _ =>
    by_cases h1 : j = p
    · subst h1
      rw [if_pos rfl]
      repeat (first | rw [if_neg (by omega)] | rw [if_pos (by omega)])
      exact hu0.symm
    · rw [if_neg h1]
      by_cases h2 : i = p
      · subst h2
        rw [if_pos rfl]
        repeat (first | rw [if_neg (by omega)] | rw [if_pos (by omega)])
        exact hv0.symm
      · rw [if_neg h2]
        repeat (first | rw [if_neg (by omega)] | rw [if_pos (by omega)])
  | 1, _ =>
    by_cases h1 : j = p
    · subst h1
      rw [if_pos rfl]
      repeat (first | rw [if_neg (by omega)] | rw [if_pos (by omega)])
      exact hu1.symm
    · rw [if_neg h1]
      by_cases h2 : i = p
      · subst h2
        rw [if_pos rfl]
        repeat (first | rw [if_neg (by omega)] | rw [if_pos (by omega)])
        exact hv1.symm
      · rw [if_neg h2]
        repeat (first | rw [if_neg (by omega)] | rw [if_pos (by omega)])
theorem TwoL.swR {w w' : World} {T : Nat → Prop} {b : Nat} {w0 : World} {A : Option Addr} {c N : Nat} {A' : Option Addr} {c' N' : Nat} {l : List Rul} {f : List Atm} (h : TwoL w T b w0 A c N A' c' N' l f) {g i j : Nat} (hA : A = some ⟨g, 0, none⟩) (hi : i < N) (hj : j < N)
    {cs cs' : Array Value} (hb : w.heap[g]? = some (.cells cs 34 (0, 0))) (hb' : w'.heap[g]? = some (.cells cs' 34 (0, 0))) (hsz : cs'.size = cs.size) (hk : ∀ k, k < w.heap.size → k ≠ g → w'.heap[k]? = w.heap[k]?) (hbl : Below b w0 w')
    (hcs : ∀ p m, m < 3 → cs'[p * 3 + m]? = cs[(if j = p then i else if i = p then j else p) * 3 + m]?) (hT : ∀ k, T k → k < b) : TwoL w' T b w0 A c N A' c' N' l f := by
  obtain ⟨⟨lm, ln, h1, h2, h3, h4, h5, h6⟩, hne, -⟩ := h
  subst hA h3
  refine ⟨⟨swapL lm i j hi hj, ln, h1.turn swapL_len hb hb' hsz hk (fun p hp => ?_), h2.keep (fun k hk1 hk2 => hk k hk1 (fun e => ?_)), swapL_len, h4, fun x => swapL_mem.trans (h5 x), h6⟩, hne, hbl⟩
  · rw [swapL_len] at hp
    refine ⟨if j = p then i else if i = p then j else p, by split; exact hi; split; exact hj; exact hp, ?_, fun m hm => hcs p m hm⟩
    rw [swapL_get hp]
    split
    · rfl
    · split <;> rfl
  · subst e
    have := h1.lt k rfl
    rcases hk2 with hk2 | hk2
    · have := hT k hk2
      omega
    · exact hne k rfl hk2
theorem TwoL.swF {w w' : World} {T : Nat → Prop} {b : Nat} {w0 : World} {A : Option Addr} {c N : Nat} {A' : Option Addr} {c' N' : Nat} {l : List Rul} {f : List Atm} (h : TwoL w T b w0 A c N A' c' N' l f) {g i j : Nat} (hA : A' = some ⟨g, 0, none⟩) (hi : i < N') (hj : j < N')
    {cs cs' : Array Value} (hb : w.heap[g]? = some (.cells cs 31 (0, 0))) (hb' : w'.heap[g]? = some (.cells cs' 31 (0, 0))) (hsz : cs'.size = cs.size) (hk : ∀ k, k < w.heap.size → k ≠ g → w'.heap[k]? = w.heap[k]?) (hbl : Below b w0 w')
    (hcs : ∀ p m, m < 2 → cs'[p * 2 + m]? = cs[(if j = p then i else if i = p then j else p) * 2 + m]?) (hT : ∀ k, T k → k < b) : TwoL w' T b w0 A c N A' c' N' l f := by
  obtain ⟨⟨lm, ln, h1, h2, h3, h4, h5, h6⟩, hne, -⟩ := h
  subst hA h4
  refine ⟨⟨lm, swapL ln i j hi hj, h1.keep (fun k hk1 hk2 => hk k hk1 (fun e => ?_)), h2.turn swapL_len hb hb' hsz hk (fun p hp => ?_), h3, swapL_len, h5, fun x => swapL_mem.trans (h6 x)⟩, hne, hbl⟩
  · subst e
    have := h2.lt k rfl
    rcases hk2 with hk2 | hk2
    · have := hT k hk2
      omega
    · exact hne k hk2 rfl
  · rw [swapL_len] at hp
    refine ⟨if j = p then i else if i = p then j else p, by split; exact hi; split; exact hj; exact hp, ?_, fun m hm => hcs p m hm⟩
    rw [swapL_get hp]
    split
    · rfl
    · split <;> rfl
set_option maxRecDepth 100000 in
set_option maxHeartbeats 16000000 in
theorem queryAnyOrder_walk (w : World) (A : Option Addr) (n c : Nat) (l : List Rul) (hl : Sl w (fun _ => True) A n c l) (ho : ∀ r ∈ l, OkR r) (B : Option Addr) (m d : Nat) (facts : List Atm) (hf : Sl w (fun _ => True) B m d facts) (hof : ∀ a ∈ facts, OkT a)
    (C : Option Addr) (p q : Nat) (sw : List Pr) (hs : Sl w (fun _ => True) C p q sw) (hos : ∀ x ∈ sw, OkPr x) (hL : LD w) :
    Calls Tryz.prog 3 #[.slice A n c, .slice B m d, .slice C p q] w fun e w' => e = .returned (.bool true) ∧ Below w.heap.size w w' := by
  have hn := hl.len; have hmm := hf.len; have hpp := hs.len
  subst hn hmm hpp
  have hle := hl.le; have hle2 := hf.le; have hle3 := hs.le
  have hlt := fun (k : Nat) (hk : k < w.heap.size) (_ : True) => hk
  have HL := Lib.hid hL; have HS := Lib.hid (hl.wide (S' := fun b => b < w.heap.size) hlt (by decide)); have HF := Lib.hid (hf.wide (S' := fun b => b < w.heap.size) hlt (by decide)); have HW := Lib.hid (hs.wide (S' := fun b => b < w.heap.size) hlt (by decide))
  have HO := Lib.hid ho; have HOF := Lib.hid hof; have HOS := Lib.hid hos
  clear hL hl ho hf hof hs hos hlt
  go_enter Tryz.func3, Tryz.ntmps3
  go_wp2_with fail
  refine (awake54_any _ HL.out).mono ?_
  rintro e w3 ⟨rfl, b3⟩
  have B3 := Lib.hid b3
  clear b3
  go_wp2_with fail
  refine (light_any l facts A l.length c B facts.length d w3 _ _ (HS.out.below B3.out) (HF.out.below B3.out) HO.out HOF.out).mono ?_
  rintro e w4 ⟨⟨qb, rfl, hq⟩, b4⟩
  have B4 := Lib.hid (B3.out.trans (b4.mono B3.out.size))
  have HQ := Lib.hid hq
  clear b4 hq B3
  cases qb with
  | false =>
    go_wp2_with fail
    refine (awake54_any _ (HL.out.below B4.out)).mono ?_
    rintro e w5 ⟨rfl, b5⟩
    have B5 := Lib.hid (B4.out.trans (b5.mono B4.out.size)); clear b5
    go_wp2_with fail
    exact bodyPost_ret (v := .bool true) (by simp [results, Tryz.results3, go_sem]) rfl ⟨rfl, B5.out⟩
  | true =>
    by_cases h20 : (20 : Int) < (sw.length : Int)
    · go_wp2_with fail
      refine (awake54_any _ (HL.out.below B4.out)).mono ?_
      rintro e w5 ⟨rfl, b5⟩
      have B5 := Lib.hid (B4.out.trans (b5.mono B4.out.size)); clear b5
      go_wp2_with fail
      exact bodyPost_ret (v := .bool true) (by simp [results, Tryz.results3, go_sem]) rfl ⟨rfl, B5.out⟩
    · obtain ⟨hq1, hq2⟩ := HQ.out rfl
      obtain ⟨hl6, -⟩ := fewS_sm (m := 6) hq1
      obtain ⟨hl14, -⟩ := fewAs_sm (m := 14) hq2
      clear hq1 hq2 HQ
      have hz4 := B4.out.size
      go_wp2_with fail
      clear h20
      refine (cpS_any A _ c l w4 (fun k => k < w.heap.size) (HS.out.below B4.out) (by omega) (fun k hk => by omega)).mono ?_
      rintro e w6 ⟨A6, k6, rfl, o6, b6⟩
      have O6 := Lib.hid o6; have B46 := Lib.hid b6; have B6 := Lib.hid (B4.out.trans (b6.mono B4.out.size)); clear o6 b6
      have hz6 := B46.out.size
      go_wp2_with fail
      refine (caS_any B _ d facts w6 (fun k => k < w.heap.size) (HF.out.below B6.out) (by omega) (fun k hk => by omega)).mono ?_
      rintro e w7 ⟨A7, k7, rfl, o7, b7⟩
      have O7 := Lib.hid o7; have B67 := Lib.hid b7; have B47 := Lib.hid (B46.out.trans (b7.mono hz6)); clear o7 b7
      have hz7 := B67.out.size
      go_upto_if 43 with (at_builtin; go_loud (refine wpList_appN (e := 31) (T := fun k => k < w.heap.size) (base := w6.heap.size) (xs := facts) (ys := facts) rfl _ _ eltAtm rfl (by decide) rfl rfl rfl O7.out rfl (((HF.out.below B4.out).below B47.out).wide (fun k _ hk => ⟨hk, fun e => by have := (O7.out.lt k e).1; omega⟩) (by decide)) (by omega) (by omega) (by omega) ?_); intro A8 k8 w8 hown8 hg8 hat8)
      have b78 : Below w6.heap.size w7 w8 := (Below.refl _ _).grown hg8 hz7 (fun k hk => (O7.out.lt k hk).1)
      have hz8 := b78.size
      have B68 := Lib.hid (B67.out.trans b78)
      have B48 := Lib.hid (B46.out.trans (B68.out.mono hz6))
      have O8 := Lib.hid (hown8.base hz6)
      have O68 := Lib.hid (O6.out.below B68.out)
      have hne8 : ∀ k, A6.map Addr.block = some k → A8.map Addr.block = some k → False := fun k h1 h2 => by
        have := (O6.out.lt k h1).2
        have := (hown8.lt k h2).1
        omega
      clear hown8 hg8 hat8 b78 O7 O6 B67 B47 B46 B6 B68
      have hal : facts.length + facts.length = (facts ++ facts).length := by simp
      have hmf : ∀ x, x ∈ facts ++ facts ↔ x ∈ facts := fun x => by simp
      have hlf : (facts ++ facts).length ≤ 28 := by rw [← hal]; omega
      rw [hal]
      generalize hff : facts ++ facts = ff at *
      have HNE := Lib.hid hne8; have HMF := Lib.hid hmf
      clear hne8 hmf hff hal
      go_cut [7] from 43 to 49 (fun s7 wx => ∃ (lm : List Rul) (A9 : Option Addr) (k9 : Nat), s7 = .slice A9 lm.length k9 ∧ TwoL wx (fun k => k < w.heap.size) w4.heap.size w4 A9 k9 lm.length A8 k8 ff.length l facts ∧ lm.length ≤ 7)
      case first =>
        by_cases hl0 : (0 : Int) < (l.length : Int)
        · obtain ⟨bb, oo, rfl, -, hbs, A2, n2, c2, A3, n3, c3, q1, q2, q3, hs1, hs2⟩ := ((HS.out.below B4.out).below B48.out).rul (k := 0) (by omega)
          have hbs : bb < w8.heap.size := hbs
          have hmem := List.getElem_mem (l := l) (n := 0) (by omega)
          generalize l[0]'_ = x at *
          simp only [Nat.zero_mul, Nat.add_zero, Nat.zero_add] at q1 q2 q3
          have HS1 := Lib.hid hs1; have HS2 := Lib.hid hs2; have HMEM := Lib.hid hmem
          clear hs1 hs2 hmem
          have hin : (0 : Int) ≤ 0 ∧ (0 : Int) < (l.length : Int) := ⟨by omega, hl0⟩
          go_wp2_with (at_builtin; go_loud (refine wpList_app1 (e := 34) (T := fun k => k < w.heap.size) (base := w4.heap.size) (xs := l) rfl _ _ eltRul rfl (by decide) rfl rfl rfl (O68.out.alloc _) rfl [.string ⟨x.head.name.toArray⟩, .slice A2 n2 c2, .slice A3 n3 c3] x (blkAt _ _ rfl) rfl ⟨rfl, ⟨A2, n2, c2, rfl, ((HS1.out.alloc _).wide (fun k _ hk => ⟨hk, fun e => by have := (O68.out.lt k e).1; omega⟩) (by decide))⟩, A3, n3, c3, rfl, ((HS2.out.alloc _).wide (fun k _ hk => ⟨hk, fun e => by have := (O68.out.lt k e).1; omega⟩) (by decide))⟩ (by omega) (by omega) (by simp; omega) ?_); intro A9 k9 w9 hown9 hg9 hat9)
          have hb9 : Below w4.heap.size w4 w9 := (B48.out.alloc B48.out.size _).grown hg9 (by simp; omega) (fun k hk => (O68.out.lt k hk).1)
          have hbl : Below w8.heap.size w8 (w8.alloc (.cells #[.string ⟨x.head.name.toArray⟩, .slice A2 n2 c2, .slice A3 n3 c3] 34)) := boxed
          have ho8 : Own w9 (fun k => k < w.heap.size) w4.heap.size 31 A8 k8 ff := (O8.out.below hbl).keep (fun k hk hT => hg9.block k hk (fun e => by
            rcases hT with hT | hT
            · have := (O68.out.lt k e.symm).1; omega
            · exact HNE.out k e.symm hT))
          have hne9 : ∀ k, A9.map Addr.block = some k → A8.map Addr.block = some k → False := by
            intro k h1 h2
            rcases hat9 with e | e
            · exact HNE.out k (e ▸ h1) h2
            · rw [e] at h1
              injection h1 with h1
              have := (O8.out.lt k h2).2
              simp at h1
              omega
          have HOW := Lib.hid hown9; have HO8 := Lib.hid ho8; have HB9 := Lib.hid hb9; have HNE9 := Lib.hid hne9
          clear hown9 hg9 hat9 hb9 hbl ho8 hne9
          go_wp2_with fail
          go_meet
          refine ⟨l ++ [x], A9, k9, by simp, ⟨⟨l ++ [x], ff, HOW.out, HO8.out, rfl, rfl, fun y => ?_, HMF.out⟩, HNE9.out, HB9.out⟩, by simp; omega⟩
          rw [List.mem_append, List.mem_singleton]
          exact ⟨fun h => h.elim id (fun e => e ▸ HMEM.out), .inl⟩
        · go_wp2_with fail
          go_meet
          have hlz : l.length = 0 := by omega
          exact ⟨l, A6, k6, rfl, ⟨⟨l, ff, O68.out, O8.out, rfl, rfl, fun _ => Iff.rfl, HMF.out⟩, HNE.out, B48.out⟩, by omega⟩
      case rest =>
        obtain ⟨lm, A9, k9, rfl, hTW, hlm7⟩ := hcut
        clear O68 O8 HNE HMF
        generalize hN : lm.length = N at *
        generalize hM : ff.length = M at *
        clear hN hM
        go_wp2_with fail
        go_loopw [52] (fun i wr => ∃ k : Nat, k ≤ sw.length ∧ i = .int .i64 k ∧ TwoL wr (fun k => k < w.heap.size) w4.heap.size w4 A9 k9 N A8 k8 M l facts) (fun i _ => sw.length - (intOf i).toNat)
        case atStart => exact ⟨0, by omega, rfl, hTW⟩
        case round =>
          obtain ⟨k, hk, rfl, hTW⟩ := hrel
          have hb := hTW.bl
          have hwz := hb.size
          by_cases hlt : k < sw.length
          · obtain ⟨b, o, rfl, -, hbs, q0, q1⟩ := ((HW.out.below B4.out).below hb).pr hlt
            have hpo := HOS.out sw[k] (List.getElem_mem hlt)
            generalize sw[k] = x at *
            obtain ⟨xa, xb⟩ := x
            have HTW := Lib.hid hTW
            clear hTW hb
            simp only at q0 q1
            go_upto_if 58 with fail
            have hbk := blkAt wr (.cells #[.int .u8 (xa : Int), .int .u8 (xb : Int)] 35) rfl
            have ht2 := HTW.out.below (boxed (cs := #[.int .u8 (xa : Int), .int .u8 (xb : Int)]) (t := 35)) hwz
            have hgbw : w4.heap.size ≤ wr.heap.size := hwz
            have hgbl : wr.heap.size < (wr.alloc (.cells #[.int .u8 (xa : Int), .int .u8 (xb : Int)] 35)).heap.size := by simp
            have hA9 : ∀ k, A9.map Addr.block = some k → k < wr.heap.size := fun k h => by obtain ⟨lm, ln, h1, h2, -⟩ := HTW.out.ex; exact (h1.lt k h).2
            have hA8 : ∀ k, A8.map Addr.block = some k → k < wr.heap.size := fun k h => by obtain ⟨lm, ln, h1, h2, -⟩ := HTW.out.ex; exact (h2.lt k h).2
            clear q0 q1
            generalize wr.alloc (.cells #[.int .u8 (xa : Int), .int .u8 (xb : Int)] 35) = W2 at *
            generalize wr.heap.size = gb at *
            have HT2 := Lib.hid ht2; have HBK := Lib.hid hbk
            clear ht2 hbk HTW
            go_cut [11, 12] from 58 to 84 (fun s1 s2 wx => TwoL wx (fun k => k < w.heap.size) w4.heap.size w4 A9 k9 N A8 k8 M l facts ∧ wx.heap[gb]? = some (.cells #[.int .u8 (xa : Int), .int .u8 (xb : Int)] 35 (0, 0)) ∧ Below w4.heap.size w4 wx)
            case first =>
              by_cases h0 : (0 : Int) < (N : Int)
              · obtain ⟨lm, ln, ho1, ho2, hl1, hl2, -, -⟩ := HT2.out.ex
                obtain ⟨g, cs, hA, hgb, hgs⟩ := ho1.blk (by omega)
                subst hA
                have hgne : g < gb := hA9 g rfl
                obtain ⟨i, hi⟩ : ∃ i, i = xa % N := ⟨_, rfl⟩
                obtain ⟨j, hj⟩ : ∃ j, j = xb % N := ⟨_, rfl⟩
                have hin : i < N := by rw [hi]; exact Nat.mod_lt _ (by omega)
                have hjn : j < N := by rw [hj]; exact Nat.mod_lt _ (by omega)
                obtain ⟨b1, o1, e1, -, -, A1, n1, c1, A2, n2, c2, p0, p1, p2, -, -⟩ := (ho1.sl (by decide)).rul (k := i) (by omega)
                obtain ⟨b2, o2, e2, -, -, B1, m1, d1, B2, m2, d2, r0, r1, r2, -, -⟩ := (ho1.sl (by decide)).rul (k := j) (by omega)
                obtain ⟨rfl, rfl⟩ : g = b1 ∧ 0 = o1 := by simpa using e1
                obtain ⟨rfl, rfl⟩ : g = b2 ∧ 0 = o2 := by simpa using e2
                generalize (lm[i]'(by omega)).head.name.toArray = t1 at *
                generalize (lm[j]'(by omega)).head.name.toArray = t2 at *
                have hge := (ho1.lt g rfl).1
                clear ho1 ho2 hl1 hl2 e1 e2 hgs lm ln
                have HGB := Lib.hid hgb
                simp only [Nat.zero_add] at p0 p2 r0 r2
                simp only [Nat.zero_add] at p1 r1
                have q0 : ∀ z, Below W2.heap.size W2 z → z.cell? ⟨gb, 0, none⟩ = some (.int .u8 (xa : Int)) := fun z hz => (cell_blk (keptBlk hz HBK.out) 0).trans rfl
                have q1 : ∀ z, Below W2.heap.size W2 z → z.cell? ⟨gb, 1, none⟩ = some (.int .u8 (xb : Int)) := fun z hz => (cell_blk (keptBlk hz HBK.out) 1).trans rfl
                have HX := Lib.hid (fun (z : World) (hz : Below W2.heap.size W2 z) => And.intro (q0 z hz) (q1 z hz))
                have hmi : Int.tmod (xa : Int) (N : Int) = (i : Int) := by rw [hi, Int.ofNat_tmod]
                have hmj : Int.tmod (xb : Int) (N : Int) = (j : Int) := by rw [hj, Int.ofNat_tmod]
                have HEI := Lib.hid (show (xa : Int) % (N : Int) = (i : Int) by rw [hi]; simp); have HEJ := Lib.hid (show (xb : Int) % (N : Int) = (j : Int) by rw [hj]; simp)
                have HMI := Lib.hid hmi; have HMJ := Lib.hid hmj
                clear hmi hmj hi hj
                have hne : ¬ N = 0 := by omega
                have hwa : IntKind.i64.wrap (xa : Int) = (xa : Int) := by have := hpo.1; simp only at this; simp [IntKind.wrap, IntKind.signed, IntKind.bits]; omega
                have hwb : IntKind.i64.wrap (xb : Int) = (xb : Int) := by have := hpo.2; simp only at this; simp [IntKind.wrap, IntKind.signed, IntKind.bits]; omega
                clear q0 q1 hgb
                go_wp2_with fail
                refine wpH_region (fun z => Below W2.heap.size W2 z) (by kernel_rfl) ?_
                have hS : Below W2.heap.size W2 W2.drew := (Below.refl _ _).drew
                (refine tkW 0 (v := ?_) hS ?_ ?_; rotate_left; (focus (intro x hx; have fx := HX.out x hx; go_simp; (try with_reducible rfl); done)); (try simp only [Act.put, lsa, lsz, lss]))
                (refine tkW 1 (v := ?_) hS ?_ ?_; rotate_left; (focus (intro x hx; have fx := HX.out x hx; go_simp; (try with_reducible rfl); done)); (try simp only [Act.put, lsa, lsz, lss]))
                (refine tkW 2 (v := ?_) hS ?_ ?_; rotate_left; (focus (intro x hx; have fx := HX.out x hx; go_simp; (try with_reducible rfl); done)); (try simp only [Act.put, lsa, lsz, lss]))
                (refine tkW 3 (v := ?_) hS ?_ ?_; rotate_left; (focus (intro x hx; have fx := HX.out x hx; go_simp; (try with_reducible rfl); done)); (try simp only [Act.put, lsa, lsz, lss]))
                (refine tkW 4 (v := ?_) hS ?_ ?_; rotate_left; (focus (intro x hx; have fx := HX.out x hx; go_simp; (try with_reducible rfl); done)); (try simp only [Act.put, lsa, lsz, lss]))
                (refine tkW 5 (v := ?_) hS ?_ ?_; rotate_left; (focus (intro x hx; have fx := HX.out x hx; go_simp; (try with_reducible rfl); done)); (try simp only [Act.put, lsa, lsz, lss]))
                (refine tkW 6 (v := ?_) hS ?_ ?_; rotate_left; (focus (intro x hx; have fx := HX.out x hx; go_simp; (try with_reducible rfl); done)); (try simp only [Act.put, lsa, lsz, lss]))
                (refine tkW 7 (v := ?_) hS ?_ ?_; rotate_left; (focus (intro x hx; have fx := HX.out x hx; go_simp; (try with_reducible rfl); done)); (try simp only [Act.put, lsa, lsz, lss]))
                (refine tkW 8 (v := ?_) hS ?_ ?_; rotate_left; (focus (intro x hx; have fx := HX.out x hx; go_simp; (try with_reducible rfl); done)); (try simp only [Act.put, lsa, lsz, lss]))
                (refine tkW 9 (v := ?_) hS ?_ ?_; rotate_left; (focus (intro x hx; have fx := HX.out x hx; go_simp; (try with_reducible rfl); done)); (try simp only [Act.put, lsa, lsz, lss]))
                (refine tkW 10 (v := ?_) hS ?_ ?_; rotate_left; (focus (intro x hx; have fx := HX.out x hx; go_simp; (try with_reducible rfl); done)); (try simp only [Act.put, lsa, lsz, lss]))
                (refine tkW 11 (v := ?_) hS ?_ ?_; rotate_left; (focus (intro x hx; have fx := HX.out x hx; go_simp; (try with_reducible rfl); done)); (try simp only [Act.put, lsa, lsz, lss]))
                (refine tkW 12 (v := ?_) hS ?_ ?_; rotate_left; (focus (intro x hx; have fx := HX.out x hx; go_simp; (try with_reducible rfl); done)); (try simp only [Act.put, lsa, lsz, lss]))
                (refine tkW 13 (v := ?_) hS ?_ ?_; rotate_left; (focus (intro x hx; have fx := HX.out x hx; go_simp; (try with_reducible rfl); done)); (try simp only [Act.put, lsa, lsz, lss]))
                refine wpAnyH_done (by kernel_rfl) ?_ _
                simp only [HMI.out, HMJ.out, HEI.out, HEJ.out]
                have hT3 := HT2.out.below hS (by have := HT2.out.bl.size; omega)
                have hgb3 := keptBlk hS HGB.out
                have hbk3 := keptBlk hS HBK.out
                have y0 := (cell_blk HGB.out (i * 3)).symm.trans p0
                have y2 := (cell_blk HGB.out (i * 3 + 2)).symm.trans p2
                have z0 := (cell_blk HGB.out (j * 3)).symm.trans r0
                have z2 := (cell_blk HGB.out (j * 3 + 2)).symm.trans r2
                have y1 := (cell_blk HGB.out (i * 3 + 1)).symm.trans p1
                have z1 := (cell_blk HGB.out (j * 3 + 1)).symm.trans r1
                clear hS HMI HMJ HEI HEJ hne hwa hwb HX p0 p2 r0 r2
                clear p1 r1
                generalize W2.drew = W3 at *
                have HT3 := Lib.hid hT3; have HGB3 := Lib.hid hgb3; have HBK3 := Lib.hid hbk3
                have hi0 : (0 : Int) ≤ (i : Int) ∧ (i : Int) < (N : Int) := by omega
                have hj0 : (0 : Int) ≤ (j : Int) ∧ (j : Int) < (N : Int) := by omega
                have HX := Lib.hid (fun (z : World) (hz : Below W3.heap.size W3 z) => And.intro ((cell_blk (keptBlk hz hgb3) (i * 3)).trans y0) (And.intro ((cell_blk (keptBlk hz hgb3) (i * 3 + 1)).trans y1) (And.intro ((cell_blk (keptBlk hz hgb3) (i * 3 + 2)).trans y2) (And.intro ((cell_blk (keptBlk hz hgb3) (j * 3)).trans z0) (And.intro ((cell_blk (keptBlk hz hgb3) (j * 3 + 1)).trans z1) ((cell_blk (keptBlk hz hgb3) (j * 3 + 2)).trans z2))))))
                have hgd := blkDrw hgb3
                clear hT3 hgb3 hbk3 HGB HBK HT2
                go_wp2_with fail
                refine wpV_region (fun z => Below W3.heap.size W3 z) [13, 15] (by kernel_rfl) ?_
                have hS : Below W3.heap.size W3 W3.drew := (Below.refl _ _).drew
                (refine wpAnyV_takeP 0 rfl rfl (by kernel_rfl) (by kernel_rfl) (by kernel_rfl) (fun _ _ _ h => h) (v := ?_) (by kernel_rfl) ?_ ?_; rotate_left; (focus (intro x; go_simp; (try with_reducible rfl); done)); (try simp only [Act.put, lsa, lsz, lss]))
                (refine wpAnyV_takeP 1 rfl rfl (by kernel_rfl) (by kernel_rfl) (by kernel_rfl) (fun _ _ _ h => h) (v := ?_) (by kernel_rfl) ?_ ?_; rotate_left; (focus (intro x; go_simp; (try with_reducible rfl); done)); (try simp only [Act.put, lsa, lsz, lss]))
                (refine wpAnyV_takeP 2 rfl rfl (by kernel_rfl) (by kernel_rfl) (by kernel_rfl) (fun _ _ _ h => h) (v := ?_) (by kernel_rfl) ?_ ?_; rotate_left; (focus (intro x; go_simp; (try with_reducible rfl); done)); (try simp only [Act.put, lsa, lsz, lss]))
                (refine wpAnyV_takeP 3 rfl rfl (by kernel_rfl) (by kernel_rfl) (by kernel_rfl) (fun _ _ _ h => h) (v := ?_) (by kernel_rfl) ?_ ?_; rotate_left; (focus (intro x; go_simp; (try with_reducible rfl); done)); (try simp only [Act.put, lsa, lsz, lss]))
                (refine wpAnyV_takeP 4 rfl rfl (by kernel_rfl) (by kernel_rfl) (by kernel_rfl) (fun _ _ _ h => h) (v := ?_) (by kernel_rfl) ?_ ?_; rotate_left; (focus (intro x; go_simp; (try with_reducible rfl); done)); (try simp only [Act.put, lsa, lsz, lss]))
                (refine wpAnyV_takeP 5 rfl rfl (by kernel_rfl) (by kernel_rfl) (by kernel_rfl) (fun _ _ _ h => h) (v := ?_) (by kernel_rfl) ?_ ?_; rotate_left; (focus (intro x; go_simp; (try with_reducible rfl); done)); (try simp only [Act.put, lsa, lsz, lss]))
                (refine wpAnyV_takeP 6 rfl rfl (by kernel_rfl) (by kernel_rfl) (by kernel_rfl) (fun _ _ _ h => h) (v := ?_) (by kernel_rfl) ?_ ?_; rotate_left; (focus (intro x; go_simp; (try with_reducible rfl); done)); (try simp only [Act.put, lsa, lsz, lss]))
                (refine wpAnyV_takeW 7 rfl rfl (by kernel_rfl) (by kernel_rfl) (by kernel_rfl) (by kernel_rfl) (fun _ _ _ h => h) (v := ?_) (by kernel_rfl) hS ?_ ?_; rotate_left; (focus (intro x hx; have fx := HX.out x hx; go_simp; (try with_reducible rfl); done)); (try simp only [Act.put, lsa, lsz, lss]))
                (refine wpAnyV_takeP 8 rfl rfl (by kernel_rfl) (by kernel_rfl) (by kernel_rfl) (fun _ _ _ h => h) (v := ?_) (by kernel_rfl) ?_ ?_; rotate_left; (focus (intro x; go_simp; (try with_reducible rfl); done)); (try simp only [Act.put, lsa, lsz, lss]))
                (refine wpAnyV_takeP 9 rfl rfl (by kernel_rfl) (by kernel_rfl) (by kernel_rfl) (fun _ _ _ h => h) (v := ?_) (by kernel_rfl) ?_ ?_; rotate_left; (focus (intro x; go_simp; (try with_reducible rfl); done)); (try simp only [Act.put, lsa, lsz, lss]))
                (refine wpAnyV_takeP 10 rfl rfl (by kernel_rfl) (by kernel_rfl) (by kernel_rfl) (fun _ _ _ h => h) (v := ?_) (by kernel_rfl) ?_ ?_; rotate_left; (focus (intro x; go_simp; (try with_reducible rfl); done)); (try simp only [Act.put, lsa, lsz, lss]))
                (refine wpAnyV_takeW 11 rfl rfl (by kernel_rfl) (by kernel_rfl) (by kernel_rfl) (by kernel_rfl) (fun _ _ _ h => h) (v := ?_) (by kernel_rfl) hS ?_ ?_; rotate_left; (focus (intro x hx; have fx := HX.out x hx; go_simp; (try with_reducible rfl); done)); (try simp only [Act.put, lsa, lsz, lss]))
                (refine wpAnyV_takeP 12 rfl rfl (by kernel_rfl) (by kernel_rfl) (by kernel_rfl) (fun _ _ _ h => h) (v := ?_) (by kernel_rfl) ?_ ?_; rotate_left; (focus (intro x; go_simp; (try with_reducible rfl); done)); (try simp only [Act.put, lsa, lsz, lss]))
                have hT4 := HT3.out.below hS (by have := HT3.out.bl.size; omega)
                have hbk4 := keptBlk hS HBK3.out
                have hl4 := hT4.bl
                clear hS
                generalize W3.drew = W4 at *
                have HT4 := Lib.hid hT4; have HBK4 := Lib.hid hbk4
                clear hT4 hbk4 HX HT3 HBK3 HGB3
                have fr0 := frz_blk hgd (i * 3)
                have fr1 := frz_blk hgd (i * 3 + 1)
                have fr2 := frz_blk hgd (i * 3 + 2)
                have x0 := (cell_blk hgd (i * 3)).trans y0
                have x2 := (cell_blk hgd (i * 3 + 2)).trans y2
                have x1 := (cell_blk hgd (i * 3 + 1)).trans y1
                refine wpAnyV_one 13 (by kernel_rfl) rfl ?_
                intro K' hK'
                go_simp
                refine hK'.out _ _ (fun h => absurd (by decide) h) ?_
                clear hK' K' fr0 fr1 x0 x2
                clear fr2 x1
                have hg5 := (Blk.set ((W4.setCell ⟨g, i * 3, none⟩ (.string ⟨t2⟩)).setCell ⟨g, i * 3 + 1, none⟩ (.slice B1 m1 d1)) (Blk.set (W4.setCell ⟨g, i * 3, none⟩ (.string ⟨t2⟩)) (Blk.set W4 hgd (i * 3) (.string ⟨t2⟩)) (i * 3 + 1) (.slice B1 m1 d1)) (i * 3 + 2) (.slice B2 m2 d2))
                have hb5 : Below W4.heap.size W4 W4 := Below.refl _ _
                have hk5 : ∀ k, k ≠ g → ((((W4.setCell ⟨g, i * 3, none⟩ (.string ⟨t2⟩)).setCell ⟨g, i * 3 + 1, none⟩ (.slice B1 m1 d1)).setCell ⟨g, i * 3 + 2, none⟩ (.slice B2 m2 d2))).heap[k]? = W4.heap[k]? := fun k hk => by rw [set_other _ _ _ _ _ hk, set_other _ _ _ _ _ hk, set_other _ _ _ _ _ hk]
                have hl5 := (((hl4.setCell (p := ⟨g, i * 3, none⟩) hge (.string ⟨t2⟩)).setCell (p := ⟨g, i * 3 + 1, none⟩) hge (.slice B1 m1 d1)).setCell (p := ⟨g, i * 3 + 2, none⟩) hge (.slice B2 m2 d2))
                generalize (((W4.setCell ⟨g, i * 3, none⟩ (.string ⟨t2⟩)).setCell ⟨g, i * 3 + 1, none⟩ (.slice B1 m1 d1)).setCell ⟨g, i * 3 + 2, none⟩ (.slice B2 m2 d2)) = W5 at *
                (refine wpAnyV_takeP 14 rfl rfl (by kernel_rfl) (by kernel_rfl) (by kernel_rfl) (fun _ _ _ h => h) (v := ?_) (by kernel_rfl) ?_ ?_; rotate_left; (focus (intro x; go_simp; (try with_reducible rfl); done)); (try simp only [Act.put, lsa, lsz, lss]))
                have w0 := frz_blk hg5 (j * 3)
                have w1 := frz_blk hg5 (j * 3 + 1)
                have w2 := frz_blk hg5 (j * 3 + 2)
                have hjs := (Array.getElem?_eq_some_iff.1 z2).1
                have x0 := (cell_blk hg5 (j * 3)).trans (Array.getElem?_eq_getElem (by simp; omega))
                have x1 := (cell_blk hg5 (j * 3 + 1)).trans (Array.getElem?_eq_getElem (by simp; omega))
                have x2 := (cell_blk hg5 (j * 3 + 2)).trans (Array.getElem?_eq_getElem (by simp; omega))
                refine wpAnyV_one 15 (by kernel_rfl) rfl ?_
                intro K' hK'
                go_simp
                refine hK'.out _ _ (fun h => absurd (by decide) h) ?_
                clear hK' K' w0 w1 x0 x1
                clear w2 x2
                refine wpAnyV_done (by kernel_rfl) ?_ _
                have hg6 := (Blk.set ((W5.setCell ⟨g, j * 3, none⟩ (.string ⟨t1⟩)).setCell ⟨g, j * 3 + 1, none⟩ (.slice A1 n1 c1)) (Blk.set (W5.setCell ⟨g, j * 3, none⟩ (.string ⟨t1⟩)) (Blk.set W5 hg5 (j * 3) (.string ⟨t1⟩)) (j * 3 + 1) (.slice A1 n1 c1)) (j * 3 + 2) (.slice A2 n2 c2))
                have hk6 : ∀ k, k ≠ g → ((((W5.setCell ⟨g, j * 3, none⟩ (.string ⟨t1⟩)).setCell ⟨g, j * 3 + 1, none⟩ (.slice A1 n1 c1)).setCell ⟨g, j * 3 + 2, none⟩ (.slice A2 n2 c2))).heap[k]? = W4.heap[k]? := fun k hk => by rw [set_other _ _ _ _ _ hk, set_other _ _ _ _ _ hk, set_other _ _ _ _ _ hk]; exact hk5 k hk
                have hl6 := (((hl5.setCell (p := ⟨g, j * 3, none⟩) hge (.string ⟨t1⟩)).setCell (p := ⟨g, j * 3 + 1, none⟩) hge (.slice A1 n1 c1)).setCell (p := ⟨g, j * 3 + 2, none⟩) hge (.slice A2 n2 c2))
                generalize (((W5.setCell ⟨g, j * 3, none⟩ (.string ⟨t1⟩)).setCell ⟨g, j * 3 + 1, none⟩ (.slice A1 n1 c1)).setCell ⟨g, j * 3 + 2, none⟩ (.slice A2 n2 c2)) = W6 at *
                have HS6 := Lib.hid (show TwoL W6 (fun k => k < w.heap.size) w4.heap.size w4 (some ⟨g, 0, none⟩) k9 N A8 k8 M l facts ∧ W6.heap[gb]? = some (.cells #[.int .u8 (xa : Int), .int .u8 (xb : Int)] 35 (0, 0)) ∧ Below w4.heap.size w4 W6 from
                  ⟨HT4.out.swR rfl hin hjn hgd hg6 (by simp) (fun k _ hk => hk6 k hk) hl6 (swap3 y0 y1 y2 z0 z1 z2) (fun k hk => by omega), (hk6 gb (by omega)).trans HBK4.out, hl6⟩)
                clear hg6 hk6 hl6 hg5 hk5 hl5 hgd hb5
                go_wp2_with fail
                go_meet
                exact HS6.out
              · go_wp2_with fail
                go_meet
                exact ⟨HT2.out, HBK.out, HT2.out.bl⟩
            case rest =>
              obtain ⟨hT2, hbk2, hb2⟩ := hcut
              have HT2 := Lib.hid hT2; have HBK := Lib.hid hbk2
              clear hT2 hbk2
              generalize hwc : wc = W2 at *
              clear hwc
              go_upto_if 87 with fail
              by_cases h0 : (0 : Int) < (M : Int)
              · obtain ⟨lm, ln, ho1, ho2, hl1, hl2, -, -⟩ := HT2.out.ex
                obtain ⟨g, cs, hA, hgb, hgs⟩ := ho2.blk (by omega)
                subst hA
                have hgne : g < gb := hA8 g rfl
                obtain ⟨i, hi⟩ : ∃ i, i = xb % M := ⟨_, rfl⟩
                obtain ⟨j, hj⟩ : ∃ j, j = xa % M := ⟨_, rfl⟩
                have hin : i < M := by rw [hi]; exact Nat.mod_lt _ (by omega)
                have hjn : j < M := by rw [hj]; exact Nat.mod_lt _ (by omega)
                obtain ⟨b1, o1, e1, -, -, A2, n2, c2, p0, p2, -⟩ := (ho2.sl (by decide)).atm (k := i) (by omega)
                obtain ⟨b2, o2, e2, -, -, B2, m2, d2, r0, r2, -⟩ := (ho2.sl (by decide)).atm (k := j) (by omega)
                obtain ⟨rfl, rfl⟩ : g = b1 ∧ 0 = o1 := by simpa using e1
                obtain ⟨rfl, rfl⟩ : g = b2 ∧ 0 = o2 := by simpa using e2
                generalize (ln[i]'(by omega)).name.toArray = t1 at *
                generalize (ln[j]'(by omega)).name.toArray = t2 at *
                have hge := (ho2.lt g rfl).1
                clear ho1 ho2 hl1 hl2 e1 e2 hgs lm ln
                have HGB := Lib.hid hgb
                simp only [Nat.zero_add] at p0 p2 r0 r2
                have q0 : ∀ z, Below W2.heap.size W2 z → z.cell? ⟨gb, 0, none⟩ = some (.int .u8 (xa : Int)) := fun z hz => (cell_blk (keptBlk hz HBK.out) 0).trans rfl
                have q1 : ∀ z, Below W2.heap.size W2 z → z.cell? ⟨gb, 1, none⟩ = some (.int .u8 (xb : Int)) := fun z hz => (cell_blk (keptBlk hz HBK.out) 1).trans rfl
                have HX := Lib.hid (fun (z : World) (hz : Below W2.heap.size W2 z) => And.intro (q0 z hz) (q1 z hz))
                have hmi : Int.tmod (xb : Int) (M : Int) = (i : Int) := by rw [hi, Int.ofNat_tmod]
                have hmj : Int.tmod (xa : Int) (M : Int) = (j : Int) := by rw [hj, Int.ofNat_tmod]
                have HEI := Lib.hid (show (xb : Int) % (M : Int) = (i : Int) by rw [hi]; simp); have HEJ := Lib.hid (show (xa : Int) % (M : Int) = (j : Int) by rw [hj]; simp)
                have HMI := Lib.hid hmi; have HMJ := Lib.hid hmj
                clear hmi hmj hi hj
                have hne : ¬ M = 0 := by omega
                have hwa : IntKind.i64.wrap (xa : Int) = (xa : Int) := by have := hpo.1; simp only at this; simp [IntKind.wrap, IntKind.signed, IntKind.bits]; omega
                have hwb : IntKind.i64.wrap (xb : Int) = (xb : Int) := by have := hpo.2; simp only at this; simp [IntKind.wrap, IntKind.signed, IntKind.bits]; omega
                clear q0 q1 hgb
                go_wp2_with fail
                refine wpH_region (fun z => Below W2.heap.size W2 z) (by kernel_rfl) ?_
                have hS : Below W2.heap.size W2 W2.drew := (Below.refl _ _).drew
                (refine tkW 0 (v := ?_) hS ?_ ?_; rotate_left; (focus (intro x hx; have fx := HX.out x hx; go_simp; (try with_reducible rfl); done)); (try simp only [Act.put, lsa, lsz, lss]))
                (refine tkW 1 (v := ?_) hS ?_ ?_; rotate_left; (focus (intro x hx; have fx := HX.out x hx; go_simp; (try with_reducible rfl); done)); (try simp only [Act.put, lsa, lsz, lss]))
                (refine tkW 2 (v := ?_) hS ?_ ?_; rotate_left; (focus (intro x hx; have fx := HX.out x hx; go_simp; (try with_reducible rfl); done)); (try simp only [Act.put, lsa, lsz, lss]))
                (refine tkW 3 (v := ?_) hS ?_ ?_; rotate_left; (focus (intro x hx; have fx := HX.out x hx; go_simp; (try with_reducible rfl); done)); (try simp only [Act.put, lsa, lsz, lss]))
                (refine tkW 4 (v := ?_) hS ?_ ?_; rotate_left; (focus (intro x hx; have fx := HX.out x hx; go_simp; (try with_reducible rfl); done)); (try simp only [Act.put, lsa, lsz, lss]))
                (refine tkW 5 (v := ?_) hS ?_ ?_; rotate_left; (focus (intro x hx; have fx := HX.out x hx; go_simp; (try with_reducible rfl); done)); (try simp only [Act.put, lsa, lsz, lss]))
                (refine tkW 6 (v := ?_) hS ?_ ?_; rotate_left; (focus (intro x hx; have fx := HX.out x hx; go_simp; (try with_reducible rfl); done)); (try simp only [Act.put, lsa, lsz, lss]))
                (refine tkW 7 (v := ?_) hS ?_ ?_; rotate_left; (focus (intro x hx; have fx := HX.out x hx; go_simp; (try with_reducible rfl); done)); (try simp only [Act.put, lsa, lsz, lss]))
                (refine tkW 8 (v := ?_) hS ?_ ?_; rotate_left; (focus (intro x hx; have fx := HX.out x hx; go_simp; (try with_reducible rfl); done)); (try simp only [Act.put, lsa, lsz, lss]))
                (refine tkW 9 (v := ?_) hS ?_ ?_; rotate_left; (focus (intro x hx; have fx := HX.out x hx; go_simp; (try with_reducible rfl); done)); (try simp only [Act.put, lsa, lsz, lss]))
                (refine tkW 10 (v := ?_) hS ?_ ?_; rotate_left; (focus (intro x hx; have fx := HX.out x hx; go_simp; (try with_reducible rfl); done)); (try simp only [Act.put, lsa, lsz, lss]))
                (refine tkW 11 (v := ?_) hS ?_ ?_; rotate_left; (focus (intro x hx; have fx := HX.out x hx; go_simp; (try with_reducible rfl); done)); (try simp only [Act.put, lsa, lsz, lss]))
                (refine tkW 12 (v := ?_) hS ?_ ?_; rotate_left; (focus (intro x hx; have fx := HX.out x hx; go_simp; (try with_reducible rfl); done)); (try simp only [Act.put, lsa, lsz, lss]))
                (refine tkW 13 (v := ?_) hS ?_ ?_; rotate_left; (focus (intro x hx; have fx := HX.out x hx; go_simp; (try with_reducible rfl); done)); (try simp only [Act.put, lsa, lsz, lss]))
                refine wpAnyH_done (by kernel_rfl) ?_ _
                simp only [HMI.out, HMJ.out, HEI.out, HEJ.out]
                have hT3 := HT2.out.below hS (by have := HT2.out.bl.size; omega)
                have hgb3 := keptBlk hS HGB.out
                have hbk3 := keptBlk hS HBK.out
                have y0 := (cell_blk HGB.out (i * 2)).symm.trans p0
                have y2 := (cell_blk HGB.out (i * 2 + 1)).symm.trans p2
                have z0 := (cell_blk HGB.out (j * 2)).symm.trans r0
                have z2 := (cell_blk HGB.out (j * 2 + 1)).symm.trans r2
                clear hS HMI HMJ HEI HEJ hne hwa hwb HX p0 p2 r0 r2
                generalize W2.drew = W3 at *
                have HT3 := Lib.hid hT3; have HGB3 := Lib.hid hgb3; have HBK3 := Lib.hid hbk3
                have hi0 : (0 : Int) ≤ (i : Int) ∧ (i : Int) < (M : Int) := by omega
                have hj0 : (0 : Int) ≤ (j : Int) ∧ (j : Int) < (M : Int) := by omega
                have HX := Lib.hid (fun (z : World) (hz : Below W3.heap.size W3 z) => And.intro ((cell_blk (keptBlk hz hgb3) (i * 2)).trans y0) (And.intro ((cell_blk (keptBlk hz hgb3) (i * 2 + 1)).trans y2) (And.intro ((cell_blk (keptBlk hz hgb3) (j * 2)).trans z0) ((cell_blk (keptBlk hz hgb3) (j * 2 + 1)).trans z2))))
                have hgd := blkDrw hgb3
                clear hT3 hgb3 hbk3 HGB HBK HT2
                go_wp2_with fail
                refine wpV_region (fun z => Below W3.heap.size W3 z) [13, 15] (by kernel_rfl) ?_
                have hS : Below W3.heap.size W3 W3.drew := (Below.refl _ _).drew
                (refine wpAnyV_takeP 0 rfl rfl (by kernel_rfl) (by kernel_rfl) (by kernel_rfl) (fun _ _ _ h => h) (v := ?_) (by kernel_rfl) ?_ ?_; rotate_left; (focus (intro x; go_simp; (try with_reducible rfl); done)); (try simp only [Act.put, lsa, lsz, lss]))
                (refine wpAnyV_takeP 1 rfl rfl (by kernel_rfl) (by kernel_rfl) (by kernel_rfl) (fun _ _ _ h => h) (v := ?_) (by kernel_rfl) ?_ ?_; rotate_left; (focus (intro x; go_simp; (try with_reducible rfl); done)); (try simp only [Act.put, lsa, lsz, lss]))
                (refine wpAnyV_takeP 2 rfl rfl (by kernel_rfl) (by kernel_rfl) (by kernel_rfl) (fun _ _ _ h => h) (v := ?_) (by kernel_rfl) ?_ ?_; rotate_left; (focus (intro x; go_simp; (try with_reducible rfl); done)); (try simp only [Act.put, lsa, lsz, lss]))
                (refine wpAnyV_takeP 3 rfl rfl (by kernel_rfl) (by kernel_rfl) (by kernel_rfl) (fun _ _ _ h => h) (v := ?_) (by kernel_rfl) ?_ ?_; rotate_left; (focus (intro x; go_simp; (try with_reducible rfl); done)); (try simp only [Act.put, lsa, lsz, lss]))
                (refine wpAnyV_takeP 4 rfl rfl (by kernel_rfl) (by kernel_rfl) (by kernel_rfl) (fun _ _ _ h => h) (v := ?_) (by kernel_rfl) ?_ ?_; rotate_left; (focus (intro x; go_simp; (try with_reducible rfl); done)); (try simp only [Act.put, lsa, lsz, lss]))
                (refine wpAnyV_takeP 5 rfl rfl (by kernel_rfl) (by kernel_rfl) (by kernel_rfl) (fun _ _ _ h => h) (v := ?_) (by kernel_rfl) ?_ ?_; rotate_left; (focus (intro x; go_simp; (try with_reducible rfl); done)); (try simp only [Act.put, lsa, lsz, lss]))
                (refine wpAnyV_takeP 6 rfl rfl (by kernel_rfl) (by kernel_rfl) (by kernel_rfl) (fun _ _ _ h => h) (v := ?_) (by kernel_rfl) ?_ ?_; rotate_left; (focus (intro x; go_simp; (try with_reducible rfl); done)); (try simp only [Act.put, lsa, lsz, lss]))
                (refine wpAnyV_takeW 7 rfl rfl (by kernel_rfl) (by kernel_rfl) (by kernel_rfl) (by kernel_rfl) (fun _ _ _ h => h) (v := ?_) (by kernel_rfl) hS ?_ ?_; rotate_left; (focus (intro x hx; have fx := HX.out x hx; go_simp; (try with_reducible rfl); done)); (try simp only [Act.put, lsa, lsz, lss]))
                (refine wpAnyV_takeP 8 rfl rfl (by kernel_rfl) (by kernel_rfl) (by kernel_rfl) (fun _ _ _ h => h) (v := ?_) (by kernel_rfl) ?_ ?_; rotate_left; (focus (intro x; go_simp; (try with_reducible rfl); done)); (try simp only [Act.put, lsa, lsz, lss]))
                (refine wpAnyV_takeP 9 rfl rfl (by kernel_rfl) (by kernel_rfl) (by kernel_rfl) (fun _ _ _ h => h) (v := ?_) (by kernel_rfl) ?_ ?_; rotate_left; (focus (intro x; go_simp; (try with_reducible rfl); done)); (try simp only [Act.put, lsa, lsz, lss]))
                (refine wpAnyV_takeP 10 rfl rfl (by kernel_rfl) (by kernel_rfl) (by kernel_rfl) (fun _ _ _ h => h) (v := ?_) (by kernel_rfl) ?_ ?_; rotate_left; (focus (intro x; go_simp; (try with_reducible rfl); done)); (try simp only [Act.put, lsa, lsz, lss]))
                (refine wpAnyV_takeW 11 rfl rfl (by kernel_rfl) (by kernel_rfl) (by kernel_rfl) (by kernel_rfl) (fun _ _ _ h => h) (v := ?_) (by kernel_rfl) hS ?_ ?_; rotate_left; (focus (intro x hx; have fx := HX.out x hx; go_simp; (try with_reducible rfl); done)); (try simp only [Act.put, lsa, lsz, lss]))
                (refine wpAnyV_takeP 12 rfl rfl (by kernel_rfl) (by kernel_rfl) (by kernel_rfl) (fun _ _ _ h => h) (v := ?_) (by kernel_rfl) ?_ ?_; rotate_left; (focus (intro x; go_simp; (try with_reducible rfl); done)); (try simp only [Act.put, lsa, lsz, lss]))
                have hT4 := HT3.out.below hS (by have := HT3.out.bl.size; omega)
                have hbk4 := keptBlk hS HBK3.out
                have hl4 := hT4.bl
                clear hS
                generalize W3.drew = W4 at *
                have HT4 := Lib.hid hT4; have HBK4 := Lib.hid hbk4
                clear hT4 hbk4 HX HT3 HBK3 HGB3
                have fr0 := frz_blk hgd (i * 2)
                have fr1 := frz_blk hgd (i * 2 + 1)
                have x0 := (cell_blk hgd (i * 2)).trans y0
                have x2 := (cell_blk hgd (i * 2 + 1)).trans y2
                refine wpAnyV_one 13 (by kernel_rfl) rfl ?_
                intro K' hK'
                go_simp
                refine hK'.out _ _ (fun h => absurd (by decide) h) ?_
                clear hK' K' fr0 fr1 x0 x2
                have hg5 := (Blk.set (W4.setCell ⟨g, i * 2, none⟩ (.string ⟨t2⟩)) (Blk.set W4 hgd (i * 2) (.string ⟨t2⟩)) (i * 2 + 1) (.slice B2 m2 d2))
                have hb5 : Below W4.heap.size W4 W4 := Below.refl _ _
                have hk5 : ∀ k, k ≠ g → (((W4.setCell ⟨g, i * 2, none⟩ (.string ⟨t2⟩)).setCell ⟨g, i * 2 + 1, none⟩ (.slice B2 m2 d2))).heap[k]? = W4.heap[k]? := fun k hk => by rw [set_other _ _ _ _ _ hk, set_other _ _ _ _ _ hk]
                have hl5 := ((hl4.setCell (p := ⟨g, i * 2, none⟩) hge (.string ⟨t2⟩)).setCell (p := ⟨g, i * 2 + 1, none⟩) hge (.slice B2 m2 d2))
                generalize ((W4.setCell ⟨g, i * 2, none⟩ (.string ⟨t2⟩)).setCell ⟨g, i * 2 + 1, none⟩ (.slice B2 m2 d2)) = W5 at *
                (refine wpAnyV_takeP 14 rfl rfl (by kernel_rfl) (by kernel_rfl) (by kernel_rfl) (fun _ _ _ h => h) (v := ?_) (by kernel_rfl) ?_ ?_; rotate_left; (focus (intro x; go_simp; (try with_reducible rfl); done)); (try simp only [Act.put, lsa, lsz, lss]))
                have w0 := frz_blk hg5 (j * 2)
                have w1 := frz_blk hg5 (j * 2 + 1)
                have hjs := (Array.getElem?_eq_some_iff.1 z2).1
                have x0 := (cell_blk hg5 (j * 2)).trans (Array.getElem?_eq_getElem (by simp; omega))
                have x1 := (cell_blk hg5 (j * 2 + 1)).trans (Array.getElem?_eq_getElem (by simp; omega))
                refine wpAnyV_one 15 (by kernel_rfl) rfl ?_
                intro K' hK'
                go_simp
                refine hK'.out _ _ (fun h => absurd (by decide) h) ?_
                clear hK' K' w0 w1 x0 x1
                refine wpAnyV_done (by kernel_rfl) ?_ _
                have hg6 := (Blk.set (W5.setCell ⟨g, j * 2, none⟩ (.string ⟨t1⟩)) (Blk.set W5 hg5 (j * 2) (.string ⟨t1⟩)) (j * 2 + 1) (.slice A2 n2 c2))
                have hk6 : ∀ k, k ≠ g → (((W5.setCell ⟨g, j * 2, none⟩ (.string ⟨t1⟩)).setCell ⟨g, j * 2 + 1, none⟩ (.slice A2 n2 c2))).heap[k]? = W4.heap[k]? := fun k hk => by rw [set_other _ _ _ _ _ hk, set_other _ _ _ _ _ hk]; exact hk5 k hk
                have hl6 := ((hl5.setCell (p := ⟨g, j * 2, none⟩) hge (.string ⟨t1⟩)).setCell (p := ⟨g, j * 2 + 1, none⟩) hge (.slice A2 n2 c2))
                generalize ((W5.setCell ⟨g, j * 2, none⟩ (.string ⟨t1⟩)).setCell ⟨g, j * 2 + 1, none⟩ (.slice A2 n2 c2)) = W6 at *
                have HS6 := Lib.hid (show TwoL W6 (fun k => k < w.heap.size) w4.heap.size w4 A9 k9 N (some ⟨g, 0, none⟩) k8 M l facts ∧ W6.heap[gb]? = some (.cells #[.int .u8 (xa : Int), .int .u8 (xb : Int)] 35 (0, 0)) ∧ Below w4.heap.size w4 W6 from
                  ⟨HT4.out.swF rfl hin hjn hgd hg6 (by simp) (fun k _ hk => hk6 k hk) hl6 (swap2 y0 y2 z0 z2) (fun k hk => by omega), (hk6 gb (by omega)).trans HBK4.out, hl6⟩)
                clear hg6 hk6 hl6 hg5 hk5 hl5 hgd hb5
                go_wp2_with fail
                go_roundw
                case rel => exact ⟨k + 1, by omega, by go_num, HS6.out.1⟩
                case measure => simp [intOf]; omega
              · go_wp2_with fail
                go_roundw
                case rel => exact ⟨k + 1, by omega, by go_num, HT2.out⟩
                case measure => simp [intOf]; omega
          · obtain ⟨lm, ln, ho1, ho2, rfl, rfl, hm1, hm2⟩ := hTW.ex
            have hany := any_order (l := l) (l' := lm) (facts := facts) (facts' := ln) (fun r => (hm1 r).symm) (fun a => (hm2 a).symm) (by omega) (by omega) (by omega) (by omega)
            have HOM := Lib.hid (show ∀ r ∈ lm, OkR r from fun r hr => HO.out r ((hm1 r).1 hr))
            have HON := Lib.hid (show ∀ a ∈ ln, OkT a from fun a ha => HOF.out a ((hm2 a).1 ha))
            have he1 := fun A c B d w S T hl hf hL => EvalQ_any A l.length c l B facts.length d facts w S T hl hf HO.out HOF.out hL
            have he2 := fun A c B d w S T hl hf hL => EvalQ_any A lm.length c lm B ln.length d ln w S T hl hf HOM.out HON.out hL
            generalize evalS l facts = r1 at *
            generalize evalS lm ln = r2 at *
            obtain ⟨m1, i1, e1⟩ := r1
            obtain ⟨m2, i2, e2⟩ := r2
            obtain ⟨hiff, rfl⟩ : (e1 = 0 ↔ e2 = 0) ∧ m1 = m2 := hany
            have HE1 := Lib.hid he1; have HE2 := Lib.hid he2; have HB := Lib.hid hb; have HO1 := Lib.hid ho1; have HO2 := Lib.hid ho2
            have BW := Lib.hid (B4.out.trans (hb.mono B4.out.size))
            clear he1 he2 hm1 hm2 hTW ho1 ho2 hb HOM HON HOS HW
            go_wp2_with fail
            refine (cp54_any A _ c l wr _ (HS.out.below BW.out) (by omega)).mono ?_
            rintro e wa ⟨Aa, ka, rfl, oa, ba⟩
            have SA := Lib.hid (oa.sl (by decide)); have BA := Lib.hid ba; clear oa ba
            go_wp2_with fail
            refine (ca54_any B _ d facts wa _ (HF.out.below (BW.out.trans (BA.out.mono BW.out.size))) (by omega)).mono ?_
            rintro e wb ⟨Ab, kb, rfl, ob, bb⟩
            have SB := Lib.hid (ob.sl (by decide)); have SA2 := Lib.hid (SA.out.below bb); have BB := Lib.hid (BA.out.trans (bb.mono BA.out.size)); clear ob bb SA BA
            go_wp2_with fail
            refine (HE1.out Aa ka Ab kb wb _ _ SA2.out SB.out (HL.out.below (BW.out.trans (BB.out.mono BW.out.size)))).mono ?_
            rintro e wd ⟨Ad, nd, kd, rfl, sd, bd⟩
            have hnd := sd.len
            subst hnd
            have hled := sd.le
            have SD := Lib.hid (sd.wide (S' := fun k => k < wd.heap.size) (fun k hk _ => hk) (by decide)); have BD := Lib.hid (BB.out.trans (bd.mono BB.out.size)); clear sd bd SA2 SB BB
            simp only at SD hled ⊢
            go_wp2_with fail
            refine (HE2.out A9 k9 A8 k8 wd _ _ ((HO1.out.below BD.out).sl (by decide)) ((HO2.out.below BD.out).sl (by decide)) (HL.out.below (BW.out.trans (BD.out.mono BW.out.size)))).mono ?_
            rintro e we ⟨Ae, ne, ke, rfl, se, be⟩
            have hne := se.len
            subst hne
            have hlee := se.le
            have SE := Lib.hid (se.wide (S' := fun k => k < we.heap.size) (fun k hk _ => hk) (by decide)); have SD2 := Lib.hid (SD.out.below be); have BE := Lib.hid (BD.out.trans (be.mono BD.out.size)); clear se be BD SD HE1 HE2 HO1 HO2
            simp only at SE hlee ⊢
            by_cases h1 : e1 = 0
            · have h2 := hiff.1 h1
              subst h1 h2
              clear hiff
              go_wp2_with fail
              refine (sameR_any m1 m1 Ad m1.length kd Ae m1.length ke we _ _ SD2.out SE.out).mono ?_
              rintro e wf ⟨rfl, bf⟩
              rw [decide_eq_true rfl]
              have BF := Lib.hid (BW.out.trans ((BE.out.trans (bf.mono BE.out.size)).mono BW.out.size)); clear bf
              go_wp2_with fail
              exact bodyPost_ret (v := .bool true) (by simp [results, Tryz.results3, go_sem]) rfl ⟨rfl, BF.out⟩
            · have h2 : ¬ e2 = 0 := fun h => h1 (hiff.2 h)
              have hb1 : (e1 == 0) = false := by simpa using h1
              have hb2 : (e2 == 0) = false := by simpa using h2
              clear hiff h1 h2
              go_wp2_with fail
              refine (sameR_any m1 m1 Ad m1.length kd Ae m1.length ke we _ _ SD2.out SE.out).mono ?_
              rintro e wf ⟨rfl, bf⟩
              rw [decide_eq_true rfl]
              have BF := Lib.hid (BW.out.trans ((BE.out.trans (bf.mono BE.out.size)).mono BW.out.size)); clear bf
              go_wp2_with fail
              exact bodyPost_ret (v := .bool true) (by simp [results, Tryz.results3, go_sem]) rfl ⟨rfl, BF.out⟩
end Go.Proofs.YtkjoaodoioicpaaGreatDoor
namespace Go.Proofs.YtkjoaodoioicpaaGreatDoor.queryAnyOrder
open Go.ChangeShapes Go.WideShapes Go.ChangeAt Go.RowKit
open Go.ChangeMaps (open_string shut_string)

theorem own : ownKnob Tryz.prog.godebug = none := by kernel_rfl
theorem laidOut : laidOutB Tryz.prog = true := by kernel_rfl

set_option maxRecDepth 100000 in
theorem lifted (os : Os) (started : os.Started) (H : Type) (enc : TypeId × Value → H) :
    ReturnsInHanded {} Tryz.checked os 3 .any (fun w args => (Rows.queryAnyOrderSpec.pre enc Tryz.prog Tryz.f3 [] false w args ∧ laidMetH Tryz.prog laidL w) ∧ sizedMet enc Tryz.prog Tryz.f3 (OpenSpec.ofChange Rows.queryAnyOrderSpec) false w args)
      (Rows.queryAnyOrderSpec.post enc Tryz.prog Tryz.f3 false true false false) := by
  refine handed (C := Tryz.checked) (X := fun w _ => laidMetH Tryz.prog laidL w) (fun _ _ _ hh h => h.of_heap hh) own started (by kernel_rfl) Tryz.func3
    (ChangeSpec.witness_shaped (enc := enc) (C := Tryz.checked) (os := os) (X := fun w _ => laidMetH Tryz.prog laidL w) false (World.laidAll Tryz.prog os laidL) #[.slice none 0 0, .slice none 0 0, .slice none 0 0] 8 (World.laidAll_os _ _ _)
      (World.shaped_of_ZipB (by kernel_rfl) (by kernel_rfl)) (by kernel_rfl) (by kernel_rfl) (by kernel_rfl)
      (by rw [MakeChecks.laidMetH_plain _ _ _ (by kernel_rfl)]; exact laidMet_laidAll _ (by kernel_rfl) (by kernel_rfl))) ?_
  intro W base args ds gs before hval0 hW hlaid hshape
  have hLD := ld_of hlaid hshape
  have hval : ∀ (j : Nat) t v, Tryz.f3.params[j]? = some t → args[j]? = some v → Value.okWide Tryz.prog W .any base t v := hval0
  have hW' := hW
  obtain ⟨p, q, hA0, hV, rfl, hfz, hnd⟩ := hW
  have hA : DataW.TrodAll enc Tryz.prog W 0 (fun _ => true) true Tryz.f3.params.toList args.toList ds p := hA0
  rw [Tryz.params3] at hA hval
  obtain ⟨v0, vs0, d0, ds0, p0, q0, hargs, rfl, rfl, h0, r0⟩ := trodAll_cons hA
  obtain ⟨v1, vs1, d1, ds1, p1, q1, rfl, rfl, rfl, h1, r1⟩ := trodAll_cons r0
  obtain ⟨v2, vs2, d2, ds2, p2, q2, rfl, rfl, rfl, h2, r2⟩ := trodAll_cons r1
  obtain ⟨rfl, rfl, rfl⟩ := trodAll_nil r2
  obtain rfl : args = #[v0, v1, v2] := by cases args; simp_all
  obtain ⟨rfl, rfl⟩ := trodVars_none hV
  obtain ⟨a0, n0, c0, rfl⟩ := okWide_slice Tryz.underlying22 (hval 0 22 v0 rfl rfl)
  have k0 := h0
  have lt0 : ∀ x ∈ p0, x.block < W.heap.size := by obtain ⟨m, hm⟩ := k0; exact DataW.trod_lt m _ _ _ hm
  obtain ⟨l0, s0, f0⟩ := openRules h0
  obtain ⟨a1, n1, c1, rfl⟩ := okWide_slice Tryz.underlying23 (hval 1 23 v1 rfl rfl)
  have k1 := h1
  have lt1 : ∀ x ∈ p1, x.block < W.heap.size := by obtain ⟨m, hm⟩ := k1; exact DataW.trod_lt m _ _ _ hm
  obtain ⟨l1, s1, f1⟩ := openAtoms h1
  obtain ⟨a2, n2, c2, rfl⟩ := okWide_slice Tryz.underlying24 (hval 2 24 v2 rfl rfl)
  have k2 := h2
  have lt2 : ∀ x ∈ p2, x.block < W.heap.size := by obtain ⟨m, hm⟩ := k2; exact DataW.trod_lt m _ _ _ hm
  obtain ⟨l2, s2, f2⟩ := openPrs h2
  clear hA0 hval0
  have hw := queryAnyOrder_walk W a0 n0 c0 l0 s0 f0 a1 n1 c1 l1 s1 f1 a2 n2 c2 l2 s2 f2 hLD
  refine hw.mono fun e W' ⟨he, bel⟩ => ?_
  subst he
  exact ⟨_, rfl, _, _, _, [], _, [], hW', trodAll_mk1 (shut_bool Tryz.underlying4 _), (trodAll_cons_mk (Below.trod laidOut (by kernel_rfl) (of_decide_eq_true (by kernel_rfl)) k0 bel lt0) (trodAll_cons_mk (Below.trod laidOut (by kernel_rfl) (of_decide_eq_true (by kernel_rfl)) k1 bel lt1) (trodAll_cons_mk (Below.trod laidOut (by kernel_rfl) (of_decide_eq_true (by kernel_rfl)) k2 bel lt2) trodAll_mk0))), rfl, bel.frame _, fun h => by cases h⟩

theorem over : Rows.queryAnyOrderRow.holds Tryz.pinned (OpenSpec.ofChange Rows.queryAnyOrderSpec) :=
  OpenClaim.holds_of_wide 3 Tryz.f3 rfl rfl rfl rfl rfl rfl rfl ⟨rfl, rfl, rfl, rfl, rfl⟩ rfl rfl rfl rfl rfl (by kernel_rfl) Tryz.func3 (by kernel_rfl)
    (of_decide_eq_true (by kernel_rfl)) (by unfold Func.isWrapper; first | (rw [if_pos (by decide +kernel)]; kernel_rfl) | (rw [if_neg (by decide +kernel)]; exact ⟨rfl, rfl⟩))
    (fun os started H enc _ => lifted os started H enc)

theorem proved : Rows.QueryAnyOrderCardSaid :=
  Claim7.holds_tied_plain_at .later [] _ _ _ _ over (fun _ h => by cases h) (by kernel_rfl) (fun _ h => by cases h) queryAnyOrder_row_tie rfl ⟨rfl, rfl⟩ (by kernel_rfl) rfl
    (fun f fn hf hfn => by
      obtain rfl : f = 3 := Option.some.inj ((show Tryz.prog.funcNamed "licit/licitlaw54.QueryAnyOrder" = some 3 by kernel_rfl).symm.trans hf) |>.symm
      obtain rfl : fn = Tryz.f3 := (Option.some.inj (Tryz.func3.symm.trans hfn)).symm
      exact ⟨by kernel_rfl, fun j t ht => by
        rw [Tryz.params3] at ht
        have hm : t ∈ [22, 23, 24] := by simpa using Array.mem_of_getElem? ht
        have hall : ([22, 23, 24].all fun u => !Tryz.prog.wantsStandIn u) = true := by kernel_rfl
        exact (show Tryz.prog.wantsStandIn t = false by simpa using List.all_eq_true.1 hall t hm)⟩)
    (by kernel_rfl)
#print axioms proved
end Go.Proofs.YtkjoaodoioicpaaGreatDoor.queryAnyOrder
