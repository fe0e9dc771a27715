/- Rules, reference: insert. -/
import Derived.Test.YtjopmgoacncmgaaGreatDoorKW7
import Derived.Test.YtjopmgoacncmgaaGreatDoorK13
set_option linter.unusedVariables false
set_option linter.unusedSimpArgs false
namespace Go.Proofs.YtjopmgoacncmgaaGreatDoor
open Go.RowKit

theorem Own.strT {w : World} {T T' : Nat → Prop} {base e : Nat} {A : Option Addr} {c : Nat} {xs : List Bs} (h : Own w T base e A c xs) : Own w T' base e A c xs := by
  obtain ⟨cs, h1, h2⟩ := h
  exact ⟨cs, h1, fun i hi => h2 i hi⟩
theorem sliceStr_from (A : Option Addr) (n c p : Nat) (h1 : p ≤ n) (w : World) : (Instr.slice 42 (.slice A n c) (some (.int .i64 (p : Int))) none none).run Tryz.prog w = .ok (.slice (if c = p then A else A.map (·.add (p * 1))) (n - p) (c - p)) w := by
  have h0 : (0 : Int) ≤ (p : Int) := by omega
  have h1' : (p : Int) ≤ (n : Int) := by omega
  simp [go_sem, h0, h1']
theorem sliceStr_to (A : Option Addr) (n c p : Nat) (h1 : p ≤ c) (w : World) : (Instr.slice 42 (.slice A n c) none (some (.int .i64 (p : Int))) none).run Tryz.prog w = .ok (.slice A p c) w := by
  have h0 : (0 : Int) ≤ (p : Int) := by omega
  have h1' : (p : Int) ≤ (c : Int) := by omega
  simp [go_sem, h0, h1']

def InsPost (w : World) (S : Nat → Prop) (v : List Bs) (e : Ending) (w' : World) : Prop :=
  ∃ A' c', e = .returned (.slice A' v.length c') ∧ Sl w' (fun b => S b ∨ w.heap.size ≤ b) A' v.length c' v ∧ Below w.heap.size w w'

set_option maxRecDepth 100000 in
set_option maxHeartbeats 4000000 in
theorem insert_any (A : Option Addr) (n c : Nat) (l : List Bs) (s : Bs) (w : World) (S : Nat → Prop) (hl : Sl w S A n c l) (hlen : l.length ≤ 1000000) :
    Calls Tryz.prog 109 #[.slice A n c, .string ⟨s.toArray⟩] w (InsPost w S (insB s l)) := by
  obtain ⟨v, hv⟩ : ∃ v, v = insB s l := ⟨_, rfl⟩
  rw [← hv]
  have hn := hl.len
  subst hn
  have hle := hl.le
  have hcap := hl.2.1
  have hcap2 := hl.2.2.1
  have HF : Hid (v = l.take 0 ++ insB s (l.drop 0)) := hv
  have HL := Lib.hid (hl.wide (S' := fun b => S b ∧ b < w.heap.size) (fun k hk hs => ⟨hs, hk⟩) (by decide))
  clear hv hl
  go_enter Tryz.func109, Tryz.ntmps109
  go_wp2_with fail
  go_loop [5] (fun i => ∃ k : Nat, k ≤ l.length ∧ i = .int .i64 k ∧ Hid (v = l.take k ++ insB s (l.drop k))) (fun i => l.length - (intOf i).toNat)
  case atStart => exact ⟨0, by omega, rfl, HF⟩
  case round =>
    obtain ⟨k, hk, rfl, hf⟩ := hrel
    have hd := hf.out
    have hins : v = l.take k ++ s :: l.drop k → True := fun _ => trivial
    by_cases hlt : k < l.length
    · obtain ⟨b, o, rfl, -, hbs, h1⟩ := HL.out.str hlt
      have htk : l.take (k + 1) = l.take k ++ [l[k]] := List.take_succ_eq_append_getElem hlt
      have hdg := drop_get hlt
      rw [hdg, insB] at hd
      generalize l[k] = x at hd htk h1 hdg
      cases hlb : ltB x s
      · rw [hlb, if_neg (by simp)] at hd
        have hbl : Op.bytesLess x s = false := by rw [less_ltB, hlb]
        by_cases he : x = s
        · subst he
          have hv : v = l := by rw [hd, if_pos (by simp), ← hdg, List.take_append_drop]
          subst hv
          have hbe : (x == x) = true := by simp
          clear hd hf htk hdg hlb hins
          go_wp2_with fail
          go_ret
          exact ⟨_, _, rfl, HL.out.wide (fun q _ hq => .inl hq.1) (by decide), Below.refl _ _⟩
        · have hv : v = l.take k ++ s :: l.drop k := by rw [hd, if_neg (by simpa using he), ← hdg]
          have hbe : (x == s) = false := by simpa using he
          have HV := Lib.hid hv
          clear hd hf htk hdg hlb hins hv
          go_wp2_with fail
          refine wpH_region (fun x => Below w.heap.size w x) (by kernel_rfl) ?_
          have hS : Below w.heap.size w w.drew := (Below.refl _ _).drew
          have HX := Lib.hid (fun (x : World) (hx : Below w.heap.size w x) => hx.size)
          (refine wpAnyH_takeW 1 rfl rfl (by kernel_rfl) (by kernel_rfl) (by kernel_rfl) (fun _ _ _ h => h) (v := ?_) (by kernel_rfl) hS ?_ ?_; rotate_left; (focus (intro x hx; have fx := HX.out x hx; go_simp; (try with_reducible rfl); done)); (try simp only [Act.put, List.setIfInBounds_toArray, List.set_cons_zero, List.set_cons_succ]))
          (refine wpAnyH_takeW 2 rfl rfl (by kernel_rfl) (by kernel_rfl) (by kernel_rfl) (fun _ _ _ h => h) (v := ?_) (by kernel_rfl) hS ?_ ?_; rotate_left; (focus (intro x hx; have fx := HX.out x hx; go_simp; (try with_reducible rfl); done)); (try simp only [Act.put, List.setIfInBounds_toArray, List.set_cons_zero, List.set_cons_succ]))
          refine wpAnyH_takeW 3 rfl rfl (by kernel_rfl) (by kernel_rfl) (by kernel_rfl) (fun _ _ _ h => h) (v := .slice (some (⟨b, o, none⟩ : Addr)) k c) (by kernel_rfl) hS (fun x hx => by have := sliceStr_to (some (⟨b, o, none⟩ : Addr)) l.length c k (by omega) x; go_simp; done) ?_
          simp only [Act.put, List.setIfInBounds_toArray, List.set_cons_zero, List.set_cons_succ]
          (refine wpAnyH_takeW 5 rfl rfl (by kernel_rfl) (by kernel_rfl) (by kernel_rfl) (fun _ _ _ h => h) (v := ?_) (by kernel_rfl) hS ?_ ?_; rotate_left; (focus (intro x hx; have fx := HX.out x hx; go_simp; (try with_reducible rfl); done)); (try simp only [Act.put, List.setIfInBounds_toArray, List.set_cons_zero, List.set_cons_succ]))
          (refine wpAnyH_takeW 8 rfl rfl (by kernel_rfl) (by kernel_rfl) (by kernel_rfl) (fun _ _ _ h => h) (v := ?_) (by kernel_rfl) hS ?_ ?_; rotate_left; (focus (intro x hx; have fx := HX.out x hx; go_simp; (try with_reducible rfl); done)); (try simp only [Act.put, List.setIfInBounds_toArray, List.set_cons_zero, List.set_cons_succ]))
          (refine wpAnyH_takeW 9 rfl rfl (by kernel_rfl) (by kernel_rfl) (by kernel_rfl) (fun _ _ _ h => h) (v := ?_) (by kernel_rfl) hS ?_ ?_; rotate_left; (focus (intro x hx; have fx := HX.out x hx; go_simp; (try with_reducible rfl); done)); (try simp only [Act.put, List.setIfInBounds_toArray, List.set_cons_zero, List.set_cons_succ]))
          refine wpAnyH_takeW 10 rfl rfl (by kernel_rfl) (by kernel_rfl) (by kernel_rfl) (fun _ _ _ h => h) (v := .slice (if c = k then some (⟨b, o, none⟩ : Addr) else some (⟨b, o + k, none⟩ : Addr)) (l.length - k) (c - k)) (by kernel_rfl) hS (fun x hx => by have := sliceStr_from (some (⟨b, o, none⟩ : Addr)) l.length c k (by omega) x; go_simp; done) ?_
          simp only [Act.put, List.setIfInBounds_toArray, List.set_cons_zero, List.set_cons_succ]
          have hw0 : w.drew.heap.size = w.heap.size := rfl
          have HCUT : ∀ x, Below w.heap.size w x → Sl x (fun b => S b ∧ b < w.heap.size) (if c = k then some (⟨b, o, none⟩ : Addr) else some (⟨b, o + k, none⟩ : Addr)) (l.length - k) (c - k) (l.drop k) := fun x hx => by have := (HL.out.below hx).cut hk; simpa [add_plain, GoT.size] using this
          refine wpAnyH_two 0 6 (by kernel_rfl) rfl rfl ?or1a ?or1b
          case' or1a =>
            intro K' hK'
            go_simp
            refine hK'.out _ _ (belowA hS _) ?_
            clear hK' K'
            refine wpAnyH_two 4 6 (by kernel_rfl) rfl rfl ?or1aa ?or1ab
            case' or1aa =>
              intro K' hK'
              refine step_appN (T := fun _ => True) (base := w.heap.size) (xs := ([] : List Bs)) (ys := l.take k) rfl _ _ eltStr rfl (by decide) rfl rfl rfl (Own.emp (blkAt _ _ rfl) (Nat.le_refl _)) rfl (((HL.out.below (belowA hS _)).take (by omega)).wide (fun q hq hs => ⟨trivial, fun e => absurd (show w.heap.size = q by injection e) (by have := hs.2; omega)⟩) (by decide)) (by simp; omega) (by simp; omega) (by simp [hw0]) ?_
              intro A4 c4 w4 hown4 hg4 hat4
              have hb4 : Below w.heap.size w w4 := (belowA hS _).grown hg4 (by simp [hw0]) (fun q hq => by injection hq with hq; have hq : w.heap.size = q := hq; omega)
              refine hK'.out _ _ hb4 ?_
              clear hK' K'
              refine wpAnyH_one 6 (by kernel_rfl) rfl ?_
              intro K' hK'
              go_simp
              have hbel5 : Below w.heap.size w (w4.alloc (.cells #[.string ⟨s.toArray⟩] 9)) := belowA hb4 _
              have hown5 := hown4.alloc (.cells #[.string ⟨s.toArray⟩] 9)
              have hb05 := blkAt w4 (.cells #[.string ⟨s.toArray⟩] 9) rfl
              refine hK'.out _ _ hbel5 ?_
              clear hK' K' hown4 hg4 hat4 hb4
              generalize w4.alloc (.cells #[.string ⟨s.toArray⟩] 9) = X5 at *
            case' or1ab =>
              intro K' hK'
              go_simp
              refine hK'.out _ _ (belowA (belowA hS _) _) ?_
              clear hK' K'
              refine wpAnyH_one 4 (by kernel_rfl) rfl ?_
              intro K' hK'
              have hb00 : ((w.drew.alloc (.cells #[] 9)).alloc (.cells #[.string ⟨s.toArray⟩] 9)).heap[w.heap.size + 1]? = some (.cells #[.string ⟨s.toArray⟩] 9 (0, 0)) := blkAt _ _ (by simp [hw0])
              refine step_appN (T := fun _ => True) (base := w.heap.size) (xs := ([] : List Bs)) (ys := l.take k) rfl _ _ eltStr rfl (by decide) rfl rfl rfl (Own.emp (blkOld (blkAt _ _ rfl) _) (Nat.le_refl _)) rfl (((HL.out.below (belowA (belowA hS _) _)).take (by omega)).wide (fun q hq hs => ⟨trivial, fun e => absurd (show w.heap.size = q by injection e) (by have := hs.2; omega)⟩) (by decide)) (by simp; omega) (by simp; omega) (by simp [hw0]; omega) ?_
              intro A4 c4 X5 hown5 hg4 hat4
              have hbel5 : Below w.heap.size w X5 := (belowA (belowA hS _) _).grown hg4 (by simp [hw0]; omega) (fun q hq => by injection hq with hq; have hq : w.heap.size = q := hq; omega)
              have hb05 := grownBlk hg4 hb00 (fun e => by injection e with e; have e : w.heap.size = w.heap.size + 1 := e; omega)
              refine hK'.out _ _ hbel5 ?_
              clear hK' K' hg4 hat4 hb00
          case' or1b =>
            intro K' hK'
            go_simp
            refine hK'.out _ _ (belowA hS _) ?_
            clear hK' K'
            refine wpAnyH_one 0 (by kernel_rfl) rfl ?_
            intro K' hK'
            go_simp
            refine hK'.out _ _ (belowA (belowA hS _) _) ?_
            clear hK' K'
            refine wpAnyH_one 4 (by kernel_rfl) rfl ?_
            intro K' hK'
            have hb00 := blkOld (blkAt w.drew (.cells #[.string ⟨s.toArray⟩] 9) rfl) (.cells #[] 9)
            refine step_appN (T := fun _ => True) (base := w.heap.size) (xs := ([] : List Bs)) (ys := l.take k) rfl _ _ eltStr rfl (by decide) rfl rfl rfl (Own.emp (blkAt _ _ (by simp [hw0])) (by simp [hw0])) rfl (((HL.out.below (belowA (belowA hS _) _)).take (by omega)).wide (fun q hq hs => ⟨trivial, fun e => absurd (show w.heap.size + 1 = q by injection e) (by have := hs.2; omega)⟩) (by decide)) (by simp; omega) (by simp; omega) (by simp [hw0]; omega) ?_
            intro A4 c4 X5 hown5 hg4 hat4
            have hbel5 : Below w.heap.size w X5 := (belowA (belowA hS _) _).grown hg4 (by simp [hw0]; omega) (fun q hq => by injection hq with hq; have hq : w.heap.size + 1 = q := hq; omega)
            have hb05 := grownBlk hg4 hb00 (fun e => by injection e with e; have e : w.heap.size + 1 = w.heap.size := e; omega)
            refine hK'.out _ _ hbel5 ?_
            clear hK' K' hg4 hat4 hb00
          all_goals
            refine wpAnyH_one 7 (by kernel_rfl) rfl ?_
            intro K' hK'
            refine step_app1 (T := fun _ => True) (base := w.heap.size) (xs := [] ++ l.take k) rfl _ _ eltStr rfl (by decide) rfl rfl (by simp; omega) hown5 rfl [.string ⟨s.toArray⟩] s hb05 rfl rfl (by simp; omega) (by simp; omega) hbel5.size ?_
            intro A6 c6 w6 hown6 hg6 hat6
            have hb6 : Below w.heap.size w w6 := hbel5.grown hg6 hbel5.size (fun q hq => (hown5.lt q hq).1)
            refine hK'.out _ _ hb6 ?_
            clear hK' K' hg6 hat6 hown5 hb05 hbel5
            refine wpAnyH_one 11 (by kernel_rfl) rfl ?_
            intro K' hK'
            refine step_appN (T := fun _ => True) (base := w.heap.size) (xs := [] ++ l.take k ++ [s]) (ys := l.drop k) rfl _ _ eltStr rfl (by decide) rfl rfl (by simp; omega) hown6 rfl ((HCUT _ hb6).wide (fun q hq hs => ⟨trivial, fun e => by have := (hown6.lt q e).1; have := hs.2; omega⟩) (by decide)) (by simp; omega) (by simp; omega) hb6.size ?_
            intro A7 c7 w7 hown7 hg7 hat7
            have hb7 : Below w.heap.size w w7 := hb6.grown hg7 hb6.size (fun q hq => (hown6.lt q hq).1)
            refine hK'.out _ _ hb7 ?_
            clear hK' K' hg7 hat7 hown6 hb6
            refine wpAnyH_one 12 (by kernel_rfl) rfl ?_
            intro K' hK'
            go_simp
            refine hK'.out _ _ hb7 ?_
            clear hK' K'
            refine wpAnyH_done (by kernel_rfl) ?_ _
            have hnn : 0 + k + 1 + (l.length - k) = v.length := by rw [HV.out]; simp; omega
            have hve : [] ++ l.take k ++ [s] ++ l.drop k = v := by rw [HV.out]; simp
            rw [hve] at hown7
            go_wp2_with fail
            all_goals go_ret
            all_goals refine ⟨A7, c7, (by rw [show v.length = k + 1 + (l.length - k) by omega]; rfl), ?_, hb7⟩
            all_goals exact ((hown7.strT (T' := fun _ => False)).sl (by decide)).wide (fun q _ hq => hq.elim False.elim (fun hq => .inr (hown7.lt q hq).1)) (by decide)
      · rw [hlb, if_pos rfl] at hd
        have hbl : Op.bytesLess x s = true := by rw [less_ltB, hlb]
        have HD := Lib.hid (show v = l.take (k + 1) ++ insB s (l.drop (k + 1)) by rw [hd, htk]; simp)
        clear hd hf htk hdg hlb hins
        go_wp2_with fail
        go_round
        case rel => exact ⟨k + 1, by omega, by go_num, HD⟩
        case measure => simp [intOf]; omega
    · rw [drop_end hlt, insB] at hd
      have hv : v = l.take k ++ s :: l.drop k := by rw [hd, drop_end hlt]
      have HV := Lib.hid hv
      clear hd hf hins hv
      go_wp2_with fail
      refine wpH_region (fun x => Below w.heap.size w x) (by kernel_rfl) ?_
      have hS : Below w.heap.size w w.drew := (Below.refl _ _).drew
      have HX := Lib.hid (fun (x : World) (hx : Below w.heap.size w x) => hx.size)
      (refine wpAnyH_takeW 1 rfl rfl (by kernel_rfl) (by kernel_rfl) (by kernel_rfl) (fun _ _ _ h => h) (v := ?_) (by kernel_rfl) hS ?_ ?_; rotate_left; (focus (intro x hx; have fx := HX.out x hx; go_simp; (try with_reducible rfl); done)); (try simp only [Act.put, List.setIfInBounds_toArray, List.set_cons_zero, List.set_cons_succ]))
      (refine wpAnyH_takeW 2 rfl rfl (by kernel_rfl) (by kernel_rfl) (by kernel_rfl) (fun _ _ _ h => h) (v := ?_) (by kernel_rfl) hS ?_ ?_; rotate_left; (focus (intro x hx; have fx := HX.out x hx; go_simp; (try with_reducible rfl); done)); (try simp only [Act.put, List.setIfInBounds_toArray, List.set_cons_zero, List.set_cons_succ]))
      refine wpAnyH_takeW 3 rfl rfl (by kernel_rfl) (by kernel_rfl) (by kernel_rfl) (fun _ _ _ h => h) (v := .slice (A) k c) (by kernel_rfl) hS (fun x hx => by have := sliceStr_to (A) l.length c k (by omega) x; go_simp; done) ?_
      simp only [Act.put, List.setIfInBounds_toArray, List.set_cons_zero, List.set_cons_succ]
      (refine wpAnyH_takeW 5 rfl rfl (by kernel_rfl) (by kernel_rfl) (by kernel_rfl) (fun _ _ _ h => h) (v := ?_) (by kernel_rfl) hS ?_ ?_; rotate_left; (focus (intro x hx; have fx := HX.out x hx; go_simp; (try with_reducible rfl); done)); (try simp only [Act.put, List.setIfInBounds_toArray, List.set_cons_zero, List.set_cons_succ]))
      (refine wpAnyH_takeW 8 rfl rfl (by kernel_rfl) (by kernel_rfl) (by kernel_rfl) (fun _ _ _ h => h) (v := ?_) (by kernel_rfl) hS ?_ ?_; rotate_left; (focus (intro x hx; have fx := HX.out x hx; go_simp; (try with_reducible rfl); done)); (try simp only [Act.put, List.setIfInBounds_toArray, List.set_cons_zero, List.set_cons_succ]))
      (refine wpAnyH_takeW 9 rfl rfl (by kernel_rfl) (by kernel_rfl) (by kernel_rfl) (fun _ _ _ h => h) (v := ?_) (by kernel_rfl) hS ?_ ?_; rotate_left; (focus (intro x hx; have fx := HX.out x hx; go_simp; (try with_reducible rfl); done)); (try simp only [Act.put, List.setIfInBounds_toArray, List.set_cons_zero, List.set_cons_succ]))
      refine wpAnyH_takeW 10 rfl rfl (by kernel_rfl) (by kernel_rfl) (by kernel_rfl) (fun _ _ _ h => h) (v := .slice (if c = k then A else Option.map (fun x => x.add k) A) (l.length - k) (c - k)) (by kernel_rfl) hS (fun x hx => by have := sliceStr_from (A) l.length c k (by omega) x; go_simp; done) ?_
      simp only [Act.put, List.setIfInBounds_toArray, List.set_cons_zero, List.set_cons_succ]
      have hw0 : w.drew.heap.size = w.heap.size := rfl
      have HCUT : ∀ x, Below w.heap.size w x → Sl x (fun b => S b ∧ b < w.heap.size) (if c = k then A else Option.map (fun x => x.add k) A) (l.length - k) (c - k) (l.drop k) := fun x hx => by have := (HL.out.below hx).cut hk; simpa [add_plain, GoT.size] using this
      refine wpAnyH_two 0 6 (by kernel_rfl) rfl rfl ?or2a ?or2b
      case' or2a =>
        intro K' hK'
        go_simp
        refine hK'.out _ _ (belowA hS _) ?_
        clear hK' K'
        refine wpAnyH_two 4 6 (by kernel_rfl) rfl rfl ?or2aa ?or2ab
        case' or2aa =>
          intro K' hK'
          refine step_appN (T := fun _ => True) (base := w.heap.size) (xs := ([] : List Bs)) (ys := l.take k) rfl _ _ eltStr rfl (by decide) rfl rfl rfl (Own.emp (blkAt _ _ rfl) (Nat.le_refl _)) rfl (((HL.out.below (belowA hS _)).take (by omega)).wide (fun q hq hs => ⟨trivial, fun e => absurd (show w.heap.size = q by injection e) (by have := hs.2; omega)⟩) (by decide)) (by simp; omega) (by simp; omega) (by simp [hw0]) ?_
          intro A4 c4 w4 hown4 hg4 hat4
          have hb4 : Below w.heap.size w w4 := (belowA hS _).grown hg4 (by simp [hw0]) (fun q hq => by injection hq with hq; have hq : w.heap.size = q := hq; omega)
          refine hK'.out _ _ hb4 ?_
          clear hK' K'
          refine wpAnyH_one 6 (by kernel_rfl) rfl ?_
          intro K' hK'
          go_simp
          have hbel5 : Below w.heap.size w (w4.alloc (.cells #[.string ⟨s.toArray⟩] 9)) := belowA hb4 _
          have hown5 := hown4.alloc (.cells #[.string ⟨s.toArray⟩] 9)
          have hb05 := blkAt w4 (.cells #[.string ⟨s.toArray⟩] 9) rfl
          refine hK'.out _ _ hbel5 ?_
          clear hK' K' hown4 hg4 hat4 hb4
          generalize w4.alloc (.cells #[.string ⟨s.toArray⟩] 9) = X5 at *
        case' or2ab =>
          intro K' hK'
          go_simp
          refine hK'.out _ _ (belowA (belowA hS _) _) ?_
          clear hK' K'
          refine wpAnyH_one 4 (by kernel_rfl) rfl ?_
          intro K' hK'
          have hb00 : ((w.drew.alloc (.cells #[] 9)).alloc (.cells #[.string ⟨s.toArray⟩] 9)).heap[w.heap.size + 1]? = some (.cells #[.string ⟨s.toArray⟩] 9 (0, 0)) := blkAt _ _ (by simp [hw0])
          refine step_appN (T := fun _ => True) (base := w.heap.size) (xs := ([] : List Bs)) (ys := l.take k) rfl _ _ eltStr rfl (by decide) rfl rfl rfl (Own.emp (blkOld (blkAt _ _ rfl) _) (Nat.le_refl _)) rfl (((HL.out.below (belowA (belowA hS _) _)).take (by omega)).wide (fun q hq hs => ⟨trivial, fun e => absurd (show w.heap.size = q by injection e) (by have := hs.2; omega)⟩) (by decide)) (by simp; omega) (by simp; omega) (by simp [hw0]; omega) ?_
          intro A4 c4 X5 hown5 hg4 hat4
          have hbel5 : Below w.heap.size w X5 := (belowA (belowA hS _) _).grown hg4 (by simp [hw0]; omega) (fun q hq => by injection hq with hq; have hq : w.heap.size = q := hq; omega)
          have hb05 := grownBlk hg4 hb00 (fun e => by injection e with e; have e : w.heap.size = w.heap.size + 1 := e; omega)
          refine hK'.out _ _ hbel5 ?_
          clear hK' K' hg4 hat4 hb00
      case' or2b =>
        intro K' hK'
        go_simp
        refine hK'.out _ _ (belowA hS _) ?_
        clear hK' K'
        refine wpAnyH_one 0 (by kernel_rfl) rfl ?_
        intro K' hK'
        go_simp
        refine hK'.out _ _ (belowA (belowA hS _) _) ?_
        clear hK' K'
        refine wpAnyH_one 4 (by kernel_rfl) rfl ?_
        intro K' hK'
        have hb00 := blkOld (blkAt w.drew (.cells #[.string ⟨s.toArray⟩] 9) rfl) (.cells #[] 9)
        refine step_appN (T := fun _ => True) (base := w.heap.size) (xs := ([] : List Bs)) (ys := l.take k) rfl _ _ eltStr rfl (by decide) rfl rfl rfl (Own.emp (blkAt _ _ (by simp [hw0])) (by simp [hw0])) rfl (((HL.out.below (belowA (belowA hS _) _)).take (by omega)).wide (fun q hq hs => ⟨trivial, fun e => absurd (show w.heap.size + 1 = q by injection e) (by have := hs.2; omega)⟩) (by decide)) (by simp; omega) (by simp; omega) (by simp [hw0]; omega) ?_
        intro A4 c4 X5 hown5 hg4 hat4
        have hbel5 : Below w.heap.size w X5 := (belowA (belowA hS _) _).grown hg4 (by simp [hw0]; omega) (fun q hq => by injection hq with hq; have hq : w.heap.size + 1 = q := hq; omega)
        have hb05 := grownBlk hg4 hb00 (fun e => by injection e with e; have e : w.heap.size + 1 = w.heap.size := e; omega)
        refine hK'.out _ _ hbel5 ?_
        clear hK' K' hg4 hat4 hb00
      all_goals
        refine wpAnyH_one 7 (by kernel_rfl) rfl ?_
        intro K' hK'
        refine step_app1 (T := fun _ => True) (base := w.heap.size) (xs := [] ++ l.take k) rfl _ _ eltStr rfl (by decide) rfl rfl (by simp; omega) hown5 rfl [.string ⟨s.toArray⟩] s hb05 rfl rfl (by simp; omega) (by simp; omega) hbel5.size ?_
        intro A6 c6 w6 hown6 hg6 hat6
        have hb6 : Below w.heap.size w w6 := hbel5.grown hg6 hbel5.size (fun q hq => (hown5.lt q hq).1)
        refine hK'.out _ _ hb6 ?_
        clear hK' K' hg6 hat6 hown5 hb05 hbel5
        refine wpAnyH_one 11 (by kernel_rfl) rfl ?_
        intro K' hK'
        refine step_appN (T := fun _ => True) (base := w.heap.size) (xs := [] ++ l.take k ++ [s]) (ys := l.drop k) rfl _ _ eltStr rfl (by decide) rfl rfl (by simp; omega) hown6 rfl ((HCUT _ hb6).wide (fun q hq hs => ⟨trivial, fun e => by have := (hown6.lt q e).1; have := hs.2; omega⟩) (by decide)) (by simp; omega) (by simp; omega) hb6.size ?_
        intro A7 c7 w7 hown7 hg7 hat7
        have hb7 : Below w.heap.size w w7 := hb6.grown hg7 hb6.size (fun q hq => (hown6.lt q hq).1)
        refine hK'.out _ _ hb7 ?_
        clear hK' K' hg7 hat7 hown6 hb6
        refine wpAnyH_one 12 (by kernel_rfl) rfl ?_
        intro K' hK'
        go_simp
        refine hK'.out _ _ hb7 ?_
        clear hK' K'
        refine wpAnyH_done (by kernel_rfl) ?_ _
        have hnn : 0 + k + 1 + (l.length - k) = v.length := by rw [HV.out]; simp; omega
        have hve : [] ++ l.take k ++ [s] ++ l.drop k = v := by rw [HV.out]; simp
        rw [hve] at hown7
        go_wp2_with fail
        all_goals go_ret
        all_goals refine ⟨A7, c7, (by rw [show v.length = k + 1 + (l.length - k) by omega]; rfl), ?_, hb7⟩
        all_goals exact ((hown7.strT (T' := fun _ => False)).sl (by decide)).wide (fun q _ hq => hq.elim False.elim (fun hq => .inr (hown7.lt q hq).1)) (by decide)
end Go.Proofs.YtjopmgoacncmgaaGreatDoor
