/- Rules: how many names the strata of a few rules hold. Plain law. -/
import Derived.Test.YtjopmgoacncmgaaGreatDoorKA1
import Derived.Test.YtjopmgoacncmgaaGreatDoorKZ1
import Derived.Test.YtjopmgoacncmgaaGreatDoorKF2
set_option linter.unusedVariables false
set_option linter.unusedSimpArgs false
namespace Go.Proofs.YtjopmgoacncmgaaGreatDoor
open Go.RowKit

def sumLen : List (List Bs) → Nat
  | [] => 0
  | l :: r => l.length + sumLen r
set_option maxRecDepth 100000 in
set_option maxHeartbeats 2000000 in
theorem level_any (A : Option Addr) (n c : Nat) (R : List (List Bs)) (s : Bs) (w : World) (S : Nat → Prop) (hl : Sl w S A n c R) (hb : sumLen R ≤ 1000000) :
    Calls Tryz.prog 28 #[.slice A n c, .string ⟨s.toArray⟩] w fun e w' => e = .returned (.int .i64 (levelOf R s)) ∧ w' = w := by
  obtain ⟨v, hv⟩ : ∃ v, v = levelOf R s := ⟨_, rfl⟩
  rw [← hv]
  unfold levelOf at hv
  simp only at hv
  obtain ⟨P, hP⟩ : ∃ P, P = lvlGo s R 0 (-1, 0) := ⟨_, rfl⟩
  rw [← hP] at hv
  have hn := hl.len
  subst hn
  have hle := hl.le
  have HV := Lib.hid hv
  have HF : Hid (P = lvlGo s (R.drop 0) ((0 : Nat) : Int) (-1, ((0 : Nat) : Int))) := hP
  have hb0 : 0 + sumLen (R.drop 0) ≤ 1000000 := by rw [List.drop_zero]; omega
  have HB := Lib.hid hb0
  have HL := Lib.hid hl; clear hv hP hl hb hb0
  go_enter Tryz.func28, Tryz.ntmps28
  go_wp2_with fail
  go_loop [5, 6, 13] (fun a b i => ∃ k : Nat, k ≤ R.length ∧ i = .int .i64 k ∧ ∃ (lv : Int) (fd : Nat), a = .int .i64 lv ∧ b = .int .i64 fd ∧ fd + sumLen (R.drop k) ≤ 1000000 ∧ Hid (P = lvlGo s (R.drop k) k (lv, (fd : Int)))) (fun _ _ i => R.length - (intOf i).toNat)
  case atStart => exact ⟨0, by omega, rfl, -1, 0, rfl, rfl, HB.out, HF⟩
  case round =>
    obtain ⟨k, hk, rfl, lv, fd, rfl, rfl, hs, hf⟩ := hrel
    by_cases hlt : k < R.length
    · obtain ⟨b1, o1, rfl, -, hbs1, A1, m1, d1, h1, r1⟩ := HL.out.row hlt
      have hd := hf.out
      rw [drop_get hlt, lvlGo] at hd
      rw [drop_get hlt, sumLen] at hs
      generalize R[k] = row at *
      have hm := r1.len
      subst hm
      have hle1 := r1.le
      have HR1 := Lib.hid r1
      have HD : Hid (P = lvlGo s (R.drop (k + 1)) ((k : Int) + 1) (lvlOne s k (row.drop 0) (lv, (fd : Int)))) := hd
      have HS : Hid (fd + (row.drop 0).length + sumLen (R.drop (k + 1)) ≤ 1000000) := by show _ ≤ _; rw [List.drop_zero]; omega
      clear hd hf r1 hs
      go_wp2_with fail
      go_loop [5, 6, 20] (fun a b i => ∃ q : Nat, q ≤ row.length ∧ i = .int .i64 q ∧ ∃ (lv : Int) (fd : Nat), a = .int .i64 lv ∧ b = .int .i64 fd ∧ Hid (fd + (row.drop q).length + sumLen (R.drop (k + 1)) ≤ 1000000) ∧ Hid (P = lvlGo s (R.drop (k + 1)) ((k : Int) + 1) (lvlOne s k (row.drop q) (lv, (fd : Int))))) (fun _ _ i => row.length - (intOf i).toNat)
      case atStart => exact ⟨0, by omega, rfl, lv, fd, rfl, rfl, HS, HD⟩
      case round =>
        obtain ⟨q, hq, rfl, lv2, fd2, rfl, rfl, hs2, hf2⟩ := hrel
        by_cases hlq : q < row.length
        · obtain ⟨b2, o2, rfl, -, hbs2, g1⟩ := HR1.out.str hlq
          have hd := hf2.out
          rw [drop_get hlq, lvlOne] at hd
          have hs := hs2.out
          rw [drop_get hlq, List.length_cons] at hs
          generalize row[q] = nm at *
          by_cases he : nm = s
          · have heb : (nm == s) = true := by simpa using he
            rw [heb, if_pos rfl] at hd
            have HD2 := Lib.hid hd; have HS2 := Lib.hid hs; have hfd : fd2 + 1 ≤ 1000000 := by omega
            clear hd hs hs2 hf2
            go_wp2_with fail
            go_round
            case rel =>
              exact ⟨q + 1, by omega, by go_num, (k : Int), fd2 + 1, rfl, by go_num, Lib.hid (by have := HS2.out; omega), Lib.hid (by rw [HD2.out]; push_cast; rfl)⟩
            case measure => simp [intOf]; omega
          · have heb : (nm == s) = false := by simpa using he
            rw [heb, if_neg (by simp)] at hd
            have HD2 := Lib.hid hd; have HS2 := Lib.hid hs
            clear hd hs hs2 hf2
            go_wp2_with fail
            go_round
            case rel =>
              exact ⟨q + 1, by omega, by go_num, lv2, fd2, rfl, rfl, Lib.hid (by have := HS2.out; omega), HD2⟩
            case measure => simp [intOf]; omega
        · have hd := hf2.out
          rw [drop_end hlq, lvlOne] at hd
          have hs := hs2.out
          rw [drop_end hlq, List.length_nil] at hs
          have HD2 := Lib.hid hd; clear hd hf2 hs2
          go_wp2_with fail
          go_round
          case rel =>
            exact ⟨k + 1, by omega, by go_num, lv2, fd2, rfl, rfl, by omega, Lib.hid (by rw [HD2.out]; push_cast; rfl)⟩
          case measure => simp [intOf]; omega
    · have hd := hf.out
      rw [drop_end hlt, lvlGo] at hd
      rw [hd] at HV
      by_cases h1 : fd = 1
      · subst h1
        have HW := Lib.hid (show v = lv by rw [HV.out]; simp)
        clear hd hf HV
        go_wp2_with fail
        go_ret
        exact ⟨ret_int HW.out, rfl⟩
      · have HW := Lib.hid (show v = -1 by rw [HV.out]; simp; omega)
        have h1b : ((fd : Int) == 1) = false := by simp; omega
        clear hd hf HV
        go_wp2_with fail
        go_ret
        exact ⟨ret_int HW.out, rfl⟩
end Go.Proofs.YtjopmgoacncmgaaGreatDoor

namespace Go.Proofs.YtjopmgoacncmgaaGreatDoor
open Go.RowKit

set_option maxHeartbeats 1000000 in
theorem less_any (a b : Bs) (w : World) : Calls Tryz.prog 68 #[.string ⟨a.toArray⟩, .string ⟨b.toArray⟩] w fun e w' => e = .returned (.bool (ltB a b)) ∧ w' = w := by
  rw [← less_ltB]
  have H := Lib.hid nanS_any
  go_enter Tryz.func68, Tryz.ntmps68
  go_wp2_with fail
  refine (H.out a _).mono ?_
  rintro e w1 ⟨rfl, rfl⟩
  go_wp2_with fail
  all_goals go_ret
  all_goals first | exact ⟨rfl, rfl⟩ | simp_all
set_option maxRecDepth 100000 in
set_option maxHeartbeats 2000000 in
theorem isSorted_any (A : Option Addr) (n c : Nat) (l : List Bs) (w : World) (S : Nat → Prop) (hl : Sl w S A n c l) (hs : SortB l) :
    Calls Tryz.prog 27 #[.slice A n c] w fun e w' => e = .returned (.bool true) ∧ Below w.heap.size w w' := by
  have hn := hl.len
  subst hn
  have hle := hl.le
  have HL := Lib.hid hl; have HS := Lib.hid hs; clear hl hs
  go_enter Tryz.func27, Tryz.ntmps27
  go_wp2_with fail
  go_loopw [3] (fun i wr => ∃ k : Nat, k ≤ l.length ∧ i = .int .i64 ((k : Int) - 1) ∧ Below w.heap.size w wr) (fun i _ => (intOf i + 1).toNat)
  case atStart => exact ⟨l.length, by omega, rfl, Below.refl _ _⟩
  case round =>
    obtain ⟨k, hk, rfl, hb⟩ := hrel
    by_cases h1 : 2 ≤ k
    · obtain ⟨j, rfl⟩ : ∃ j, k = j + 2 := ⟨k - 2, by omega⟩
      obtain ⟨b1, o1, rfl, -, hbs1, g1⟩ := (HL.out.below hb).str (k := j + 1) (by omega)
      obtain ⟨_, _, hA, -, _, g0⟩ := (HL.out.below hb).str (k := j) (by omega)
      obtain ⟨rfl, rfl⟩ : b1 = _ ∧ o1 = _ := by simpa using hA
      have hlt : ltB l[j] l[j + 1] = true := (List.pairwise_iff_getElem.1 HS.out) j (j + 1) (by omega) (by omega) (by omega)
      have hno := ltB_asym hlt
      generalize l[j] = p at *
      generalize l[j + 1] = q at *
      have hle3 := less_any q p
      rw [hno] at hle3
      have HC := Lib.hid hle3
      have ej : ((j + 2 : Nat) : Int) - 1 = ((j + 1 : Nat) : Int) := by omega
      rw [ej]
      have HX := Lib.hid (fun (x : World) (hx : Below wr.heap.size wr x) => And.intro (cell_later hx g0) (cell_later hx g1))
      have HB := Lib.hid hb
      clear hb g0 g1 hle3 hno hlt hA
      have jI : (0 : Int) < ((j + 1 : Nat) : Int) := by omega
      have c1 : (0 : Int) ≤ (j : Int) + 1 := by omega
      have c2 : (j : Int) + 1 < (l.length : Int) := by omega
      have c4 : (j : Int) < (l.length : Int) := by omega
      have c5 : j < l.length := by omega
      have c6 : j + 1 < l.length := by omega
      have hw : IntKind.i64.wrap (j : Int) = (j : Int) := by first | go_num | (simp [IntKind.wrap, IntKind.signed, IntKind.bits]; omega)
      go_wp2_with fail
      refine wpH_region (fun x => Below wr.heap.size wr x) (by kernel_rfl) ?_
      have hS : Below wr.heap.size wr wr.drew := (Below.refl _ _).drew
      (refine wpAnyH_takeW 0 rfl rfl (by kernel_rfl) (by kernel_rfl) (by kernel_rfl) (fun _ _ _ h => h) (v := ?_) (by kernel_rfl) hS ?_ ?_; rotate_left; (focus (intro x hx; have fx := HX.out x hx; go_simp; (try with_reducible rfl); done)); (try simp only [Act.put, List.setIfInBounds_toArray, List.set_cons_zero, List.set_cons_succ]))
      (refine wpAnyH_takeW 1 rfl rfl (by kernel_rfl) (by kernel_rfl) (by kernel_rfl) (fun _ _ _ h => h) (v := ?_) (by kernel_rfl) hS ?_ ?_; rotate_left; (focus (intro x hx; have fx := HX.out x hx; go_simp; (try with_reducible rfl); done)); (try simp only [Act.put, List.setIfInBounds_toArray, List.set_cons_zero, List.set_cons_succ]))
      (refine wpAnyH_takeW 2 rfl rfl (by kernel_rfl) (by kernel_rfl) (by kernel_rfl) (fun _ _ _ h => h) (v := ?_) (by kernel_rfl) hS ?_ ?_; rotate_left; (focus (intro x hx; have fx := HX.out x hx; go_simp; (try with_reducible rfl); done)); (try simp only [Act.put, List.setIfInBounds_toArray, List.set_cons_zero, List.set_cons_succ]))
      (refine wpAnyH_takeW 3 rfl rfl (by kernel_rfl) (by kernel_rfl) (by kernel_rfl) (fun _ _ _ h => h) (v := ?_) (by kernel_rfl) hS ?_ ?_; rotate_left; (focus (intro x hx; have fx := HX.out x hx; go_simp; (try with_reducible rfl); done)); (try simp only [Act.put, List.setIfInBounds_toArray, List.set_cons_zero, List.set_cons_succ]))
      (refine wpAnyH_takeW 4 rfl rfl (by kernel_rfl) (by kernel_rfl) (by kernel_rfl) (fun _ _ _ h => h) (v := ?_) (by kernel_rfl) hS ?_ ?_; rotate_left; (focus (intro x hx; have fx := HX.out x hx; go_simp; (try with_reducible rfl); done)); (try simp only [Act.put, List.setIfInBounds_toArray, List.set_cons_zero, List.set_cons_succ]))
      (refine wpAnyH_takeW 5 rfl rfl (by kernel_rfl) (by kernel_rfl) (by kernel_rfl) (fun _ _ _ h => h) (v := ?_) (by kernel_rfl) hS ?_ ?_; rotate_left; (focus (intro x hx; have fx := HX.out x hx; go_simp; (try with_reducible rfl); done)); (try simp only [Act.put, List.setIfInBounds_toArray, List.set_cons_zero, List.set_cons_succ]))
      (refine wpAnyH_takeW 6 rfl rfl (by kernel_rfl) (by kernel_rfl) (by kernel_rfl) (fun _ _ _ h => h) (v := ?_) (by kernel_rfl) hS ?_ ?_; rotate_left; (focus (intro x hx; have fx := HX.out x hx; go_simp; (try with_reducible rfl); done)); (try simp only [Act.put, List.setIfInBounds_toArray, List.set_cons_zero, List.set_cons_succ]))
      (refine wpAnyH_takeW 7 rfl rfl (by kernel_rfl) (by kernel_rfl) (by kernel_rfl) (fun _ _ _ h => h) (v := ?_) (by kernel_rfl) hS ?_ ?_; rotate_left; (focus (intro x hx; have fx := HX.out x hx; go_simp; (try with_reducible rfl); done)); (try simp only [Act.put, List.setIfInBounds_toArray, List.set_cons_zero, List.set_cons_succ]))
      (refine wpAnyH_takeW 8 rfl rfl (by kernel_rfl) (by kernel_rfl) (by kernel_rfl) (fun _ _ _ h => h) (v := ?_) (by kernel_rfl) hS ?_ ?_; rotate_left; (focus (intro x hx; have fx := HX.out x hx; go_simp; (try with_reducible rfl); done)); (try simp only [Act.put, List.setIfInBounds_toArray, List.set_cons_zero, List.set_cons_succ]))
      (refine wpAnyH_one 9 (by kernel_rfl) rfl ?_; intro K' hK'; go_simp; refine (HC.out _).mono ?_; rintro e w5 ⟨rfl, rfl⟩; refine hK'.out _ _ hS ?_; clear hK' K')
      refine wpAnyH_done (by kernel_rfl) ?_ _
      go_wp2_with fail
      go_roundw
      case rel => exact ⟨j + 1, by omega, by go_num, HB.out.trans (hS.mono HB.out.size)⟩
      case measure => simp [intOf]; omega
    · have h1I : ¬ (0 : Int) < (k : Int) - 1 := by omega
      go_wp2_with fail
      go_ret
      exact ⟨rfl, hb⟩
end Go.Proofs.YtjopmgoacncmgaaGreatDoor

namespace Go.Proofs.YtjopmgoacncmgaaGreatDoor
open Go.RowKit

set_option maxHeartbeats 1000000 in
theorem cp_any (A : Option Addr) (n c : Nat) (l : List Rul) (w : World) (S : Nat → Prop) (hl : Sl w S A n c l) (hlen : l.length ≤ 1000) :
    Calls Tryz.prog 18 #[.slice A n c] w fun e w' => ∃ A' c', e = .returned (.slice A' l.length c') ∧ Sl w' (fun _ => True) A' l.length c' l ∧ Below w.heap.size w w' := by
  have hn := hl.len
  subst hn
  have hle := hl.le
  have HL := Lib.hid hl; clear hl
  go_enter Tryz.func18, Tryz.ntmps18
  go_wp2_with (at_builtin; refine wpList_appN (e := 48) (T := fun _ => True) (base := w.heap.size) (xs := ([] : List Rul)) rfl (.tmp 3) (.tmp 4) eltRul rfl (by decide) rfl rfl rfl (Own.emp (blkAt _ _ rfl) (Nat.le_refl _)) rfl ((HL.out.wide (fun k hk1 hk => ⟨trivial, fun e => by injection e with e; exact absurd e (by have := hk1; simp only; omega)⟩) (by decide)).alloc _) (by simp; omega) (by simp; omega) (by simp) ?_; intro A' c' w2 hown' hg hat)
  go_ret
  refine ⟨A', c', by simp, ?_, boxed.grown hg (by simp) (fun k hk => by have hk : some w.heap.size = some k := hk; injection hk with hk; omega)⟩
  have h2 := (hown'.sl (by decide)).wide (S' := fun _ => True) (fun k _ hk => trivial) (by decide)
  simpa using h2
end Go.Proofs.YtjopmgoacncmgaaGreatDoor

namespace Go.Proofs.YtjopmgoacncmgaaGreatDoor

theorem sumLen_app (a b : List (List Bs)) : sumLen (a ++ b) = sumLen a + sumLen b := by
  induction a with
  | nil => simp [sumLen]
  | cons x r ih => simp [sumLen, ih]; omega
theorem sumLen_rep (n : Nat) : sumLen (List.replicate n []) = 0 := by
  induction n with
  | zero => rfl
  | succ n ih => rw [List.replicate_succ, sumLen, ih]; rfl
theorem sumLen_set (o : List (List Bs)) (s : Bs) : ∀ k, k < o.length → sumLen (o.set k (o.getD k [] ++ [s])) = sumLen o + 1 := by
  induction o with
  | nil => intro k h; simp at h
  | cons x r ih =>
    intro k h
    cases k with
    | zero => simp [sumLen]; omega
    | succ k =>
      have := ih k (by simpa using h)
      simp only [List.set_cons_succ, List.getD_cons_succ, sumLen, this]
      omega
theorem sumLen_strGo (m : KMap) (names : List Bs) : ∀ out, sumLen (strGo m out names) = sumLen out + names.length := by
  induction names with
  | nil => intro out; rfl
  | cons s r ih =>
    intro out
    rw [strGo]
    rw [ih, sumLen_set _ _ _ (by simp; omega), sumLen_app, sumLen_rep, List.length_cons]
    omega
theorem insB_le (s : Bs) (l : List Bs) : (insB s l).length ≤ l.length + 1 := by
  induction l with
  | nil => simp [insB]
  | cons a r ih =>
    rw [insB]
    split
    · simp only [List.length_cons]; omega
    · split <;> simp
theorem sortB_le (l : List Bs) : (sortB l).length ≤ l.length := by
  induction l with
  | nil => simp [sortB]
  | cons a r ih => rw [sortB]; have := insB_le a (sortB r); simp only [List.length_cons]; omega
theorem setK_le (m : KMap) (s : Bs) (v : Int) : (setK m s v).length ≤ m.length + 1 := by
  rw [len_keys, keys_set, len_keys]
  split
  · omega
  · simp
theorem initA_le (aa : List Atm) : ∀ m : KMap, (initA m aa).length ≤ m.length + aa.length := by
  induction aa with
  | nil => intro m; simp [initA]
  | cons a r ih => intro m; rw [initA]; have := ih (setK m a.name 0); have := setK_le m a.name 0; simp only [List.length_cons]; omega
theorem atomsS_le (r : Rul) : (atomsS r).length ≤ 1 + r.body.length := by
  unfold atomsS
  have := List.length_filter_le (fun l => !compsS l) r.body
  simp only [List.length_cons, List.length_map]
  omega
theorem initR_le (l : List Rul) (hf : l.all fewR = true) : ∀ m : KMap, (initR m l).length ≤ m.length + 9 * l.length := by
  induction l with
  | nil => intro m; simp [initR]
  | cons r t ih =>
    intro m
    simp only [List.all_cons, Bool.and_eq_true] at hf
    rw [initR]
    have h1 := ih hf.2 (initA m (atomsS r))
    have h2 := initA_le (atomsS r) m
    have h3 := atomsS_le r
    have h4 := hf.1
    simp only [fewR, Bool.and_eq_true, decide_eq_true_eq] at h4
    simp only [List.length_cons]
    omega
theorem strata_small (l : List Rul) (h : fewS l 10 = true) : sumLen (strataS l).1 ≤ 1000000 := by
  simp only [fewS, Bool.and_eq_true, decide_eq_true_eq] at h
  unfold strataS
  simp only
  split
  · simp [sumLen]
  · cases hm : levelsS l with
    | none => simp [sumLen]
    | some m =>
      simp only
      rw [sumLen_strGo]
      have h1 := sortB_le (m.map (·.1))
      have h2 : m.length = (initR [] l).length := by rw [len_keys, len_keys (initR [] l), (levels_law l m hm).1]
      have h3 := initR_le l h.2 []
      simp only [List.length_map] at h1
      simp only [sumLen, List.length_nil] at h3 ⊢
      omega
end Go.Proofs.YtjopmgoacncmgaaGreatDoor
