/- A part of the proofs of the laws of one package; see the law's own text, which comes last in 'order'. No conditions of its own. -/
import Derived.Shelf.Strings.SlTrimAscii
import Derived.Lib.AtoiTie
import Derived.OrdersHeld
import Derived.StillTail
import Derived.Deep.RegionHeld
import Derived.Test.YtpeamehplhpcjaaGreatDoorZ02
import Derived.Test.YtpeamehplhpcjaaGreatDoorZ07
set_option linter.unusedVariables false
set_option linter.unusedSimpArgs false
namespace Go.Proofs.YtpeamehplhpcjaaGreatDoor
open Go.RowKit
def digits10 : Bs := [48, 49, 50, 51, 52, 53, 54, 55, 56, 57]
theorem dig_fin : ∀ n : Fin 256, digits10.contains (UInt8.ofNat n.val) = digC (UInt8.ofNat n.val) := by decide +kernel
theorem dig_set (x : UInt8) : digits10.contains x = digC x := by
  have e := dig_fin ⟨x.toNat, UInt8.toNat_lt x⟩
  simp only [UInt8.ofNat_toNat] at e
  exact e
theorem dropWhile_nil (s : Bs) : s.dropWhile digC = [] ↔ s.all digC = true := by
  induction s with
  | nil => simp
  | cons c r ih =>
    rw [List.dropWhile_cons, List.all_cons]
    by_cases h : digC c = true
    · rw [if_pos h, ih, h]; simp
    · rw [if_neg h]; simp [h]
theorem trim_dig (s : Bs) : decide (Lib.trimS s digits10 = []) = s.all digC := by
  have e : (fun x => digits10.contains x) = digC := funext dig_set
  unfold Lib.trimS Lib.trimLeftS Lib.trimRightS
  rw [e]
  have key : ∀ r : Bs, (r.dropWhile digC).all digC = r.all digC := by
    intro r
    induction r with
    | nil => rfl
    | cons c r ih =>
      rw [List.dropWhile_cons, List.all_cons]
      by_cases h : digC c = true
      · rw [if_pos h, ih, h, Bool.true_and]
      · rw [if_neg h, List.all_cons]
  rw [Bool.eq_iff_iff, decide_eq_true_eq, dropWhile_nil, List.all_reverse, key, List.all_reverse]
theorem trim_any (s : Bs) (w : World) (hs : s.length ≤ 4294967000) :
    Calls Tryz.prog 149 #[.string ⟨s.toArray⟩, .string ⟨#[48, 49, 50, 51, 52, 53, 54, 55, 56, 57]⟩] w fun e w' => e = .returned (.string ⟨(Lib.trimS s digits10).toArray⟩) ∧ Below w.heap.size w w' :=
  Any.strings_Trim_laid Tryz.lays160 (by kernel_rfl) ⟨s.toArray⟩ ⟨#[48, 49, 50, 51, 52, 53, 54, 55, 56, 57]⟩ w (by simp [ByteArray.size]; omega) (by decide) (ascii_of_all (by decide))
theorem decFrom_val (s : Bs) (h : s.all digC = true) (n : Nat) : Lib.decFrom n s = some (valN s n) := by
  induction s generalizing n with
  | nil => rfl
  | cons c r ih =>
    rw [List.all_cons, Bool.and_eq_true] at h
    have hc : 48 ≤ c.toNat ∧ c.toNat ≤ 57 := by have := h.1; unfold digC at this; simpa using this
    unfold Lib.decFrom Lib.digitVal valN
    rw [if_pos hc]
    show Lib.decFrom (n * 10 + (c.toNat - 48)) r = _
    rw [ih h.2, Nat.mul_comm]
theorem atoi_val (s : Bs) (h0 : s ≠ []) (h : s.all digC = true) (hl : s.length ≤ 18) : Lib.atoiAll s = .ok (valN s 0 : Nat) := by
  rw [Lib.atoiAll_short s hl]
  cases s with
  | nil => exact absurd rfl h0
  | cons c r =>
    have hd := decFrom_val _ h 0
    rw [List.all_cons, Bool.and_eq_true] at h
    have hc : 48 ≤ c.toNat ∧ c.toNat ≤ 57 := by have := h.1; unfold digC at this; simpa using this
    have h1 : (c == 45) = false := by rw [beq_eq_false_iff_ne]; rintro rfl; have : (45 : UInt8).toNat = 45 := rfl; omega
    have h2 : (c == 43) = false := by rw [beq_eq_false_iff_ne]; rintro rfl; have : (43 : UInt8).toNat = 43 := rfl; omega
    unfold Lib.atoi Lib.decNat
    simp only [h1, h2, List.isEmpty_cons, hd]
    rfl
theorem atoi_ok (s : Bs) (v : Int) (h : Lib.atoiAll s = .ok v) (hs : s.length ≤ 4294967000) (w : World) :
    Calls Tryz.prog 150 #[.string ⟨s.toArray⟩] w fun e w' => e = .returned (.tuple #[.int .i64 v, .nilIface]) ∧ Below w.heap.size w w' := by
  refine (Tryz.strconv_Atoi_ok ⟨s.toArray⟩ (by simp [ByteArray.size]; omega) v (by simpa using h) w).mono ?_
  rintro e w' ⟨rfl, rfl | ⟨t, rfl⟩⟩
  · exact ⟨rfl, Below.refl _ _⟩
  · exact ⟨rfl, Lib.bytesWorld_below _ _ _⟩
theorem headD_cons (c : UInt8) (r : Bs) : (c :: r).headD 0 = c := rfl
set_option maxHeartbeats 2000000 in
theorem numberW_any (s : Bs) (w : World) (hs : s.length ≤ 4294967000) :
    Calls Tryz.prog 103 #[.string ⟨s.toArray⟩] w fun e w' => e = .returned (.int .i64 (numberS s)) ∧ Below w.heap.size w w' := by
  cases s with
  | nil =>
    go_enter Tryz.func103, Tryz.ntmps103
    go_wp2_with fail
    go_ret
    exact ⟨rfl, Below.refl _ _⟩
  | cons c r =>
    have ht := trim_any (c :: r) w hs
    have hd := trim_dig (c :: r)
    have ha : (c :: r).all digC = true → (c :: r).length ≤ 9 → ∀ w, Calls Tryz.prog 150 #[.string ⟨(c :: r).toArray⟩] w fun e w' => e = .returned (.tuple #[.int .i64 (valN (c :: r) 0), .nilIface]) ∧ Below w.heap.size w w' := fun h hl w => atoi_ok _ _ (atoi_val _ (by simp) h (by omega)) hs w
    have hv : numberS (c :: r) = if !(c :: r).all digC || (decide (0 < r.length) && c == 48) then (-1 : Int) else if 8 < r.length then (1073741824 : Int) else ((valN (c :: r) 0 : Nat) : Int) := by
      unfold numberS
      have e1 : (9 < (c :: r).length) = (8 < r.length) := by rw [List.length_cons]; exact propext ⟨fun h => by omega, fun h => by omega⟩
      have e2 : decide (1 < (c :: r).length) = decide (0 < r.length) := by rw [List.length_cons]; exact decide_eq_decide.2 ⟨fun h => by omega, fun h => by omega⟩
      simp only [e1, e2]
      rfl
    generalize numberS (c :: r) = v at *
    generalize Lib.trimS (c :: r) digits10 = t at *
    generalize (c :: r).all digC = q at *
    have hzc : ∃ z : Int, z = ((valN (c :: r) 0 : Nat) : Int) := ⟨_, rfl⟩
    obtain ⟨z, hz⟩ := hzc
    rw [← hz] at ha hv
    clear hz
    have hl := hs
    rw [List.length_cons] at hl
    have HT := Lib.hid ht; have HA := Lib.hid ha; have HV := Lib.hid hv
    clear ht ha hv hs
    cases q with
    | false =>
      have htn : t ≠ [] := by simpa using hd
      have hv : v = -1 := by rw [HV.out]; rfl
      subst hv
      clear hd
      go_enter Tryz.func103, Tryz.ntmps103
      go_wp2_with (first | (go_at_call 149; refine HT.out.mono ?_; rintro e w1 ⟨rfl, hb⟩))
      go_ret
      exact ⟨rfl, hb⟩
    | true =>
      have htn : t = [] := by simpa using hd
      subst htn
      clear hd
      by_cases h0 : 0 < r.length
      · have hI : (0 : Int) < r.length := by omega
        by_cases h48 : c = 48
        · subst h48
          have hv : v = -1 := by rw [HV.out]; simp [h0]
          subst hv
          go_enter Tryz.func103, Tryz.ntmps103
          go_wp2_with (first | (go_at_call 149; refine HT.out.mono ?_; rintro e w1 ⟨rfl, hb⟩))
          go_ret
          exact ⟨rfl, hb⟩
        · have hv : v = if 8 < r.length then (1073741824 : Int) else z := by rw [HV.out]; simp [h48]
          have h48n : ((c.toNat : Int) == 48) = false := by
            rw [beq_eq_false_iff_ne]
            intro e
            exact h48 (UInt8.toNat_inj.1 (by show c.toNat = 48; omega))
          clear HV
          by_cases h8 : 8 < r.length
          · have hI8 : (9 : Int) < (r.length : Int) + 1 := by omega
            have hv : v = 1073741824 := by rw [hv, if_pos h8]
            subst hv
            go_enter Tryz.func103, Tryz.ntmps103
            go_wp2_with (first | (go_at_call 149; refine HT.out.mono ?_; rintro e w1 ⟨rfl, hb⟩))
            go_ret
            exact ⟨rfl, hb⟩
          · have hI8 : ¬ (9 : Int) < (r.length : Int) + 1 := by omega
            have hv2 : v = z := by rw [hv, if_neg h8]
            clear hv
            subst hv2
            have HA2 := Lib.hid (HA.out rfl (by rw [List.length_cons]; omega))
            go_enter Tryz.func103, Tryz.ntmps103
            go_wp2_with (first | (go_at_call 149; refine HT.out.mono ?_; rintro e w1 ⟨rfl, hb⟩) | (go_at_call 150; refine (HA2.out _).mono ?_; rintro e w2 ⟨rfl, hb2⟩))
            go_ret
            exact ⟨rfl, next hb hb2 (Nat.le_refl _)⟩
      · have hr : r = [] := by cases r with
                               | nil => rfl
                               | cons a b => simp at h0
        subst hr
        have hv : v = z := by rw [HV.out]; rfl
        subst hv
        have HA2 := Lib.hid (HA.out rfl (by simp))
        go_enter Tryz.func103, Tryz.ntmps103
        go_wp2_with (first | (go_at_call 149; refine HT.out.mono ?_; rintro e w1 ⟨rfl, hb⟩) | (go_at_call 150; refine (HA2.out _).mono ?_; rintro e w2 ⟨rfl, hb2⟩))
        go_ret
        exact ⟨rfl, next hb hb2 (Nat.le_refl _)⟩
end Go.Proofs.YtpeamehplhpcjaaGreatDoor
namespace Go.Proofs.YtpeamehplhpcjaaGreatDoor
open Go.RowKit
section
variable {P : Program} {ops : Array Oper} {Q : Exit → Act → World → Prop} {md : Region.Mode} {S : World → Prop}
theorem wpAnyH_takeW (i : Nat) {oi : Oper} {d : Nat} {v : Value} {fuel : Nat} {listed : Array Bool} {a : Act} {w : World} (hi : ops[i]? = some oi) (hd : oi.dst = some d)
    (hs : Region.noSelect ops = true) (hf : Region.free md ops listed i = true) (hr : (Region.ready md ops listed).contains i = true)
    (hQ : ∀ c a w, Q (.panic c) (a.put oi.dst v) w → Q (.panic c) a w) (hwt : Region.wanted oi (yielded ops a.tmps) = true) (hS : S w) (hy : ∀ x, S x → (execOp a.eval oi).run P x = .ok (.value v) x)
    (h : wpAnyH P md ops Q S fuel (listed.setIfInBounds i true) { a with tmps := a.tmps.setIfInBounds d v } w) : wpAnyH P md ops Q S (fuel + 1) listed a w :=
  wpAnyH_take hi hs hf hr hQ (.inl ⟨hwt, hy⟩) hS (by rw [hd]; exact h)
theorem wpAnyH_takeU (i : Nat) {oi : Oper} {d : Nat} {fuel : Nat} {listed : Array Bool} {a : Act} {w : World} (hi : ops[i]? = some oi) (hd : oi.dst = some d)
    (hs : Region.noSelect ops = true) (hf : Region.free md ops listed i = true) (hr : (Region.ready md ops listed).contains i = true)
    (hQ : ∀ c a w, Q (.panic c) (a.put oi.dst undef) w → Q (.panic c) a w) (hwt : Region.wanted oi (yielded ops a.tmps) = false) (hS : S w)
    (h : wpAnyH P md ops Q S fuel (listed.setIfInBounds i true) { a with tmps := a.tmps.setIfInBounds d undef } w) : wpAnyH P md ops Q S (fuel + 1) listed a w :=
  wpAnyH_take hi hs hf hr hQ (.inr ⟨hwt, rfl⟩) hS (by rw [hd]; exact h)
theorem tkW (i : Nat) {oi : Oper} {d : Nat} {v : Value} {fuel : Nat} {listed : Array Bool} {a : Act} {w : World} (hS : S w) (hy : ∀ x, S x → (execOp a.eval oi).run P x = .ok (.value v) x)
    (h : wpAnyH P md ops Q S fuel (listed.setIfInBounds i true) { a with tmps := a.tmps.setIfInBounds d v } w)
    (hi : ops[i]? = some oi := by exact rfl) (hd : oi.dst = some d := by exact rfl)
    (hs : Region.noSelect ops = true := by kernel_rfl) (hf : Region.free md ops listed i = true := by kernel_rfl) (hr : (Region.ready md ops listed).contains i = true := by kernel_rfl)
    (hQ : ∀ c a w, Q (.panic c) (a.put oi.dst v) w → Q (.panic c) a w := by exact fun _ _ _ h => h) (hwt : Region.wanted oi (yielded ops a.tmps) = true := by kernel_rfl) : wpAnyH P md ops Q S (fuel + 1) listed a w :=
  wpAnyH_takeW i hi hd hs hf hr hQ hwt hS hy h
theorem tkU (i : Nat) {oi : Oper} {d : Nat} {fuel : Nat} {listed : Array Bool} {a : Act} {w : World} (hS : S w)
    (h : wpAnyH P md ops Q S fuel (listed.setIfInBounds i true) { a with tmps := a.tmps.setIfInBounds d undef } w)
    (hi : ops[i]? = some oi := by exact rfl) (hd : oi.dst = some d := by exact rfl)
    (hs : Region.noSelect ops = true := by kernel_rfl) (hf : Region.free md ops listed i = true := by kernel_rfl) (hr : (Region.ready md ops listed).contains i = true := by kernel_rfl)
    (hQ : ∀ c a w, Q (.panic c) (a.put oi.dst undef) w → Q (.panic c) a w := by exact fun _ _ _ h => h) (hwt : Region.wanted oi (yielded ops a.tmps) = false := by kernel_rfl) : wpAnyH P md ops Q S (fuel + 1) listed a w :=
  wpAnyH_takeU i hi hd hs hf hr hQ hwt hS h
theorem wpAnyH_one (i : Nat) {o : Oper} {fuel : Nat} {listed : Array Bool} {a : Act} {w : World} (hr : Region.ready md ops listed = [i]) (ho : ops[i]? = some o)
    (h : ∀ K' : Act → World → Prop, Shut (∀ a' w', S w' → wpAnyH P md ops Q S fuel (listed.setIfInBounds i true) a' w' → K' a' w') → if Region.wanted o (yielded ops a.tmps) = true then Oper.wp P o a w K' Q else K' (a.put o.dst undef) w) :
    wpAnyH P md ops Q S (fuel + 1) listed a w := by
  refine ⟨fun h0 => (by rw [hr] at h0; cases h0), fun j hj => ?_⟩
  rw [hr] at hj
  have hji : j = i := by simpa using hj
  subst hji
  exact wpOp_step ho (fun K' hK => h K' (fun a w hS hW => hK a w ⟨hS, hW⟩))
theorem wpH_region (S : World → Prop) {id : Nat} {a : Act} {w : World} (hm : P.follows .mixedOrders = true)
    (h : wpAnyH P .any ops Q S ops.size (Array.replicate ops.size false) a w.drew) : (Code.region id ops true).wp P Q a w :=
  wp_region_any hm (wpAny_of_held _ _ _ _ h)
end
end Go.Proofs.YtpeamehplhpcjaaGreatDoor
namespace Go.Proofs.YtpeamehplhpcjaaGreatDoor
open Go.RowKit
section
variable {P : Program} {ops : Array Oper} {Q : Exit → Act → World → Prop} {md : Region.Mode} {S : World → Prop} {n : Nat}
def wpAnyY (P : Program) (md : Region.Mode) (ops : Array Oper) (Q : Exit → Act → World → Prop) (S : World → Prop) (n : Nat) : Nat → Array Bool → Act → World → Prop
  | 0, listed, a, w => Region.ready md ops listed = [] ∧ Q .normal a w
  | fuel + 1, listed, a, w =>
    (Region.ready md ops listed = [] → Q .normal a w) ∧
    ∀ i ∈ Region.ready md ops listed, wpOp P ops Q i (fun a' w' => (i ≠ n → S w') ∧ wpAnyY P md ops Q S n fuel (listed.setIfInBounds i true) a' w') a w
theorem wpAny_of_Y : ∀ (fuel : Nat) (listed : Array Bool) (a : Act) (w : World), wpAnyY P md ops Q S n fuel listed a w → wpAny P md ops Q fuel listed a w
  | 0, _, _, _, h => h
  | fuel + 1, _, _, _, h => ⟨h.1, fun i hi => wpOp_mono (fun a' w' h' => wpAny_of_Y fuel _ a' w' h'.2) (h.2 i hi)⟩
theorem wpAnyY_first {i : Nat} {oi : Oper} {v : Value} (hi : ops[i]? = some oi) (hsel : ∀ (j : Nat) (o : Oper) cs b, ops[j]? = some o → o.op ≠ .select cs b)
    (hQ : ∀ c a w, Q (.panic c) (a.put oi.dst v) w → Q (.panic c) a w) (hw : Region.waitsFor md ops n i = true) :
    ∀ (fuel : Nat) (listed : Array Bool) (a : Act) (w : World),
      (∀ j oj, ops[j]? = some oj → j ≠ i → listed.getD j true = false → (∀ e ∈ oj.after, Region.binds md e = true → e.on ≠ i) → oi.apart ops oj = true) →
      i ∈ Region.ready md ops listed → YieldsIf P ops S oi v a → S w →
      wpAnyY P md ops Q S n fuel (listed.setIfInBounds i true) (a.put oi.dst v) w → wpAnyY P md ops Q S n (fuel + 1) listed a w := by
  intro fuel
  induction fuel with
  | zero =>
    intro listed a w _ hr hy hS H
    refine ⟨fun h => (by rw [h] at hr; cases hr), fun j hj => ?_⟩
    by_cases hji : j = i
    · subst hji; exact hy.wpOp hi hS ⟨fun _ => hS, H⟩
    · have := ready_mono hj hji
      rw [H.1] at this
      cases this
  | succ fuel ih =>
    intro listed a w hfree hr hy hS H
    refine ⟨fun h => (by rw [h] at hr; cases hr), fun j hj => ?_⟩
    by_cases hji : j = i
    · subst hji; exact hy.wpOp hi hS ⟨fun _ => hS, H⟩
    · have h1 := H.2 j (ready_mono hj hji)
      obtain ⟨hjun, oj, hoj, hall⟩ := mem_ready.1 hj
      have hnot : ∀ e ∈ oj.after, Region.binds md e = true → e.on ≠ i := fun e he hb heq => by
        have h1 := hall e he hb
        have h0 := (mem_ready.1 hr).1
        rw [heq] at h1
        rcases Nat.lt_or_ge i listed.size with h' | h'
        · simp [h'] at h0 h1; rw [h0] at h1; cases h1
        · simp [Array.getElem?_eq_none h'] at h1
      have hjn : j ≠ n := fun hjn => by
        obtain ⟨o', ho', e, he, hb, hon⟩ := Region.waitsFor_spec hw
        rw [← hjn, hoj] at ho'
        injection ho' with ho'
        subst ho'
        exact absurd hon (hnot e he hb)
      have h2 := wpOp_putIf hoj (hfree j oj hoj hji hjun hnot) (fun cs b => hsel i oi cs b hi) (fun cs b => hsel j oj cs b hoj) hQ hy h1
      have hfree' : ∀ k ok, ops[k]? = some ok → k ≠ i → (listed.setIfInBounds j true).getD k true = false →
          (∀ e ∈ ok.after, Region.binds md e = true → e.on ≠ i) → oi.apart ops ok = true := fun k ok hk hki hun hno => by
        refine hfree k ok hk hki ?_ hno
        by_cases hjk : j = k
        · subst hjk; exact hjun
        · rw [getD_set_ne true hjk] at hun; exact hun
      refine wpOp_mono (fun a' w' h3 => ⟨h3.2.1, ih (listed.setIfInBounds j true) a' w' hfree' (ready_mono hr (Ne.symm hji)) h3.1 (h3.2.1 hjn) ?_⟩) h2
      rw [Array.setIfInBounds_comm _ _ hji]
      exact h3.2.2
theorem wpAnyY_takeW (i : Nat) {oi : Oper} {d : Nat} {v : Value} {fuel : Nat} {listed : Array Bool} {a : Act} {w : World} (hi : ops[i]? = some oi) (hd : oi.dst = some d)
    (hs : Region.noSelect ops = true) (hf : Region.free md ops listed i = true) (hr : (Region.ready md ops listed).contains i = true) (hw : Region.waitsFor md ops n i = true)
    (hQ : ∀ c a w, Q (.panic c) (a.put oi.dst v) w → Q (.panic c) a w) (hwt : Region.wanted oi (yielded ops a.tmps) = true) (hS : S w) (hy : ∀ x, S x → (execOp a.eval oi).run P x = .ok (.value v) x)
    (h : wpAnyY P md ops Q S n fuel (listed.setIfInBounds i true) { a with tmps := a.tmps.setIfInBounds d v } w) : wpAnyY P md ops Q S n (fuel + 1) listed a w :=
  wpAnyY_first hi (Region.noSelect_spec hs) hQ hw fuel listed a w (Region.free_spec hi hf) (by simpa using hr) (.inl ⟨hwt, hy⟩) hS (by rw [hd]; exact h)
theorem wpAnyY_one (i : Nat) {o : Oper} {fuel : Nat} {listed : Array Bool} {a : Act} {w : World} (hr : Region.ready md ops listed = [i]) (ho : ops[i]? = some o)
    (h : ∀ K' : Act → World → Prop, Shut (∀ a' w', (i ≠ n → S w') → wpAnyY P md ops Q S n fuel (listed.setIfInBounds i true) a' w' → K' a' w') → if Region.wanted o (yielded ops a.tmps) = true then Oper.wp P o a w K' Q else K' (a.put o.dst undef) w) :
    wpAnyY P md ops Q S n (fuel + 1) listed a w := by
  refine ⟨fun h0 => (by rw [hr] at h0; cases h0), fun j hj => ?_⟩
  rw [hr] at hj
  have hji : j = i := by simpa using hj
  subst hji
  exact wpOp_step ho (fun K' hK => h K' (fun a w hS hW => hK a w ⟨hS, hW⟩))
theorem wpAnyY_done {listed : Array Bool} {a : Act} {w : World} (hr : Region.ready md ops listed = []) (h : Q .normal a w) : ∀ fuel, wpAnyY P md ops Q S n fuel listed a w
  | 0 => ⟨hr, h⟩
  | _ + 1 => ⟨fun _ => h, by rw [hr]; simp⟩
theorem wpY_region (S : World → Prop) (n : Nat) {id : Nat} {a : Act} {w : World} (hm : P.follows .mixedOrders = true)
    (h : wpAnyY P .any ops Q S n ops.size (Array.replicate ops.size false) a w.drew) : (Code.region id ops true).wp P Q a w :=
  wp_region_any hm (wpAny_of_Y _ _ _ _ h)
end
end Go.Proofs.YtpeamehplhpcjaaGreatDoor
