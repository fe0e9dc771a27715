/- Rules: slices.IndexFunc, ContainsFunc at arguments, literals, rules, strings (printed by genk4.py). -/
import Derived.Test.YtjopmgoacncmgaaGreatDoorK3
set_option linter.unusedVariables false
set_option linter.unusedSimpArgs false
namespace Go.Proofs.YtjopmgoacncmgaaGreatDoor
open Go.RowKit

def idxS {α : Type} (p : α → Bool) : List α → Nat → Int
  | [], _ => -1
  | x :: r, k => if p x then (k : Int) else idxS p r (k + 1)
theorem idxS_any {α : Type} (p : α → Bool) (l : List α) (k : Nat) : decide (0 ≤ idxS p l k) = l.any p := by
  induction l generalizing k with
  | nil => rfl
  | cons x r ih =>
    unfold idxS
    by_cases h : p x = true
    · simp [h]
    · simp [h, ih]
theorem idxS_rng {α : Type} (p : α → Bool) (l : List α) (k : Nat) : -1 ≤ idxS p l k := by
  induction l generalizing k with
  | nil => exact Int.le_refl _
  | cons x r ih =>
    unfold idxS
    split
    · omega
    · exact ih _
theorem enter_caps {F : Nat} (hF : ∀ (args : Array Value) (w : World), (callFunc F args).run Tryz.prog w = .ok (.enter F args) w) : True := trivial

set_option maxHeartbeats 800000 in
theorem idxA_any (A : Option Addr) (n c : Nat) (w : World) (S : Nat → Prop) (xs : List Arg) (hl : Sl w S A n c xs) (F : Nat) (caps : Array Value) (hF : ∀ (args : Array Value) (w : World), (callFunc F args).run Tryz.prog w = .ok (.enter F args) w)
    (p : Arg → Bool) (hp : ∀ x ∈ xs, ∀ w1, Below w.heap.size w w1 → Calls Tryz.prog F (#[vArg x] ++ caps) w1 fun e w2 => e = .returned (.bool (p x)) ∧ Below w1.heap.size w1 w2) :
    Calls Tryz.prog 122 #[.slice A n c, .func (.func F) #[] caps] w fun e w' => e = .returned (.int .i64 (idxS p xs 0)) ∧ Below w.heap.size w w' := by
  have hn := hl.le
  have hlen := hl.len
  subst hlen
  have HL := Lib.hid hl; have HP := Lib.hid hp; clear hl hp
  obtain ⟨v0, hv⟩ : ∃ v0, v0 = idxS p xs 0 := ⟨_, rfl⟩
  rw [← hv]
  have Hf : Hid (v0 = idxS p (xs.drop 0) 0) := hv
  clear hv
  go_enter Tryz.func122, Tryz.ntmps122
  go_wp2_with fail
  go_loopw [8] (fun i wr => ∃ k : Nat, k ≤ xs.length ∧ i = .int .i64 k ∧ Below w.heap.size w wr ∧ Hid (v0 = idxS p (xs.drop k) k)) (fun i _ => xs.length - (intOf i).toNat)
  case atStart => exact ⟨0, by omega, rfl, Below.refl _ _, Hf⟩
  case round =>
    obtain ⟨k, hk, rfl, hb, hf⟩ := hrel
    by_cases hlt : k < xs.length
    · obtain ⟨b, o, rfl, -, hbs, h1, h2, h3⟩ := (HL.out.below hb).arg hlt
      have hd : v0 = if p xs[k] then (k : Int) else idxS p (xs.drop (k + 1)) (k + 1) := by rw [hf.out, drop_get hlt]; rfl
      have hc := HP.out _ (List.getElem_mem hlt) _ hb
      generalize p xs[k] = q at *
      generalize xs[k] = x at *
      have HD := Lib.hid hd; have HC := Lib.hid hc
      clear hd hc hf
      go_wp2_with fail
      refine HC.out.mono ?_
      rintro e w1 ⟨rfl, hb1⟩
      cases q
      · go_wp2
        go_roundw
        case rel => exact ⟨k + 1, by omega, by go_num, next hb hb1 (Nat.le_refl _), HD.out⟩
        case measure => simp [intOf]; omega
      · go_wp2
        go_ret
        exact ⟨ret_int HD.out, next hb hb1 (Nat.le_refl _)⟩
    · go_wp2
      go_ret
      exact ⟨ret_int (by rw [hf.out, drop_end hlt]; rfl), hb⟩
theorem conA_any (A : Option Addr) (n c : Nat) (w : World) (S : Nat → Prop) (xs : List Arg) (hl : Sl w S A n c xs) (F : Nat) (caps : Array Value) (hF : ∀ (args : Array Value) (w : World), (callFunc F args).run Tryz.prog w = .ok (.enter F args) w)
    (p : Arg → Bool) (hp : ∀ x ∈ xs, ∀ w1, Below w.heap.size w w1 → Calls Tryz.prog F (#[vArg x] ++ caps) w1 fun e w2 => e = .returned (.bool (p x)) ∧ Below w1.heap.size w1 w2) :
    Calls Tryz.prog 72 #[.slice A n c, .func (.func F) #[] caps] w fun e w' => e = .returned (.bool (xs.any p)) ∧ Below w.heap.size w w' := by
  have h := idxA_any A n c w S xs hl F caps hF p hp
  rw [← idxS_any p xs 0]
  generalize idxS p xs 0 = z at *
  have H := Lib.hid h
  clear h hl hp
  go_enter Tryz.func72, Tryz.ntmps72
  go_wp2_with (first | (go_at_call 122; refine H.out.mono ?_; rintro e w1 ⟨rfl, hb1⟩))
  go_ret
  exact ⟨rfl, hb1⟩

set_option maxHeartbeats 800000 in
theorem idxL_any (A : Option Addr) (n c : Nat) (w : World) (S : Nat → Prop) (xs : List Ltl) (hl : Sl w S A n c xs) (F : Nat) (caps : Array Value) (hF : ∀ (args : Array Value) (w : World), (callFunc F args).run Tryz.prog w = .ok (.enter F args) w)
    (p : Ltl → Bool) (hp : ∀ x ∈ xs, ∀ w1, Below w.heap.size w w1 → ∀ v, VLtl w1 S v x → Calls Tryz.prog F (#[v] ++ caps) w1 fun e w2 => e = .returned (.bool (p x)) ∧ Below w1.heap.size w1 w2) :
    Calls Tryz.prog 142 #[.slice A n c, .func (.func F) #[] caps] w fun e w' => e = .returned (.int .i64 (idxS p xs 0)) ∧ Below w.heap.size w w' := by
  have hn := hl.le
  have hlen := hl.len
  subst hlen
  have HL := Lib.hid hl; have HP := Lib.hid hp; clear hl hp
  obtain ⟨v0, hv⟩ : ∃ v0, v0 = idxS p xs 0 := ⟨_, rfl⟩
  rw [← hv]
  have Hf : Hid (v0 = idxS p (xs.drop 0) 0) := hv
  clear hv
  go_enter Tryz.func142, Tryz.ntmps142
  go_wp2_with fail
  go_loopw [8] (fun i wr => ∃ k : Nat, k ≤ xs.length ∧ i = .int .i64 k ∧ Below w.heap.size w wr ∧ Hid (v0 = idxS p (xs.drop k) k)) (fun i _ => xs.length - (intOf i).toNat)
  case atStart => exact ⟨0, by omega, rfl, Below.refl _ _, Hf⟩
  case round =>
    obtain ⟨k, hk, rfl, hb, hf⟩ := hrel
    by_cases hlt : k < xs.length
    · obtain ⟨b, o, rfl, -, hbs, A1, n1, c1, h1, h2, h3, h4, hs⟩ := (HL.out.below hb).ltl hlt
      have hd : v0 = if p xs[k] then (k : Int) else idxS p (xs.drop (k + 1)) (k + 1) := by rw [hf.out, drop_get hlt]; rfl
      have hc := HP.out _ (List.getElem_mem hlt) _ hb _ ⟨A1, n1, c1, rfl, hs⟩
      generalize p xs[k] = q at *
      generalize xs[k] = x at *
      have HD := Lib.hid hd; have HC := Lib.hid hc; have HS := Lib.hid hs; clear hs
      clear hd hc hf
      go_wp2_with fail
      refine HC.out.mono ?_
      rintro e w1 ⟨rfl, hb1⟩
      cases q
      · go_wp2
        go_roundw
        case rel => exact ⟨k + 1, by omega, by go_num, next hb hb1 (Nat.le_refl _), HD.out⟩
        case measure => simp [intOf]; omega
      · go_wp2
        go_ret
        exact ⟨ret_int HD.out, next hb hb1 (Nat.le_refl _)⟩
    · go_wp2
      go_ret
      exact ⟨ret_int (by rw [hf.out, drop_end hlt]; rfl), hb⟩
theorem conL_any (A : Option Addr) (n c : Nat) (w : World) (S : Nat → Prop) (xs : List Ltl) (hl : Sl w S A n c xs) (F : Nat) (caps : Array Value) (hF : ∀ (args : Array Value) (w : World), (callFunc F args).run Tryz.prog w = .ok (.enter F args) w)
    (p : Ltl → Bool) (hp : ∀ x ∈ xs, ∀ w1, Below w.heap.size w w1 → ∀ v, VLtl w1 S v x → Calls Tryz.prog F (#[v] ++ caps) w1 fun e w2 => e = .returned (.bool (p x)) ∧ Below w1.heap.size w1 w2) :
    Calls Tryz.prog 97 #[.slice A n c, .func (.func F) #[] caps] w fun e w' => e = .returned (.bool (xs.any p)) ∧ Below w.heap.size w w' := by
  have h := idxL_any A n c w S xs hl F caps hF p hp
  rw [← idxS_any p xs 0]
  generalize idxS p xs 0 = z at *
  have H := Lib.hid h
  clear h hl hp
  go_enter Tryz.func97, Tryz.ntmps97
  go_wp2_with (first | (go_at_call 142; refine H.out.mono ?_; rintro e w1 ⟨rfl, hb1⟩))
  go_ret
  exact ⟨rfl, hb1⟩

set_option maxHeartbeats 800000 in
theorem idxR_any (A : Option Addr) (n c : Nat) (w : World) (S : Nat → Prop) (xs : List Rul) (hl : Sl w S A n c xs) (F : Nat) (caps : Array Value) (hF : ∀ (args : Array Value) (w : World), (callFunc F args).run Tryz.prog w = .ok (.enter F args) w)
    (p : Rul → Bool) (hp : ∀ x ∈ xs, ∀ w1, Below w.heap.size w w1 → ∀ v, VRul w1 S v x → Calls Tryz.prog F (#[v] ++ caps) w1 fun e w2 => e = .returned (.bool (p x)) ∧ Below w1.heap.size w1 w2) :
    Calls Tryz.prog 96 #[.slice A n c, .func (.func F) #[] caps] w fun e w' => e = .returned (.int .i64 (idxS p xs 0)) ∧ Below w.heap.size w w' := by
  have hn := hl.le
  have hlen := hl.len
  subst hlen
  have HL := Lib.hid hl; have HP := Lib.hid hp; clear hl hp
  obtain ⟨v0, hv⟩ : ∃ v0, v0 = idxS p xs 0 := ⟨_, rfl⟩
  rw [← hv]
  have Hf : Hid (v0 = idxS p (xs.drop 0) 0) := hv
  clear hv
  go_enter Tryz.func96, Tryz.ntmps96
  go_wp2_with fail
  go_loopw [8] (fun i wr => ∃ k : Nat, k ≤ xs.length ∧ i = .int .i64 k ∧ Below w.heap.size w wr ∧ Hid (v0 = idxS p (xs.drop k) k)) (fun i _ => xs.length - (intOf i).toNat)
  case atStart => exact ⟨0, by omega, rfl, Below.refl _ _, Hf⟩
  case round =>
    obtain ⟨k, hk, rfl, hb, hf⟩ := hrel
    by_cases hlt : k < xs.length
    · obtain ⟨b, o, rfl, -, hbs, A1, n1, c1, A2, n2, c2, h1, h2, h3, hs, hs'⟩ := (HL.out.below hb).rul hlt
      have hd : v0 = if p xs[k] then (k : Int) else idxS p (xs.drop (k + 1)) (k + 1) := by rw [hf.out, drop_get hlt]; rfl
      have hc := HP.out _ (List.getElem_mem hlt) _ hb _ ⟨A1, n1, c1, A2, n2, c2, rfl, hs, hs'⟩
      generalize p xs[k] = q at *
      generalize xs[k] = x at *
      have HD := Lib.hid hd; have HC := Lib.hid hc; have HS := Lib.hid hs; have HS' := Lib.hid hs'; clear hs hs'
      clear hd hc hf
      go_wp2_with fail
      refine HC.out.mono ?_
      rintro e w1 ⟨rfl, hb1⟩
      cases q
      · go_wp2
        go_roundw
        case rel => exact ⟨k + 1, by omega, by go_num, next hb hb1 (Nat.le_refl _), HD.out⟩
        case measure => simp [intOf]; omega
      · go_wp2
        go_ret
        exact ⟨ret_int HD.out, next hb hb1 (Nat.le_refl _)⟩
    · go_wp2
      go_ret
      exact ⟨ret_int (by rw [hf.out, drop_end hlt]; rfl), hb⟩
theorem conR_any (A : Option Addr) (n c : Nat) (w : World) (S : Nat → Prop) (xs : List Rul) (hl : Sl w S A n c xs) (F : Nat) (caps : Array Value) (hF : ∀ (args : Array Value) (w : World), (callFunc F args).run Tryz.prog w = .ok (.enter F args) w)
    (p : Rul → Bool) (hp : ∀ x ∈ xs, ∀ w1, Below w.heap.size w w1 → ∀ v, VRul w1 S v x → Calls Tryz.prog F (#[v] ++ caps) w1 fun e w2 => e = .returned (.bool (p x)) ∧ Below w1.heap.size w1 w2) :
    Calls Tryz.prog 48 #[.slice A n c, .func (.func F) #[] caps] w fun e w' => e = .returned (.bool (xs.any p)) ∧ Below w.heap.size w w' := by
  have h := idxR_any A n c w S xs hl F caps hF p hp
  rw [← idxS_any p xs 0]
  generalize idxS p xs 0 = z at *
  have H := Lib.hid h
  clear h hl hp
  go_enter Tryz.func48, Tryz.ntmps48
  go_wp2_with (first | (go_at_call 96; refine H.out.mono ?_; rintro e w1 ⟨rfl, hb1⟩))
  go_ret
  exact ⟨rfl, hb1⟩

set_option maxHeartbeats 800000 in
theorem idxB_any (A : Option Addr) (n c : Nat) (w : World) (S : Nat → Prop) (xs : List Bs) (hl : Sl w S A n c xs) (F : Nat) (caps : Array Value) (hF : ∀ (args : Array Value) (w : World), (callFunc F args).run Tryz.prog w = .ok (.enter F args) w)
    (p : Bs → Bool) (hp : ∀ x ∈ xs, ∀ w1, Below w.heap.size w w1 → Calls Tryz.prog F (#[.string ⟨x.toArray⟩] ++ caps) w1 fun e w2 => e = .returned (.bool (p x)) ∧ Below w1.heap.size w1 w2) :
    Calls Tryz.prog 171 #[.slice A n c, .func (.func F) #[] caps] w fun e w' => e = .returned (.int .i64 (idxS p xs 0)) ∧ Below w.heap.size w w' := by
  have hn := hl.le
  have hlen := hl.len
  subst hlen
  have HL := Lib.hid hl; have HP := Lib.hid hp; clear hl hp
  obtain ⟨v0, hv⟩ : ∃ v0, v0 = idxS p xs 0 := ⟨_, rfl⟩
  rw [← hv]
  have Hf : Hid (v0 = idxS p (xs.drop 0) 0) := hv
  clear hv
  go_enter Tryz.func171, Tryz.ntmps171
  go_wp2_with fail
  go_loopw [8] (fun i wr => ∃ k : Nat, k ≤ xs.length ∧ i = .int .i64 k ∧ Below w.heap.size w wr ∧ Hid (v0 = idxS p (xs.drop k) k)) (fun i _ => xs.length - (intOf i).toNat)
  case atStart => exact ⟨0, by omega, rfl, Below.refl _ _, Hf⟩
  case round =>
    obtain ⟨k, hk, rfl, hb, hf⟩ := hrel
    by_cases hlt : k < xs.length
    · obtain ⟨b, o, rfl, -, hbs, h1⟩ := (HL.out.below hb).str hlt
      have hd : v0 = if p xs[k] then (k : Int) else idxS p (xs.drop (k + 1)) (k + 1) := by rw [hf.out, drop_get hlt]; rfl
      have hc := HP.out _ (List.getElem_mem hlt) _ hb
      generalize p xs[k] = q at *
      generalize xs[k] = x at *
      have HD := Lib.hid hd; have HC := Lib.hid hc
      clear hd hc hf
      go_wp2_with fail
      refine HC.out.mono ?_
      rintro e w1 ⟨rfl, hb1⟩
      cases q
      · go_wp2
        go_roundw
        case rel => exact ⟨k + 1, by omega, by go_num, next hb hb1 (Nat.le_refl _), HD.out⟩
        case measure => simp [intOf]; omega
      · go_wp2
        go_ret
        exact ⟨ret_int HD.out, next hb hb1 (Nat.le_refl _)⟩
    · go_wp2
      go_ret
      exact ⟨ret_int (by rw [hf.out, drop_end hlt]; rfl), hb⟩
theorem conB_any (A : Option Addr) (n c : Nat) (w : World) (S : Nat → Prop) (xs : List Bs) (hl : Sl w S A n c xs) (F : Nat) (caps : Array Value) (hF : ∀ (args : Array Value) (w : World), (callFunc F args).run Tryz.prog w = .ok (.enter F args) w)
    (p : Bs → Bool) (hp : ∀ x ∈ xs, ∀ w1, Below w.heap.size w w1 → Calls Tryz.prog F (#[.string ⟨x.toArray⟩] ++ caps) w1 fun e w2 => e = .returned (.bool (p x)) ∧ Below w1.heap.size w1 w2) :
    Calls Tryz.prog 148 #[.slice A n c, .func (.func F) #[] caps] w fun e w' => e = .returned (.bool (xs.any p)) ∧ Below w.heap.size w w' := by
  have h := idxB_any A n c w S xs hl F caps hF p hp
  rw [← idxS_any p xs 0]
  generalize idxS p xs 0 = z at *
  have H := Lib.hid h
  clear h hl hp
  go_enter Tryz.func148, Tryz.ntmps148
  go_wp2_with (first | (go_at_call 171; refine H.out.mono ?_; rintro e w1 ⟨rfl, hb1⟩))
  go_ret
  exact ⟨rfl, hb1⟩
end Go.Proofs.YtjopmgoacncmgaaGreatDoor
