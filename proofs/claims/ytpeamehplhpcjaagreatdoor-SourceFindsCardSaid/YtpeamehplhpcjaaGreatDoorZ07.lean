/- A part of the proofs of the laws of one package; see the law's own text, which comes last in 'order'. No conditions of its own. -/
import Derived.Lib.SplitLaws
import Derived.Test.YtpeamehplhpcjaaGreatDoorZ04
import Derived.Test.YtpeamehplhpcjaaGreatDoorZ05
import Derived.Test.YtpeamehplhpcjaaGreatDoorZ06
set_option linter.unusedVariables false
set_option linter.unusedSimpArgs false
namespace Go.Proofs.YtpeamehplhpcjaaGreatDoor
open Go.RowKit
structure LS (w : World) : Prop where
  mxl : ∃ m, w.cell? ⟨0, 0, none⟩ = some (.int .i64 m)
theorem LS.below {w w' : World} (h : LS w) (hb : Below w.heap.size w w') : LS w' := by
  obtain ⟨m, h5⟩ := h
  exact ⟨m, (hb.cell (World.block_lt_of_cell? w _ h5)).trans h5⟩
theorem LS.alloc {w : World} (h : LS w) (o : Obj) : LS (w.alloc o) := h.below ((Below.refl _ _).alloc (Nat.le_refl _) _)
theorem LS.drewN {w : World} (h : LS w) (n : Nat) : LS (w.drewN n) := h.below (dN (Below.refl _ _) n)
theorem ixb (c : UInt8) (l : Bs) : (Lib.indexByte l c = -1 ∧ ∀ x ∈ l, x ≠ c) ∨ ∃ a b, l = a ++ [c] ++ b ∧ Lib.indexByte l c = a.length ∧ ∀ x ∈ a, x ≠ c := by
  induction l with
  | nil => exact .inl ⟨rfl, fun x h => nomatch h⟩
  | cons x r ih =>
    by_cases hx : x = c
    · subst hx
      exact .inr ⟨[], r, rfl, by simp [Lib.indexByte], fun y h => nomatch h⟩
    · rcases ih with ⟨h1, h2⟩ | ⟨a, b, h1, h2, h3⟩
      · refine .inl ⟨by simp [Lib.indexByte, hx, h1], fun y hy => ?_⟩
        rcases List.mem_cons.1 hy with rfl | hy
        · exact hx
        · exact h2 y hy
      · refine .inr ⟨x :: a, b, by rw [h1]; rfl, ?_, fun y hy => ?_⟩
        · have hne : ¬ ((a.length : Int) = -1) := by omega
          simp [Lib.indexByte, hx, h2, hne]
        · rcases List.mem_cons.1 hy with rfl | hy
          · exact hx
          · exact h3 y hy
theorem split_line (c : UInt8) (a b : Bs) (h : ∀ x ∈ a, x ≠ c) : splitS c (a ++ [c] ++ b) = a :: splitS c b := by
  induction a with
  | nil => simp [splitS]
  | cons x r ih =>
    have hx := h x List.mem_cons_self
    have := ih fun y hy => h y (List.mem_cons_of_mem _ hy)
    simp only [List.cons_append]
    rw [splitS, if_neg hx]
    simp only [List.cons_append, List.nil_append, List.append_assoc] at this ⊢
    rw [this]
theorem split_lib (c : UInt8) (n : Nat) : ∀ s : Bs, s.length ≤ n → Lib.splitK [c] 0 (Lib.count s [c]) s = splitS c s := by
  induction n with
  | zero =>
    intro s hs
    have : s = [] := List.eq_nil_of_length_eq_zero (by omega)
    subst this
    have h1 : Lib.index ([] : Bs) [c] = -1 := (Lib.index_one [] c).trans rfl
    rw [Lib.count_miss h1, Lib.splitK]
    rfl
  | succ n ih =>
    intro s hs
    have hone : Lib.index s [c] = Lib.indexByte s c := Lib.index_one s c
    rcases ixb c s with ⟨h1, h2⟩ | ⟨a, b, h1, h2, h3⟩
    · rw [Lib.count_miss (by rw [hone, h1]), Lib.splitK, split_no c s]
      rw [← Bool.not_eq_true, List.contains_iff_mem]
      exact fun hm => h2 c hm rfl
    · have hi : Lib.index s [c] = (a.length : Nat) := by rw [hone, h2]
      rw [Lib.count_hit (by simp) hi]
      have hd : s.drop (a.length + ([c] : Bs).length) = b := by rw [h1]; simp
      rw [hd, Nat.add_comm, Lib.splitK, hi]
      have hne : ¬ (((a.length : Nat) : Int) == -1) = true := by simp
      rw [if_neg hne]
      have hd2 : s.drop (((a.length : Nat) : Int).toNat + ([c] : Bs).length) = b := hd
      have ht : s.take (((a.length : Nat) : Int).toNat + 0) = a := by rw [h1]; simp
      rw [hd2, ht, ih b (by rw [h1] at hs; simp at hs; omega), h1, split_line c a b h3]
theorem splitB_lib (c : UInt8) (s : Bs) : (Lib.splitB ⟨#[c]⟩ 0 (Lib.countB ⟨s.toArray⟩ ⟨#[c]⟩) ⟨s.toArray⟩).map (fun x => x.data.toList) = splitS c s := by
  rw [Lib.splitB_data]
  exact split_lib c s.length s (Nat.le_refl _)
theorem splitB_len (c : UInt8) (s : Bs) : Lib.countB ⟨s.toArray⟩ ⟨#[c]⟩ + 1 = (splitS c s).length := by
  rw [← splitB_lib, List.length_map, Lib.splitB_all ⟨#[c]⟩ (Nat.le_refl 1) 0 _ _ rfl]
theorem splitB_vals (c : UInt8) (s : Bs) : (Lib.splitB ⟨#[c]⟩ 0 (Lib.countB ⟨s.toArray⟩ ⟨#[c]⟩) ⟨s.toArray⟩).map Value.string = (splitS c s).map (fun x => Value.string ⟨x.toArray⟩) := by
  rw [← splitB_lib, List.map_map]
  exact List.map_congr_left (fun x _ => by simp)
theorem split_lens (c : UInt8) (s : Bs) : (∀ t ∈ splitS c s, t.length ≤ s.length) ∧ (splitS c s).length ≤ s.length + 1 := by
  refine ⟨?_, by rw [split_len]; have := List.count_le_length (a := c) (l := s); omega⟩
  induction s with
  | nil => intro t ht; rw [splitS, List.mem_singleton] at ht; rw [ht]; exact Nat.le_refl _
  | cons x r ih =>
    intro t ht
    unfold splitS at ht
    split at ht
    · rcases List.mem_cons.1 ht with rfl | ht
      · simp
      · have := ih t ht; simp; omega
    · split at ht
      · rw [List.mem_singleton.1 ht]; simp
      · rename_i y q he
        rw [he] at ih
        rcases List.mem_cons.1 ht with rfl | ht
        · have := ih y List.mem_cons_self; simp; omega
        · have := ih t (List.mem_cons_of_mem _ ht); simp; omega
theorem Sl.lits' {w : World} {b : Nat} {xs : List Bs} {t : TypeId} (h : w.heap[b]? = some (.cells (xs.map fun x => Value.string ⟨x.toArray⟩).toArray t (0, 0))) (hm : xs.length ≤ 9223372036854775807) {S : Nat → Prop} (hS : S b) : Sl w S (some ⟨b, 0, none⟩) xs.length xs.length xs := by
  refine ⟨rfl, Nat.le_refl _, hm, fun i hi => ⟨_, rfl, hS, fun j => .string ⟨xs[i].toArray⟩, fun j hj => ?_, rfl⟩⟩
  have hj : j < 1 := hj
  obtain rfl : j = 0 := by omega
  rw [add_plain, cell_blk h]
  show (xs.map fun x => Value.string ⟨x.toArray⟩).toArray[0 + (i * 1 + 0)]? = _
  simp [hi]
theorem split_any (c : UInt8) (s : Bs) (w : World) (hL : LS w) (hs : s.length ≤ 4294967000) :
    Calls Tryz.prog 75 #[.string ⟨s.toArray⟩, .string ⟨#[c]⟩] w fun e w' => e = .returned (.slice (some ⟨w.heap.size, 0, none⟩) (splitS c s).length (splitS c s).length) ∧ Own w' (fun _ => False) w.heap.size 9 (some ⟨w.heap.size, 0, none⟩) (splitS c s).length (splitS c s) ∧ Below w.heap.size w w' := by
  obtain ⟨m, hm⟩ := hL.mxl
  refine (Tryz.strings_Split ⟨s.toArray⟩ ⟨#[c]⟩ m w (by simp [ByteArray.size]; omega) hm (by show 1 ≤ 1; decide)).mono ?_
  rintro e w' ⟨rfl, rfl⟩
  rw [splitB_len, splitB_vals]
  refine ⟨rfl, Own.lit (cs := (splitS c s).map fun x => Value.string ⟨x.toArray⟩) (blkAt w _ rfl) (Nat.le_refl _) (by simp [GoT.size]) (by have := (split_lens c s).2; omega) (fun i hi => ?_), boxed⟩
  show List.getD _ (i * 1 + 0) undef = _
  rw [List.getD_eq_getElem?_getD]
  simp [hi]
theorem contains1_any (c : UInt8) (s : Bs) (w : World) (hL : LS w) (hs : s.length ≤ 4294967000) :
    Calls Tryz.prog 32 #[.string ⟨s.toArray⟩, .string ⟨#[c]⟩] w fun e w' => e = .returned (.bool (s.contains c)) ∧ w' = w := by
  obtain ⟨m, hm⟩ := hL.mxl
  refine (Tryz.strings_Contains ⟨s.toArray⟩ ⟨#[c]⟩ m w (by simp [ByteArray.size]; omega) hm).mono ?_
  rintro e w' ⟨rfl, rfl⟩
  refine ⟨?_, rfl⟩
  refine ret_bool ?_
  show s.contains c = Lib.contains s [c]
  unfold Lib.contains
  rw [Lib.index_one s c, Bool.eq_iff_iff, decide_eq_true_eq]
  exact (indexByte_pos s c).symm
def at64 : Bs → Bool
  | 64 :: _ => true
  | _ => false
def cut64 : Bs → Bs
  | 64 :: r => r
  | s => s
theorem at64_cases (s : Bs) : (∃ r, s = 64 :: r ∧ at64 s = true ∧ cut64 s = r) ∨ ((∀ r, s ≠ 64 :: r) ∧ at64 s = false ∧ cut64 s = s) := by
  cases s with
  | nil => exact .inr ⟨(fun r h => by cases h), rfl, rfl⟩
  | cons x r =>
    by_cases h : x = 64
    · subst h; exact .inl ⟨r, rfl, rfl, rfl⟩
    · right
      refine ⟨fun r' e => h (by injection e), ?_, ?_⟩
      · unfold at64; split
        · rename_i e; injection e with e _; exact absurd e h
        · rfl
      · unfold cut64; split
        · rename_i e; injection e with e _; exact absurd e h
        · rfl
theorem cutAt_any (s : Bs) (w : World) :
    Calls Tryz.prog 41 #[.string ⟨s.toArray⟩, .string ⟨#[64]⟩] w fun e w' => e = .returned (.tuple #[.string ⟨(cut64 s).toArray⟩, .bool (at64 s)]) ∧ w' = w := by
  refine (Tryz.strings_CutPrefix ⟨s.toArray⟩ ⟨#[64]⟩ w).mono ?_
  rintro e w' ⟨rfl, rfl⟩
  refine ⟨?_, rfl⟩
  have h1 : Lib.hasPrefix s [64] = at64 s := by
    rcases at64_cases s with ⟨r, rfl, h2, h3⟩ | ⟨h1, h2, h3⟩
    · rfl
    · rw [h2]
      cases s with
      | nil => rfl
      | cons x r =>
        have hx : ((64 : UInt8) == x) = false := by rw [beq_eq_false_iff_ne]; exact fun e => h1 r (by rw [← e])
        show (((64 : UInt8) == x) && List.isPrefixOf [] r) = false
        rw [hx]
        rfl
  have h2 : Lib.trimPrefix s [64] = cut64 s := by
    unfold Lib.trimPrefix
    rw [h1]
    rcases at64_cases s with ⟨r, rfl, h2, h3⟩ | ⟨h1, h2, h3⟩
    · rfl
    · rw [h2, h3]; rfl
  show Ending.returned (.tuple #[.string ⟨(Lib.trimPrefix s [64]).toArray⟩, .bool (Lib.hasPrefix s [64])]) = _
  rw [h1, h2]
end Go.Proofs.YtpeamehplhpcjaaGreatDoor
namespace Go.Proofs.YtpeamehplhpcjaaGreatDoor
open Go.RowKit
def idxS {α : Type} (p : α → Bool) : List α → Nat → Int
  | [], _ => -1
  | x :: r, k => if p x then (k : Int) else idxS p r (k + 1)
theorem idxS_any {α : Type} (p : α → Bool) (l : List α) (k : Nat) : decide (0 ≤ idxS p l k) = l.any p := by
  induction l generalizing k with
  | nil => rfl
  | cons x r ih =>
    unfold idxS
    by_cases h : p x = true
    · simp [h]
    · simp [h, ih]
def VItm (w : World) (S : Nat → Prop) (v : Value) (x : Itm) : Prop := ∃ A n c, v = .agg #[.string ⟨x.name.toArray⟩, .int .i64 x.kind, .int .i64 x.mode, .slice A n c, .string ⟨x.body.path.toArray⟩, .int .i64 x.body.fr, .int .i64 x.body.tu] ∧ Sl w S A n c x.params
set_option maxHeartbeats 800000 in
theorem idxB_any (A : Option Addr) (n c : Nat) (w : World) (S : Nat → Prop) (xs : List Bs) (hl : Sl w S A n c xs) (F : Nat) (caps : Array Value) (hF : ∀ (args : Array Value) (w : World), (callFunc F args).run Tryz.prog w = .ok (.enter F args) w)
    (p : Bs → Bool) (hp : ∀ x ∈ xs, ∀ w1, Below w.heap.size w w1 → Calls Tryz.prog F (#[.string ⟨x.toArray⟩] ++ caps) w1 fun e w2 => e = .returned (.bool (p x)) ∧ Below w1.heap.size w1 w2) :
    Calls Tryz.prog 74 #[.slice A n c, .func (.func F) #[] caps] w fun e w' => e = .returned (.int .i64 (idxS p xs 0)) ∧ Below w.heap.size w w' := by
  have hn := hl.le
  have hlen := hl.len
  subst hlen
  have HL := Lib.hid hl; have HP := Lib.hid hp; clear hl hp
  obtain ⟨v0, hv⟩ : ∃ v0, v0 = idxS p xs 0 := ⟨_, rfl⟩
  rw [← hv]
  have Hf : Hid (v0 = idxS p (xs.drop 0) 0) := hv
  clear hv
  go_enter Tryz.func74, Tryz.ntmps74
  go_wp2_with fail
  go_loopw [8] (fun i wr => ∃ k : Nat, k ≤ xs.length ∧ i = .int .i64 k ∧ Below w.heap.size w wr ∧ Hid (v0 = idxS p (xs.drop k) k)) (fun i _ => xs.length - (intOf i).toNat)
  case atStart => exact ⟨0, by omega, rfl, Below.refl _ _, Hf⟩
  case round =>
    obtain ⟨k, hk, rfl, hb, hf⟩ := hrel
    by_cases hlt : k < xs.length
    · obtain ⟨b, o, rfl, -, hbs, h1⟩ := (HL.out.below hb).str hlt
      have hd : v0 = if p xs[k] then (k : Int) else idxS p (xs.drop (k + 1)) (k + 1) := by rw [hf.out, drop_get hlt]; rfl
      have hc := HP.out _ (List.getElem_mem hlt) _ hb
      generalize p xs[k] = q at *
      generalize xs[k] = x at *
      have HD := Lib.hid hd; have HC := Lib.hid hc
      clear hd hc hf
      go_wp2_with fail
      refine HC.out.mono ?_
      rintro e w1 ⟨rfl, hb1⟩
      cases q
      · go_wp2
        go_roundw
        case rel => exact ⟨k + 1, by omega, by go_num, next hb hb1 (Nat.le_refl _), HD.out⟩
        case measure => simp [intOf]; omega
      · go_wp2
        go_ret
        exact ⟨ret_int HD.out, next hb hb1 (Nat.le_refl _)⟩
    · go_wp2
      go_ret
      exact ⟨ret_int (by rw [hf.out, drop_end hlt]; rfl), hb⟩
theorem conB_any (A : Option Addr) (n c : Nat) (w : World) (S : Nat → Prop) (xs : List Bs) (hl : Sl w S A n c xs) (F : Nat) (caps : Array Value) (hF : ∀ (args : Array Value) (w : World), (callFunc F args).run Tryz.prog w = .ok (.enter F args) w)
    (p : Bs → Bool) (hp : ∀ x ∈ xs, ∀ w1, Below w.heap.size w w1 → Calls Tryz.prog F (#[.string ⟨x.toArray⟩] ++ caps) w1 fun e w2 => e = .returned (.bool (p x)) ∧ Below w1.heap.size w1 w2) :
    Calls Tryz.prog 78 #[.slice A n c, .func (.func F) #[] caps] w fun e w' => e = .returned (.bool (xs.any p)) ∧ Below w.heap.size w w' := by
  have h := idxB_any A n c w S xs hl F caps hF p hp
  rw [← idxS_any p xs 0]
  generalize idxS p xs 0 = z at *
  have H := Lib.hid h
  clear h hl hp
  go_enter Tryz.func78, Tryz.ntmps78
  go_wp2_with (first | (go_at_call 74; refine H.out.mono ?_; rintro e w1 ⟨rfl, hb1⟩))
  go_ret
  exact ⟨rfl, hb1⟩
set_option maxHeartbeats 800000 in
theorem idxF_any (A : Option Addr) (n c : Nat) (w : World) (S : Nat → Prop) (xs : List Fil) (hl : Sl w S A n c xs) (F : Nat) (caps : Array Value) (hF : ∀ (args : Array Value) (w : World), (callFunc F args).run Tryz.prog w = .ok (.enter F args) w)
    (p : Fil → Bool) (hp : ∀ x ∈ xs, ∀ w1, Below w.heap.size w w1 → Calls Tryz.prog F (#[.agg #[.string ⟨x.path.toArray⟩, .string ⟨x.data.toArray⟩]] ++ caps) w1 fun e w2 => e = .returned (.bool (p x)) ∧ Below w1.heap.size w1 w2) :
    Calls Tryz.prog 72 #[.slice A n c, .func (.func F) #[] caps] w fun e w' => e = .returned (.int .i64 (idxS p xs 0)) ∧ Below w.heap.size w w' := by
  have hn := hl.le
  have hlen := hl.len
  subst hlen
  have HL := Lib.hid hl; have HP := Lib.hid hp; clear hl hp
  obtain ⟨v0, hv⟩ : ∃ v0, v0 = idxS p xs 0 := ⟨_, rfl⟩
  rw [← hv]
  have Hf : Hid (v0 = idxS p (xs.drop 0) 0) := hv
  clear hv
  go_enter Tryz.func72, Tryz.ntmps72
  go_wp2_with fail
  go_loopw [8] (fun i wr => ∃ k : Nat, k ≤ xs.length ∧ i = .int .i64 k ∧ Below w.heap.size w wr ∧ Hid (v0 = idxS p (xs.drop k) k)) (fun i _ => xs.length - (intOf i).toNat)
  case atStart => exact ⟨0, by omega, rfl, Below.refl _ _, Hf⟩
  case round =>
    obtain ⟨k, hk, rfl, hb, hf⟩ := hrel
    by_cases hlt : k < xs.length
    · obtain ⟨b, o, rfl, -, hbs, h1, h2⟩ := (HL.out.below hb).fil hlt
      have hd : v0 = if p xs[k] then (k : Int) else idxS p (xs.drop (k + 1)) (k + 1) := by rw [hf.out, drop_get hlt]; rfl
      have hc := HP.out _ (List.getElem_mem hlt) _ hb
      generalize p xs[k] = q at *
      generalize xs[k] = x at *
      have HD := Lib.hid hd; have HC := Lib.hid hc
      clear hd hc hf
      go_wp2_with fail
      refine HC.out.mono ?_
      rintro e w1 ⟨rfl, hb1⟩
      cases q
      · go_wp2
        go_roundw
        case rel => exact ⟨k + 1, by omega, by go_num, next hb hb1 (Nat.le_refl _), HD.out⟩
        case measure => simp [intOf]; omega
      · go_wp2
        go_ret
        exact ⟨ret_int HD.out, next hb hb1 (Nat.le_refl _)⟩
    · go_wp2
      go_ret
      exact ⟨ret_int (by rw [hf.out, drop_end hlt]; rfl), hb⟩
theorem conF_any (A : Option Addr) (n c : Nat) (w : World) (S : Nat → Prop) (xs : List Fil) (hl : Sl w S A n c xs) (F : Nat) (caps : Array Value) (hF : ∀ (args : Array Value) (w : World), (callFunc F args).run Tryz.prog w = .ok (.enter F args) w)
    (p : Fil → Bool) (hp : ∀ x ∈ xs, ∀ w1, Below w.heap.size w w1 → Calls Tryz.prog F (#[.agg #[.string ⟨x.path.toArray⟩, .string ⟨x.data.toArray⟩]] ++ caps) w1 fun e w2 => e = .returned (.bool (p x)) ∧ Below w1.heap.size w1 w2) :
    Calls Tryz.prog 30 #[.slice A n c, .func (.func F) #[] caps] w fun e w' => e = .returned (.bool (xs.any p)) ∧ Below w.heap.size w w' := by
  have h := idxF_any A n c w S xs hl F caps hF p hp
  rw [← idxS_any p xs 0]
  generalize idxS p xs 0 = z at *
  have H := Lib.hid h
  clear h hl hp
  go_enter Tryz.func30, Tryz.ntmps30
  go_wp2_with (first | (go_at_call 72; refine H.out.mono ?_; rintro e w1 ⟨rfl, hb1⟩))
  go_ret
  exact ⟨rfl, hb1⟩
set_option maxHeartbeats 800000 in
theorem idxI_any (A : Option Addr) (n c : Nat) (w : World) (S : Nat → Prop) (xs : List Itm) (hl : Sl w S A n c xs) (F : Nat) (caps : Array Value) (hF : ∀ (args : Array Value) (w : World), (callFunc F args).run Tryz.prog w = .ok (.enter F args) w)
    (p : Itm → Bool) (hp : ∀ x ∈ xs, ∀ w1, Below w.heap.size w w1 → ∀ v, VItm w1 S v x → Calls Tryz.prog F (#[v] ++ caps) w1 fun e w2 => e = .returned (.bool (p x)) ∧ Below w1.heap.size w1 w2) :
    Calls Tryz.prog 64 #[.slice A n c, .func (.func F) #[] caps] w fun e w' => e = .returned (.int .i64 (idxS p xs 0)) ∧ Below w.heap.size w w' := by
  have hn := hl.le
  have hlen := hl.len
  subst hlen
  have HL := Lib.hid hl; have HP := Lib.hid hp; clear hl hp
  obtain ⟨v0, hv⟩ : ∃ v0, v0 = idxS p xs 0 := ⟨_, rfl⟩
  rw [← hv]
  have Hf : Hid (v0 = idxS p (xs.drop 0) 0) := hv
  clear hv
  go_enter Tryz.func64, Tryz.ntmps64
  go_wp2_with fail
  go_loopw [8] (fun i wr => ∃ k : Nat, k ≤ xs.length ∧ i = .int .i64 k ∧ Below w.heap.size w wr ∧ Hid (v0 = idxS p (xs.drop k) k)) (fun i _ => xs.length - (intOf i).toNat)
  case atStart => exact ⟨0, by omega, rfl, Below.refl _ _, Hf⟩
  case round =>
    obtain ⟨k, hk, rfl, hb, hf⟩ := hrel
    by_cases hlt : k < xs.length
    · obtain ⟨b, o, rfl, -, hbs, A1, n1, c1, h1, h2, h3, h4, h5, h6, h7, hs⟩ := (HL.out.below hb).itm hlt
      have hd : v0 = if p xs[k] then (k : Int) else idxS p (xs.drop (k + 1)) (k + 1) := by rw [hf.out, drop_get hlt]; rfl
      have hc := HP.out _ (List.getElem_mem hlt) _ hb _ ⟨A1, n1, c1, rfl, hs⟩
      generalize p xs[k] = q at *
      generalize xs[k] = x at *
      have HD := Lib.hid hd; have HC := Lib.hid hc; have HS := Lib.hid hs; clear hs
      clear hd hc hf
      go_wp2_with fail
      refine HC.out.mono ?_
      rintro e w1 ⟨rfl, hb1⟩
      cases q
      · go_wp2
        go_roundw
        case rel => exact ⟨k + 1, by omega, by go_num, next hb hb1 (Nat.le_refl _), HD.out⟩
        case measure => simp [intOf]; omega
      · go_wp2
        go_ret
        exact ⟨ret_int HD.out, next hb hb1 (Nat.le_refl _)⟩
    · go_wp2
      go_ret
      exact ⟨ret_int (by rw [hf.out, drop_end hlt]; rfl), hb⟩
theorem conI_any (A : Option Addr) (n c : Nat) (w : World) (S : Nat → Prop) (xs : List Itm) (hl : Sl w S A n c xs) (F : Nat) (caps : Array Value) (hF : ∀ (args : Array Value) (w : World), (callFunc F args).run Tryz.prog w = .ok (.enter F args) w)
    (p : Itm → Bool) (hp : ∀ x ∈ xs, ∀ w1, Below w.heap.size w w1 → ∀ v, VItm w1 S v x → Calls Tryz.prog F (#[v] ++ caps) w1 fun e w2 => e = .returned (.bool (p x)) ∧ Below w1.heap.size w1 w2) :
    Calls Tryz.prog 25 #[.slice A n c, .func (.func F) #[] caps] w fun e w' => e = .returned (.bool (xs.any p)) ∧ Below w.heap.size w w' := by
  have h := idxI_any A n c w S xs hl F caps hF p hp
  rw [← idxS_any p xs 0]
  generalize idxS p xs 0 = z at *
  have H := Lib.hid h
  clear h hl hp
  go_enter Tryz.func25, Tryz.ntmps25
  go_wp2_with (first | (go_at_call 64; refine H.out.mono ?_; rintro e w1 ⟨rfl, hb1⟩))
  go_ret
  exact ⟨rfl, hb1⟩
end Go.Proofs.YtpeamehplhpcjaaGreatDoor
namespace Go.Proofs.YtpeamehplhpcjaaGreatDoor
open Go.RowKit
def partN (x : Nat) : Bool := decide (97 ≤ x ∧ x ≤ 122) || decide (48 ≤ x ∧ x ≤ 57) || x == 46 || x == 95 || x == 45
theorem partC_N (c : UInt8) : partC c = partN c.toNat := by
  have h : ∀ k : Nat, k < 256 → ((c == UInt8.ofNat k) = (c.toNat == k)) := by
    intro k hk
    rw [Bool.eq_iff_iff, beq_iff_eq, beq_iff_eq]
    constructor
    · rintro rfl; simp; omega
    · intro e; rw [← e]; simp
  unfold partC partN
  rw [show (46 : UInt8) = UInt8.ofNat 46 from rfl, show (95 : UInt8) = UInt8.ofNat 95 from rfl, show (45 : UInt8) = UInt8.ofNat 45 from rfl, h 46 (by decide), h 95 (by decide), h 45 (by decide)]
set_option maxHeartbeats 1000000 in
theorem part1_any (c : Nat) (w : World) :
    Calls Tryz.prog 107 #[.int .i32 c] w fun e w' => e = .returned (.bool (!partN c)) ∧ w = w' := by
  go_enter Tryz.func107, Tryz.ntmps107
  go_wp2
  all_goals go_ret
  all_goals (refine ⟨ret_bool ?_, rfl⟩; unfold partN; rw [Bool.eq_iff_iff]; simp; omega)
theorem any_idx (p : Nat → Bool) (hp : ∀ x, 128 ≤ x → p x = true) (l : Bs) : decide (0 ≤ Lib.idxFunc p true ⟨l.toArray⟩) = !l.all (fun c => !p c.toNat) := by
  unfold Lib.idxFunc
  have hsz : (ByteArray.mk l.toArray).size = l.length := by simp [ByteArray.size]
  rw [idxFunc_from _ _ hp _ 0 (by omega) (by omega)]
  simp only [List.drop_zero, Nat.zero_add]
  have hle : (l.takeWhile (fun c => !p c.toNat)).length ≤ l.length := (List.takeWhile_sublist _).length_le
  by_cases h : (l.takeWhile (fun c => !p c.toNat)).length < l.length
  · rw [if_pos h]
    have : ¬ l.all (fun c => !p c.toNat) = true := fun e => by have := tw_all.2 e; omega
    rw [Bool.not_eq_true] at this
    rw [this]
    simp
  · rw [if_neg h, tw_all.1 (by omega)]
    decide
theorem partN_high (x : Nat) (h : 128 ≤ x) : (!partN x) = true := by
  unfold partN
  simp
  omega
set_option maxHeartbeats 1000000 in
theorem part_any (s : Bs) (w : World) :
    Calls Tryz.prog 80 #[.string ⟨s.toArray⟩] w fun e w' => e = .returned (.bool (partS s)) ∧ Below w.heap.size w w' := by
  have hidx := any_idx (fun x => !partN x) (fun x hx => partN_high x hx) s
  have hall : (s.all fun c => !!partN c.toNat) = s.all partC := by congr 1; funext c; rw [Bool.not_not, partC_N]
  rw [hall] at hidx
  have hc := Tryz.strings_ContainsFunc_grows 107 #[] (fun _ _ => by kernel_rfl) (fun x => !partN x) ⟨s.toArray⟩ w (by
    intro W x hx hb
    refine (part1_any x W).mono ?_
    rintro e w' ⟨rfl, rfl⟩
    exact ⟨rfl, Below.refl _ _⟩)
  rw [hidx] at hc
  have hspec : partS s = (!s.isEmpty && decide (s.length ≤ 32) && s.headD 0 != 46 && s.headD 0 != 45 && s.all partC) := rfl
  generalize s.all partC = q at *
  generalize partS s = v at *
  have HC := Lib.hid hc; have HS := Lib.hid hspec
  clear hc hidx hall hspec
  cases s with
  | nil =>
    go_enter Tryz.func80, Tryz.ntmps80
    go_wp2_with fail
    go_ret
    exact ⟨ret_bool (by rw [HS.out]; rfl), Below.refl _ _⟩
  | cons c r =>
    have hne : ¬ ((c :: r : Bs) = []) := by simp
    by_cases h32 : (32 : Int) < ((c :: r : Bs).length : Int)
    · have h32' : (32 : Int) < (r.length : Int) + 1 := by simp only [List.length_cons] at h32; omega
      go_enter Tryz.func80, Tryz.ntmps80
      go_wp2_with fail
      go_ret
      refine ⟨ret_bool ?_, Below.refl _ _⟩
      rw [HS.out]
      have : decide ((c :: r : Bs).length ≤ 32) = false := by rw [decide_eq_false_iff_not]; omega
      rw [this]; simp
    · have h32' : ¬ (32 : Int) < (r.length : Int) + 1 := by simp only [List.length_cons] at h32; omega
      have hlen : decide ((c :: r : Bs).length ≤ 32) = true := by rw [decide_eq_true_eq]; omega
      rw [hlen] at HS
      by_cases h46 : c.toNat = 46
      · have hc46 : c = 46 := UInt8.toNat_inj.1 h46
        subst hc46
        go_enter Tryz.func80, Tryz.ntmps80
        go_wp2_with fail
        go_ret
        exact ⟨ret_bool (by rw [HS.out]; rfl), Below.refl _ _⟩
      · by_cases h45 : c.toNat = 45
        · have hc45 : c = 45 := UInt8.toNat_inj.1 h45
          subst hc45
          go_enter Tryz.func80, Tryz.ntmps80
          go_wp2_with fail
          go_ret
          exact ⟨ret_bool (by rw [HS.out]; rfl), Below.refl _ _⟩
        · have hv : v = q := by
            rw [HS.out]
            have h1 : (c != 46) = true := by rw [bne_iff_ne]; exact fun e => h46 (by rw [e]; rfl)
            have h2 : (c != 45) = true := by rw [bne_iff_ne]; exact fun e => h45 (by rw [e]; rfl)
            simp [h1, h2]
          have HV := Lib.hid hv
          have hb46 : ((c.toNat : Int) == 46) = false := by rw [beq_eq_false_iff_ne]; omega
          have hb45 : ((c.toNat : Int) == 45) = false := by rw [beq_eq_false_iff_ne]; omega
          clear hv HS hlen
          go_enter Tryz.func80, Tryz.ntmps80
          go_wp2_with fail
          refine HC.out.mono ?_
          rintro e w1 ⟨rfl, hb⟩
          go_wp2_with fail
          go_ret
          exact ⟨ret_bool (by rw [HV.out]), hb⟩
theorem path1_any (s : Bs) (w : World) :
    Calls Tryz.prog 79 #[.string ⟨s.toArray⟩] w fun e w' => e = .returned (.bool (!partS s)) ∧ Below w.heap.size w w' := by
  have h := part_any s w
  generalize partS s = v at *
  have H := Lib.hid h; clear h
  go_enter Tryz.func79, Tryz.ntmps79
  go_wp2_with fail
  refine H.out.mono ?_
  rintro e w1 ⟨rfl, hb⟩
  go_wp2_with fail
  go_ret
  exact ⟨rfl, hb⟩
theorem any_not_all {α : Type} (p : α → Bool) (l : List α) : (l.any fun x => !p x) = !l.all p := by
  induction l with
  | nil => rfl
  | cons x r ih => simp [List.any_cons, List.all_cons, ih]
def errB (b : Bool) : Int := if b then 0 else 2
set_option maxHeartbeats 1000000 in
theorem path_any (s : Bs) (w : World) (hL : LS w) (hs : s.length ≤ 4294967000) :
    Calls Tryz.prog 39 #[.string ⟨s.toArray⟩] w fun e w' => e = .returned (.int .i64 (errB (pathS s))) ∧ Below w.heap.size w w' := by
  have hsp := split_any 47 s w hL hs
  have hln := (split_lens 47 s).2
  have hspec : pathS s = (decide (s.length ≤ 128) && decide ((splitS 47 s).length ≤ 8) && (splitS 47 s).all partS) := rfl
  have hany : ∀ w1 A c, Sl w1 (fun _ => True) A (splitS 47 s).length c (splitS 47 s) → Calls Tryz.prog 78 #[.slice A (splitS 47 s).length c, .func (.func 79) #[] #[]] w1 fun e w' => e = .returned (.bool (!(splitS 47 s).all partS)) ∧ Below w1.heap.size w1 w' := by
    intro w1 A c h
    rw [← any_not_all]
    exact conB_any A _ c w1 _ _ h 79 #[] (fun _ _ => by kernel_rfl) (fun x => !partS x) (fun x _ w2 _ => path1_any x w2)
  generalize splitS 47 s = l at *
  generalize l.all partS = q at *
  generalize pathS s = v at *
  have HSP := Lib.hid hsp; have HS := Lib.hid hspec; have HA := Lib.hid hany
  clear hsp hspec hany
  go_enter Tryz.func39, Tryz.ntmps39
  go_wp2_with fail
  refine HSP.out.mono ?_
  rintro e w1 ⟨rfl, ho, hb⟩
  have HO := Lib.hid (ho.sl (by decide)); have HB := Lib.hid hb
  clear ho hb HSP
  by_cases h1 : (128 : Int) < (s.length : Int)
  · go_wp2_with fail
    go_ret
    refine ⟨ret_int ?_, HB.out⟩
    have : decide (s.length ≤ 128) = false := by rw [decide_eq_false_iff_not]; omega
    rw [HS.out, this]; rfl
  · have e1 : decide (s.length ≤ 128) = true := by rw [decide_eq_true_eq]; omega
    by_cases h2 : (8 : Int) < (l.length : Int)
    · go_wp2_with fail
      go_ret
      refine ⟨ret_int ?_, HB.out⟩
      have : decide (l.length ≤ 8) = false := by rw [decide_eq_false_iff_not]; omega
      rw [HS.out, e1, this]; rfl
    · have e2 : decide (l.length ≤ 8) = true := by rw [decide_eq_true_eq]; omega
      rw [e1, e2] at HS
      go_wp2_with fail
      refine (HA.out w1 _ _ (HO.out.any)).mono ?_
      rintro e w2 ⟨rfl, hb2⟩
      have HB2 := Lib.hid (HB.out.trans (hb2.mono HB.out.size))
      clear hb2
      cases q
      · go_wp2_with fail
        go_ret
        exact ⟨ret_int (by rw [HS.out]; rfl), HB2.out⟩
      · go_wp2_with fail
        go_ret
        exact ⟨ret_int (by rw [HS.out]; rfl), HB2.out⟩
end Go.Proofs.YtpeamehplhpcjaaGreatDoor
namespace Go.Proofs.YtpeamehplhpcjaaGreatDoor
open Go.RowKit
theorem isRef_cut (s : Bs) : isRefS s = (pathS (cut64 s) && (!at64 s || (cut64 s).contains 47)) := by
  rcases at64_cases s with ⟨r, rfl, h2, h3⟩ | ⟨h1, h2, h3⟩
  · rfl
  · rw [h2, h3]
    unfold isRefS
    split
    · exact absurd rfl (h1 _)
    · simp
theorem cut64_len (s : Bs) : (cut64 s).length ≤ s.length := by
  rcases at64_cases s with ⟨r, rfl, h2, h3⟩ | ⟨h1, h2, h3⟩
  · rw [h3]; simp
  · rw [h3]; exact Nat.le_refl _
def refPath (name ref : Bs) : Bs := if at64 ref then cut64 ref else name ++ 47 :: ref
theorem ref_cut (name ref : Bs) : refS name ref = if name.contains 47 || !pathS name || !isRefS ref then ([], 2) else if pathS (refPath name ref) then (refPath name ref, 0) else ([], 2) := by
  unfold refS refPath
  split
  · rfl
  · rcases at64_cases ref with ⟨r, rfl, h2, h3⟩ | ⟨h1, h2, h3⟩
    · rfl
    · rw [h2]
      split
      · exact absurd rfl (h1 _)
      · rfl
set_option maxHeartbeats 1000000 in
theorem isref_any (s : Bs) (w : World) (hL : LS w) (hs : s.length ≤ 4294967000) :
    Calls Tryz.prog 40 #[.string ⟨s.toArray⟩] w fun e w' => e = .returned (.bool (isRefS s)) ∧ Below w.heap.size w w' := by
  have hc := cutAt_any s w
  have hl := cut64_len s
  have hp := path_any (cut64 s) w hL (by omega)
  have hk := fun w (h : LS w) => contains1_any 47 (cut64 s) w h (by omega)
  rw [isRef_cut]
  generalize cut64 s = p at *
  generalize at64 s = a at *
  generalize pathS p = q at *
  generalize p.contains 47 = k at *
  have HC := Lib.hid hc; have HP := Lib.hid hp; have HK := Lib.hid hk; have HL := Lib.hid hL
  clear hc hp hk hL
  go_enter Tryz.func40, Tryz.ntmps40
  go_wp2_with fail
  refine HC.out.mono ?_
  rintro e w0 ⟨rfl, rfl⟩
  go_wp2_with fail
  refine HP.out.mono ?_
  rintro e w1 ⟨rfl, hb⟩
  have HB := Lib.hid hb; clear hb
  cases q
  · unfold errB
    go_wp2_with fail
    go_ret
    exact ⟨rfl, HB.out⟩
  · unfold errB
    cases a
    · go_wp2_with fail
      go_ret
      exact ⟨rfl, HB.out⟩
    · go_wp2_with fail
      refine (HK.out w1 (HL.out.below HB.out)).mono ?_
      rintro e w2 ⟨rfl, rfl⟩
      go_wp2_with fail
      go_ret
      exact ⟨rfl, HB.out⟩
set_option maxHeartbeats 2000000 in
theorem ref_any (name ref : Bs) (w : World) (hL : LS w) (hs : name.length ≤ 2000000000) (hs2 : ref.length ≤ 2000000000) :
    Calls Tryz.prog 10 #[.string ⟨name.toArray⟩, .string ⟨ref.toArray⟩] w fun e w' => e = .returned (.tuple #[.string ⟨(refS name ref).1.toArray⟩, .int .i64 (refS name ref).2]) ∧ Below w.heap.size w w' := by
  have hk := contains1_any 47 name w hL (by omega)
  have hp := path_any name w hL (by omega)
  have hr := fun w h => isref_any ref w h (by omega)
  have hc := fun w => cutAt_any ref w
  have hrl : (refPath name ref).length ≤ name.length + 1 + ref.length := by
    unfold refPath
    have := cut64_len ref
    split
    · omega
    · simp; omega
  have hp2 := fun w h => path_any (refPath name ref) w h (by omega)
  have hR := ref_cut name ref
  have hrp : refPath name ref = if at64 ref then cut64 ref else name ++ [47] ++ cut64 ref := by
    unfold refPath
    rcases at64_cases ref with ⟨r, rfl, h2, h3⟩ | ⟨h1, h2, h3⟩
    · rfl
    · rw [h2, h3]; simp
  have hcl := cut64_len ref
  generalize refS name ref = R at *
  generalize refPath name ref = P at *
  generalize cut64 ref = p at *
  generalize at64 ref = a at *
  generalize name.contains 47 = k at *
  generalize pathS name = q at *
  generalize isRefS ref = f at *
  generalize hpP : pathS P = z at *
  have HK := Lib.hid hk; have HP := Lib.hid hp; have HR := Lib.hid hr; have HC := Lib.hid hc; have HP2 := Lib.hid hp2; have HL := Lib.hid hL; have HRR := Lib.hid hR; have HRP := Lib.hid hrp
  clear hk hp hr hc hp2 hL hR hrp hpP
  go_enter Tryz.func10, Tryz.ntmps10
  go_wp2_with fail
  refine HK.out.mono ?_
  rintro e w0 ⟨rfl, rfl⟩
  cases k with
  | true =>
    go_wp2_with fail
    have hR : R = ([], 2) := by rw [HRR.out]; rfl
    subst hR
    go_ret2
    exact ⟨rfl, Below.refl _ _⟩
  | false =>
    go_wp2_with fail
    refine HP.out.mono ?_
    rintro e w1 ⟨rfl, hb⟩
    have HB := Lib.hid hb; clear hb
    cases q with
    | false =>
      unfold errB
      go_wp2_with fail
      have hR : R = ([], 2) := by rw [HRR.out]; rfl
      subst hR
      go_ret2
      exact ⟨rfl, HB.out⟩
    | true =>
      unfold errB
      go_wp2_with fail
      refine (HR.out w1 (HL.out.below HB.out)).mono ?_
      rintro e w2 ⟨rfl, hb⟩
      have HB2 := Lib.hid (HB.out.trans (hb.mono HB.out.size)); clear hb
      cases f with
      | false =>
        go_wp2_with fail
        have hR : R = ([], 2) := by rw [HRR.out]; rfl
        subst hR
        go_ret2
        exact ⟨rfl, HB2.out⟩
      | true =>
        have hR : R = if z then (P, 0) else ([], 2) := by rw [HRR.out]; rfl
        have HR2 := Lib.hid hR; clear hR HRR
        cases a with
        | true =>
          have hP : P = p := HRP.out
          subst hP
          go_wp2_with fail
          refine (HC.out w2).mono ?_
          rintro e w3 ⟨rfl, rfl⟩
          go_wp2_with fail
          refine (HP2.out w3 (HL.out.below HB2.out)).mono ?_
          rintro e w4 ⟨rfl, hb⟩
          have HB4 := Lib.hid (HB2.out.trans (hb.mono HB2.out.size)); clear hb
          cases z with
          | false =>
            unfold errB
            have hR : R = ([], 2) := HR2.out
            subst hR
            go_wp2_with fail
            go_ret2
            exact ⟨rfl, HB4.out⟩
          | true =>
            unfold errB
            have hR : R = (P, 0) := HR2.out
            subst hR
            go_wp2_with fail
            go_ret2
            exact ⟨rfl, HB4.out⟩
        | false =>
          have hP : P = name ++ 47 :: p := HRP.out.trans (by simp)
          subst hP
          have hl1 : ¬ (9223372036854775807 < name.length + 1) := by omega
          have hl2 : ¬ (9223372036854775807 < name.length + 1 + p.length) := by omega
          go_wp2_with fail
          refine (HC.out w2).mono ?_
          rintro e w3 ⟨rfl, rfl⟩
          go_wp2_with fail
          refine (HP2.out w3 (HL.out.below HB2.out)).mono ?_
          rintro e w4 ⟨rfl, hb⟩
          have HB4 := Lib.hid (HB2.out.trans (hb.mono HB2.out.size)); clear hb
          cases z with
          | false =>
            unfold errB
            have hR : R = ([], 2) := HR2.out
            subst hR
            go_wp2_with fail
            go_ret2
            exact ⟨rfl, HB4.out⟩
          | true =>
            unfold errB
            have hR : R = (name ++ 47 :: p, 0) := HR2.out
            subst hR
            go_wp2_with fail
            go_ret2
            exact ⟨rfl, HB4.out⟩
end Go.Proofs.YtpeamehplhpcjaaGreatDoor
