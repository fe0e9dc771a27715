/- A part of the proofs of the laws of one package; see the law's own text, which comes last in 'order'. No conditions of its own. -/
import Derived.Lib.SplitLaws
import Derived.Test.YtpeamehplhpcjaaGreatDoorWC05
import Derived.Test.YtpeamehplhpcjaaGreatDoorWC06
import Derived.Test.YtpeamehplhpcjaaGreatDoorWC07
set_option linter.unusedVariables false
set_option linter.unusedSimpArgs false
namespace Go.Proofs.YtpeamehplhpcjaaGreatDoor
open Go.RowKit
structure LS (w : World) : Prop where
  mxl : ∃ m, w.cell? ⟨0, 0, none⟩ = some (.int .i64 m)
theorem LS.below {w w' : World} (h : LS w) (hb : Below w.heap.size w w') : LS w' := by
  obtain ⟨m, h5⟩ := h
  exact ⟨m, (hb.cell (World.block_lt_of_cell? w _ h5)).trans h5⟩
theorem LS.alloc {w : World} (h : LS w) (o : Obj) : LS (w.alloc o) := h.below ((Below.refl _ _).alloc (Nat.le_refl _) _)
theorem LS.drewN {w : World} (h : LS w) (n : Nat) : LS (w.drewN n) := h.below (dN (Below.refl _ _) n)
theorem ixb (c : UInt8) (l : Bs) : (Lib.indexByte l c = -1 ∧ ∀ x ∈ l, x ≠ c) ∨ ∃ a b, l = a ++ [c] ++ b ∧ Lib.indexByte l c = a.length ∧ ∀ x ∈ a, x ≠ c := by
  induction l with
  | nil => exact .inl ⟨rfl, fun x h => nomatch h⟩
  | cons x r ih =>
    by_cases hx : x = c
    · subst hx
      exact .inr ⟨[], r, rfl, by simp [Lib.indexByte], fun y h => nomatch h⟩
    · rcases ih with ⟨h1, h2⟩ | ⟨a, b, h1, h2, h3⟩
      · refine .inl ⟨by simp [Lib.indexByte, hx, h1], fun y hy => ?_⟩
        rcases List.mem_cons.1 hy with rfl | hy
        · exact hx
        · exact h2 y hy
      · refine .inr ⟨x :: a, b, by rw [h1]; rfl, ?_, fun y hy => ?_⟩
        · have hne : ¬ ((a.length : Int) = -1) := by omega
          simp [Lib.indexByte, hx, h2, hne]
        · rcases List.mem_cons.1 hy with rfl | hy
          · exact hx
          · exact h3 y hy
theorem split_line (c : UInt8) (a b : Bs) (h : ∀ x ∈ a, x ≠ c) : splitS c (a ++ [c] ++ b) = a :: splitS c b := by
  induction a with
  | nil => simp [splitS]
  | cons x r ih =>
    have hx := h x List.mem_cons_self
    have := ih fun y hy => h y (List.mem_cons_of_mem _ hy)
    simp only [List.cons_append]
    rw [splitS, if_neg hx]
    simp only [List.cons_append, List.nil_append, List.append_assoc] at this ⊢
    rw [this]
theorem split_lib (c : UInt8) (n : Nat) : ∀ s : Bs, s.length ≤ n → Lib.splitK [c] 0 (Lib.count s [c]) s = splitS c s := by
  induction n with
  | zero =>
    intro s hs
    have : s = [] := List.eq_nil_of_length_eq_zero (by omega)
    subst this
    have h1 : Lib.index ([] : Bs) [c] = -1 := (Lib.index_one [] c).trans rfl
    rw [Lib.count_miss h1, Lib.splitK]
    rfl
  | succ n ih =>
    intro s hs
    have hone : Lib.index s [c] = Lib.indexByte s c := Lib.index_one s c
    rcases ixb c s with ⟨h1, h2⟩ | ⟨a, b, h1, h2, h3⟩
    · rw [Lib.count_miss (by rw [hone, h1]), Lib.splitK, split_no c s]
      rw [← Bool.not_eq_true, List.contains_iff_mem]
      exact fun hm => h2 c hm rfl
    · have hi : Lib.index s [c] = (a.length : Nat) := by rw [hone, h2]
      rw [Lib.count_hit (by simp) hi]
      have hd : s.drop (a.length + ([c] : Bs).length) = b := by rw [h1]; simp
      rw [hd, Nat.add_comm, Lib.splitK, hi]
      have hne : ¬ (((a.length : Nat) : Int) == -1) = true := by simp
      rw [if_neg hne]
      have hd2 : s.drop (((a.length : Nat) : Int).toNat + ([c] : Bs).length) = b := hd
      have ht : s.take (((a.length : Nat) : Int).toNat + 0) = a := by rw [h1]; simp
      rw [hd2, ht, ih b (by rw [h1] at hs; simp at hs; omega), h1, split_line c a b h3]
theorem splitB_lib (c : UInt8) (s : Bs) : (Lib.splitB ⟨#[c]⟩ 0 (Lib.countB ⟨s.toArray⟩ ⟨#[c]⟩) ⟨s.toArray⟩).map (fun x => x.data.toList) = splitS c s := by
  rw [Lib.splitB_data]
  exact split_lib c s.length s (Nat.le_refl _)
theorem splitB_len (c : UInt8) (s : Bs) : Lib.countB ⟨s.toArray⟩ ⟨#[c]⟩ + 1 = (splitS c s).length := by
  rw [← splitB_lib, List.length_map, Lib.splitB_all ⟨#[c]⟩ (Nat.le_refl 1) 0 _ _ rfl]
theorem splitB_vals (c : UInt8) (s : Bs) : (Lib.splitB ⟨#[c]⟩ 0 (Lib.countB ⟨s.toArray⟩ ⟨#[c]⟩) ⟨s.toArray⟩).map Value.string = (splitS c s).map (fun x => Value.string ⟨x.toArray⟩) := by
  rw [← splitB_lib, List.map_map]
  exact List.map_congr_left (fun x _ => by simp)
theorem split_lens (c : UInt8) (s : Bs) : (∀ t ∈ splitS c s, t.length ≤ s.length) ∧ (splitS c s).length ≤ s.length + 1 := by
  refine ⟨?_, by rw [split_len]; have := List.count_le_length (a := c) (l := s); omega⟩
  induction s with
  | nil => intro t ht; rw [splitS, List.mem_singleton] at ht; rw [ht]; exact Nat.le_refl _
  | cons x r ih =>
    intro t ht
    unfold splitS at ht
    split at ht
    · rcases List.mem_cons.1 ht with rfl | ht
      · simp
      · have := ih t ht; simp; omega
    · split at ht
      · rw [List.mem_singleton.1 ht]; simp
      · rename_i y q he
        rw [he] at ih
        rcases List.mem_cons.1 ht with rfl | ht
        · have := ih y List.mem_cons_self; simp; omega
        · have := ih t (List.mem_cons_of_mem _ ht); simp; omega
theorem Sl.lits' {w : World} {b : Nat} {xs : List Bs} {t : TypeId} (h : w.heap[b]? = some (.cells (xs.map fun x => Value.string ⟨x.toArray⟩).toArray t (0, 0))) (hm : xs.length ≤ 9223372036854775807) {S : Nat → Prop} (hS : S b) : Sl w S (some ⟨b, 0, none⟩) xs.length xs.length xs := by
  refine ⟨rfl, Nat.le_refl _, hm, fun i hi => ⟨_, rfl, hS, fun j => .string ⟨xs[i].toArray⟩, fun j hj => ?_, rfl⟩⟩
  have hj : j < 1 := hj
  obtain rfl : j = 0 := by omega
  rw [add_plain, cell_blk h]
  show (xs.map fun x => Value.string ⟨x.toArray⟩).toArray[0 + (i * 1 + 0)]? = _
  simp [hi]
theorem split_any (c : UInt8) (s : Bs) (w : World) (hL : LS w) (hs : s.length ≤ 4294967000) :
    Calls Tryz.prog 75 #[.string ⟨s.toArray⟩, .string ⟨#[c]⟩] w fun e w' => e = .returned (.slice (some ⟨w.heap.size, 0, none⟩) (splitS c s).length (splitS c s).length) ∧ Own w' (fun _ => False) w.heap.size 9 (some ⟨w.heap.size, 0, none⟩) (splitS c s).length (splitS c s) ∧ Below w.heap.size w w' := by
  obtain ⟨m, hm⟩ := hL.mxl
  refine (Tryz.strings_Split ⟨s.toArray⟩ ⟨#[c]⟩ m w (by simp [ByteArray.size]; omega) hm (by show 1 ≤ 1; decide)).mono ?_
  rintro e w' ⟨rfl, rfl⟩
  rw [splitB_len, splitB_vals]
  refine ⟨rfl, Own.lit (cs := (splitS c s).map fun x => Value.string ⟨x.toArray⟩) (blkAt w _ rfl) (Nat.le_refl _) (by simp [GoT.size]) (by have := (split_lens c s).2; omega) (fun i hi => ?_), boxed⟩
  show List.getD _ (i * 1 + 0) undef = _
  rw [List.getD_eq_getElem?_getD]
  simp [hi]
theorem contains1_any (c : UInt8) (s : Bs) (w : World) (hL : LS w) (hs : s.length ≤ 4294967000) :
    Calls Tryz.prog 32 #[.string ⟨s.toArray⟩, .string ⟨#[c]⟩] w fun e w' => e = .returned (.bool (s.contains c)) ∧ w' = w := by
  obtain ⟨m, hm⟩ := hL.mxl
  refine (Tryz.strings_Contains ⟨s.toArray⟩ ⟨#[c]⟩ m w (by simp [ByteArray.size]; omega) hm).mono ?_
  rintro e w' ⟨rfl, rfl⟩
  refine ⟨?_, rfl⟩
  refine ret_bool ?_
  show s.contains c = Lib.contains s [c]
  unfold Lib.contains
  rw [Lib.index_one s c, Bool.eq_iff_iff, decide_eq_true_eq]
  exact (indexByte_pos s c).symm
def at64 : Bs → Bool
  | 64 :: _ => true
  | _ => false
def cut64 : Bs → Bs
  | 64 :: r => r
  | s => s
theorem at64_cases (s : Bs) : (∃ r, s = 64 :: r ∧ at64 s = true ∧ cut64 s = r) ∨ ((∀ r, s ≠ 64 :: r) ∧ at64 s = false ∧ cut64 s = s) := by
  cases s with
  | nil => exact .inr ⟨(fun r h => by cases h), rfl, rfl⟩
  | cons x r =>
    by_cases h : x = 64
    · subst h; exact .inl ⟨r, rfl, rfl, rfl⟩
    · right
      refine ⟨fun r' e => h (by injection e), ?_, ?_⟩
      · unfold at64; split
        · rename_i e; injection e with e _; exact absurd e h
        · rfl
      · unfold cut64; split
        · rename_i e; injection e with e _; exact absurd e h
        · rfl
theorem cutAt_any (s : Bs) (w : World) :
    Calls Tryz.prog 41 #[.string ⟨s.toArray⟩, .string ⟨#[64]⟩] w fun e w' => e = .returned (.tuple #[.string ⟨(cut64 s).toArray⟩, .bool (at64 s)]) ∧ w' = w := by
  refine (Tryz.strings_CutPrefix ⟨s.toArray⟩ ⟨#[64]⟩ w).mono ?_
  rintro e w' ⟨rfl, rfl⟩
  refine ⟨?_, rfl⟩
  have h1 : Lib.hasPrefix s [64] = at64 s := by
    rcases at64_cases s with ⟨r, rfl, h2, h3⟩ | ⟨h1, h2, h3⟩
    · rfl
    · rw [h2]
      cases s with
      | nil => rfl
      | cons x r =>
        have hx : ((64 : UInt8) == x) = false := by rw [beq_eq_false_iff_ne]; exact fun e => h1 r (by rw [← e])
        show (((64 : UInt8) == x) && List.isPrefixOf [] r) = false
        rw [hx]
        rfl
  have h2 : Lib.trimPrefix s [64] = cut64 s := by
    unfold Lib.trimPrefix
    rw [h1]
    rcases at64_cases s with ⟨r, rfl, h2, h3⟩ | ⟨h1, h2, h3⟩
    · rfl
    · rw [h2, h3]; rfl
  show Ending.returned (.tuple #[.string ⟨(Lib.trimPrefix s [64]).toArray⟩, .bool (Lib.hasPrefix s [64])]) = _
  rw [h1, h2]
end Go.Proofs.YtpeamehplhpcjaaGreatDoor
namespace Go.Proofs.YtpeamehplhpcjaaGreatDoor
open Go.RowKit
def idxS {α : Type} (p : α → Bool) : List α → Nat → Int
  | [], _ => -1
  | x :: r, k => if p x then (k : Int) else idxS p r (k + 1)
theorem idxS_any {α : Type} (p : α → Bool) (l : List α) (k : Nat) : decide (0 ≤ idxS p l k) = l.any p := by
  induction l generalizing k with
  | nil => rfl
  | cons x r ih =>
    unfold idxS
    by_cases h : p x = true
    · simp [h]
    · simp [h, ih]
def VItm (w : World) (S : Nat → Prop) (v : Value) (x : Itm) : Prop := ∃ A n c, v = .agg #[.string ⟨x.name.toArray⟩, .int .i64 x.kind, .int .i64 x.mode, .slice A n c, .string ⟨x.body.path.toArray⟩, .int .i64 x.body.fr, .int .i64 x.body.tu] ∧ Sl w S A n c x.params
set_option maxHeartbeats 800000 in
theorem idxB_any (A : Option Addr) (n c : Nat) (w : World) (S : Nat → Prop) (xs : List Bs) (hl : Sl w S A n c xs) (F : Nat) (caps : Array Value) (hF : ∀ (args : Array Value) (w : World), (callFunc F args).run Tryz.prog w = .ok (.enter F args) w)
    (p : Bs → Bool) (hp : ∀ x ∈ xs, ∀ w1, Below w.heap.size w w1 → Calls Tryz.prog F (#[.string ⟨x.toArray⟩] ++ caps) w1 fun e w2 => e = .returned (.bool (p x)) ∧ Below w1.heap.size w1 w2) :
    Calls Tryz.prog 74 #[.slice A n c, .func (.func F) #[] caps] w fun e w' => e = .returned (.int .i64 (idxS p xs 0)) ∧ Below w.heap.size w w' := by
  have hn := hl.le
  have hlen := hl.len
  subst hlen
  have HL := Lib.hid hl; have HP := Lib.hid hp; clear hl hp
  obtain ⟨v0, hv⟩ : ∃ v0, v0 = idxS p xs 0 := ⟨_, rfl⟩
  rw [← hv]
  have Hf : Hid (v0 = idxS p (xs.drop 0) 0) := hv
  clear hv
  go_enter Tryz.func74, Tryz.ntmps74
  go_wp2_with fail
  go_loopw [8] (fun i wr => ∃ k : Nat, k ≤ xs.length ∧ i = .int .i64 k ∧ Below w.heap.size w wr ∧ Hid (v0 = idxS p (xs.drop k) k)) (fun i _ => xs.length - (intOf i).toNat)
  case atStart => exact ⟨0, by omega, rfl, Below.refl _ _, Hf⟩
  case round =>
    obtain ⟨k, hk, rfl, hb, hf⟩ := hrel
    by_cases hlt : k < xs.length
    · obtain ⟨b, o, rfl, -, hbs, h1⟩ := (HL.out.below hb).str hlt
      have hd : v0 = if p xs[k] then (k : Int) else idxS p (xs.drop (k + 1)) (k + 1) := by rw [hf.out, drop_get hlt]; rfl
      have hc := HP.out _ (List.getElem_mem hlt) _ hb
      generalize p xs[k] = q at *
      generalize xs[k] = x at *
      have HD := Lib.hid hd; have HC := Lib.hid hc
      clear hd hc hf
      go_wp2_with fail
      refine HC.out.mono ?_
      rintro e w1 ⟨rfl, hb1⟩
      cases q
      · go_wp2
        go_roundw
        case rel => exact ⟨k + 1, by omega, by go_num, next hb hb1 (Nat.le_refl _), HD.out⟩
        case measure => simp [intOf]; omega
      · go_wp2
        go_ret
        exact ⟨ret_int HD.out, next hb hb1 (Nat.le_refl _)⟩
    · go_wp2
      go_ret
      exact ⟨ret_int (by rw [hf.out, drop_end hlt]; rfl), hb⟩
theorem conB_any (A : Option Addr) (n c : Nat) (w : World) (S : Nat → Prop) (xs : List Bs) (hl : Sl w S A n c xs) (F : Nat) (caps : Array Value) (hF : ∀ (args : Array Value) (w : World), (callFunc F args).run Tryz.prog w = .ok (.enter F args) w)
    (p : Bs → Bool) (hp : ∀ x ∈ xs, ∀ w1, Below w.heap.size w w1 → Calls Tryz.prog F (#[.string ⟨x.toArray⟩] ++ caps) w1 fun e w2 => e = .returned (.bool (p x)) ∧ Below w1.heap.size w1 w2) :
    Calls Tryz.prog 78 #[.slice A n c, .func (.func F) #[] caps] w fun e w' => e = .returned (.bool (xs.any p)) ∧ Below w.heap.size w w' := by
  have h := idxB_any A n c w S xs hl F caps hF p hp
  rw [← idxS_any p xs 0]
  generalize idxS p xs 0 = z at *
  have H := Lib.hid h
  clear h hl hp
  go_enter Tryz.func78, Tryz.ntmps78
  go_wp2_with (first | (go_at_call 74; refine H.out.mono ?_; rintro e w1 ⟨rfl, hb1⟩))
  go_ret
  exact ⟨rfl, hb1⟩
set_option maxHeartbeats 800000 in
theorem idxF_any (A : Option Addr) (n c : Nat) (w : World) (S : Nat → Prop) (xs : List Fil) (hl : Sl w S A n c xs) (F : Nat) (caps : Array Value) (hF : ∀ (args : Array Value) (w : World), (callFunc F args).run Tryz.prog w = .ok (.enter F args) w)
    (p : Fil → Bool) (hp : ∀ x ∈ xs, ∀ w1, Below w.heap.size w w1 → Calls Tryz.prog F (#[.agg #[.string ⟨x.path.toArray⟩, .string ⟨x.data.toArray⟩]] ++ caps) w1 fun e w2 => e = .returned (.bool (p x)) ∧ Below w1.heap.size w1 w2) :
    Calls Tryz.prog 72 #[.slice A n c, .func (.func F) #[] caps] w fun e w' => e = .returned (.int .i64 (idxS p xs 0)) ∧ Below w.heap.size w w' := by
  have hn := hl.le
  have hlen := hl.len
  subst hlen
  have HL := Lib.hid hl; have HP := Lib.hid hp; clear hl hp
  obtain ⟨v0, hv⟩ : ∃ v0, v0 = idxS p xs 0 := ⟨_, rfl⟩
  rw [← hv]
  have Hf : Hid (v0 = idxS p (xs.drop 0) 0) := hv
  clear hv
  go_enter Tryz.func72, Tryz.ntmps72
  go_wp2_with fail
  go_loopw [8] (fun i wr => ∃ k : Nat, k ≤ xs.length ∧ i = .int .i64 k ∧ Below w.heap.size w wr ∧ Hid (v0 = idxS p (xs.drop k) k)) (fun i _ => xs.length - (intOf i).toNat)
  case atStart => exact ⟨0, by omega, rfl, Below.refl _ _, Hf⟩
  case round =>
    obtain ⟨k, hk, rfl, hb, hf⟩ := hrel
    by_cases hlt : k < xs.length
    · obtain ⟨b, o, rfl, -, hbs, h1, h2⟩ := (HL.out.below hb).fil hlt
      have hd : v0 = if p xs[k] then (k : Int) else idxS p (xs.drop (k + 1)) (k + 1) := by rw [hf.out, drop_get hlt]; rfl
      have hc := HP.out _ (List.getElem_mem hlt) _ hb
      generalize p xs[k] = q at *
      generalize xs[k] = x at *
      have HD := Lib.hid hd; have HC := Lib.hid hc
      clear hd hc hf
      go_wp2_with fail
      refine HC.out.mono ?_
      rintro e w1 ⟨rfl, hb1⟩
      cases q
      · go_wp2
        go_roundw
        case rel => exact ⟨k + 1, by omega, by go_num, next hb hb1 (Nat.le_refl _), HD.out⟩
        case measure => simp [intOf]; omega
      · go_wp2
        go_ret
        exact ⟨ret_int HD.out, next hb hb1 (Nat.le_refl _)⟩
    · go_wp2
      go_ret
      exact ⟨ret_int (by rw [hf.out, drop_end hlt]; rfl), hb⟩
theorem conF_any (A : Option Addr) (n c : Nat) (w : World) (S : Nat → Prop) (xs : List Fil) (hl : Sl w S A n c xs) (F : Nat) (caps : Array Value) (hF : ∀ (args : Array Value) (w : World), (callFunc F args).run Tryz.prog w = .ok (.enter F args) w)
    (p : Fil → Bool) (hp : ∀ x ∈ xs, ∀ w1, Below w.heap.size w w1 → Calls Tryz.prog F (#[.agg #[.string ⟨x.path.toArray⟩, .string ⟨x.data.toArray⟩]] ++ caps) w1 fun e w2 => e = .returned (.bool (p x)) ∧ Below w1.heap.size w1 w2) :
    Calls Tryz.prog 30 #[.slice A n c, .func (.func F) #[] caps] w fun e w' => e = .returned (.bool (xs.any p)) ∧ Below w.heap.size w w' := by
  have h := idxF_any A n c w S xs hl F caps hF p hp
  rw [← idxS_any p xs 0]
  generalize idxS p xs 0 = z at *
  have H := Lib.hid h
  clear h hl hp
  go_enter Tryz.func30, Tryz.ntmps30
  go_wp2_with (first | (go_at_call 72; refine H.out.mono ?_; rintro e w1 ⟨rfl, hb1⟩))
  go_ret
  exact ⟨rfl, hb1⟩
set_option maxHeartbeats 800000 in
theorem idxI_any (A : Option Addr) (n c : Nat) (w : World) (S : Nat → Prop) (xs : List Itm) (hl : Sl w S A n c xs) (F : Nat) (caps : Array Value) (hF : ∀ (args : Array Value) (w : World), (callFunc F args).run Tryz.prog w = .ok (.enter F args) w)
    (p : Itm → Bool) (hp : ∀ x ∈ xs, ∀ w1, Below w.heap.size w w1 → ∀ v, VItm w1 S v x → Calls Tryz.prog F (#[v] ++ caps) w1 fun e w2 => e = .returned (.bool (p x)) ∧ Below w1.heap.size w1 w2) :
    Calls Tryz.prog 64 #[.slice A n c, .func (.func F) #[] caps] w fun e w' => e = .returned (.int .i64 (idxS p xs 0)) ∧ Below w.heap.size w w' := by
  have hn := hl.le
  have hlen := hl.len
  subst hlen
  have HL := Lib.hid hl; have HP := Lib.hid hp; clear hl hp
  obtain ⟨v0, hv⟩ : ∃ v0, v0 = idxS p xs 0 := ⟨_, rfl⟩
  rw [← hv]
  have Hf : Hid (v0 = idxS p (xs.drop 0) 0) := hv
  clear hv
  go_enter Tryz.func64, Tryz.ntmps64
  go_wp2_with fail
  go_loopw [8] (fun i wr => ∃ k : Nat, k ≤ xs.length ∧ i = .int .i64 k ∧ Below w.heap.size w wr ∧ Hid (v0 = idxS p (xs.drop k) k)) (fun i _ => xs.length - (intOf i).toNat)
  case atStart => exact ⟨0, by omega, rfl, Below.refl _ _, Hf⟩
  case round =>
    obtain ⟨k, hk, rfl, hb, hf⟩ := hrel
    by_cases hlt : k < xs.length
    · obtain ⟨b, o, rfl, -, hbs, A1, n1, c1, h1, h2, h3, h4, h5, h6, h7, hs⟩ := (HL.out.below hb).itm hlt
      have hd : v0 = if p xs[k] then (k : Int) else idxS p (xs.drop (k + 1)) (k + 1) := by rw [hf.out, drop_get hlt]; rfl
      have hc := HP.out _ (List.getElem_mem hlt) _ hb _ ⟨A1, n1, c1, rfl, hs⟩
      generalize p xs[k] = q at *
      generalize xs[k] = x at *
      have HD := Lib.hid hd; have HC := Lib.hid hc; have HS := Lib.hid hs; clear hs
      clear hd hc hf
      go_wp2_with fail
      refine HC.out.mono ?_
      rintro e w1 ⟨rfl, hb1⟩
      cases q
      · go_wp2
        go_roundw
        case rel => exact ⟨k + 1, by omega, by go_num, next hb hb1 (Nat.le_refl _), HD.out⟩
        case measure => simp [intOf]; omega
      · go_wp2
        go_ret
        exact ⟨ret_int HD.out, next hb hb1 (Nat.le_refl _)⟩
    · go_wp2
      go_ret
      exact ⟨ret_int (by rw [hf.out, drop_end hlt]; rfl), hb⟩
theorem conI_any (A : Option Addr) (n c : Nat) (w : World) (S : Nat → Prop) (xs : List Itm) (hl : Sl w S A n c xs) (F : Nat) (caps : Array Value) (hF : ∀ (args : Array Value) (w : World), (callFunc F args).run Tryz.prog w = .ok (.enter F args) w)
    (p : Itm → Bool) (hp : ∀ x ∈ xs, ∀ w1, Below w.heap.size w w1 → ∀ v, VItm w1 S v x → Calls Tryz.prog F (#[v] ++ caps) w1 fun e w2 => e = .returned (.bool (p x)) ∧ Below w1.heap.size w1 w2) :
    Calls Tryz.prog 25 #[.slice A n c, .func (.func F) #[] caps] w fun e w' => e = .returned (.bool (xs.any p)) ∧ Below w.heap.size w w' := by
  have h := idxI_any A n c w S xs hl F caps hF p hp
  rw [← idxS_any p xs 0]
  generalize idxS p xs 0 = z at *
  have H := Lib.hid h
  clear h hl hp
  go_enter Tryz.func25, Tryz.ntmps25
  go_wp2_with (first | (go_at_call 64; refine H.out.mono ?_; rintro e w1 ⟨rfl, hb1⟩))
  go_ret
  exact ⟨rfl, hb1⟩
end Go.Proofs.YtpeamehplhpcjaaGreatDoor
