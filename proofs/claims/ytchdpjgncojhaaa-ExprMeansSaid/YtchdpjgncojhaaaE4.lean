/- Expressions: slices.Contains at strings; expr.level. -/
import Derived.Test.YtchdpjgncojhaaaE2
import Derived.Test.YtchdpjgncojhaaaTokWalk
set_option linter.unusedVariables false
set_option linter.unusedSimpArgs false
namespace Go.Proofs.Ytchdpjgncojhaaa
open Go.RowKit

def idxGo : List Bs → Bs → Int → Int
  | [], _, _ => -1
  | a :: r, x, k => if x == a then k else idxGo r x (k + 1)
theorem idxGo_pos (l : List Bs) (x : Bs) (k : Int) (hk : 0 ≤ k) : (0 ≤ idxGo l x k) ↔ l.contains x = true := by
  induction l generalizing k with
  | nil => simp [idxGo]
  | cons a r ih =>
    rw [idxGo, List.contains_cons]
    by_cases h : (x == a) = true
    · simp [h, hk]
    · rw [Bool.not_eq_true] at h
      rw [h, Bool.false_or, ← ih (k + 1) (by omega)]
      rfl

set_option maxHeartbeats 400000 in
theorem index_any (A : Option Addr) (n c : Nat) (w : World) (S : Nat → Prop) (l : List Bs) (x : Bs) (hl : Sl w S A n c l) :
    Calls Try.prog 86 #[.slice A n c, .string ⟨x.toArray⟩] w fun e w' => e = .returned (.int .i64 (idxGo l x 0)) ∧ w = w' := by
  have hn := hl.le
  have hlen := hl.len
  subst hlen
  have HL := Lib.hid hl; clear hl
  obtain ⟨v, hv⟩ : ∃ v, v = idxGo l x 0 := ⟨_, rfl⟩
  rw [← hv]
  have Hf : Hid (v = idxGo (l.drop 0) x 0) := hv
  clear hv
  go_enter Try.func86, Try.ntmps86
  go_wp2
  go_loop [8] (fun i => ∃ k : Nat, k ≤ l.length ∧ i = .int .i64 k ∧ Hid (v = idxGo (l.drop k) x k)) (fun i => l.length - (intOf i).toNat)
  case atStart => exact ⟨0, by omega, rfl, Hf⟩
  case round =>
    obtain ⟨k, hk, rfl, hf⟩ := hrel
    by_cases hlt : k < l.length
    · obtain ⟨b, o, rfl, -, hbs, h1⟩ := HL.out.str hlt
      have hd := hf.out
      rw [drop_get hlt, idxGo] at hd
      have Hd := Lib.hid hd; clear hd hf
      go_wp2
      · have hx : (x == l[k]) = true := by assumption
        go_ret
        exact ⟨ret_int (by rw [Hd.out, if_pos hx]), rfl⟩
      · have hx : (x == l[k]) = false := by assumption
        go_round
        case rel => exact ⟨k + 1, by omega, by go_num, by show v = _; rw [Hd.out, if_neg (by rw [hx]; simp)]; rfl⟩
        case measure => simp [intOf]; omega
    · have hd : v = -1 := by rw [hf.out, drop_end hlt]; rfl
      have Hd := Lib.hid hd; clear hd hf
      go_wp2
      go_ret
      exact ⟨ret_int Hd.out, rfl⟩

theorem contains_any (A : Option Addr) (n c : Nat) (w : World) (S : Nat → Prop) (l : List Bs) (x : Bs) (hl : Sl w S A n c l) :
    Calls Try.prog 68 #[.slice A n c, .string ⟨x.toArray⟩] w fun e w' => e = .returned (.bool (l.contains x)) ∧ w = w' := by
  have hi := index_any A n c w S l x hl
  have hp := idxGo_pos l x 0 (Int.le_refl 0)
  generalize idxGo l x 0 = i at *
  generalize l.contains x = b at *
  have Hi := Lib.hid hi; clear hi
  clear hl
  have Hp := Lib.hid hp; clear hp
  go_enter Try.func68, Try.ntmps68
  go_wp2_with (go_at_call 86; refine Hi.out.mono ?_; rintro e w' ⟨rfl, rfl⟩)
  go_ret
  refine ⟨ret_bool ?_, rfl⟩
  rw [Bool.eq_iff_iff, ← Hp.out]
  simp

def allocs (w : World) (os : List Obj) : World := os.foldl (fun w o => w.alloc o) w
theorem allocs_heap (w : World) (os : List Obj) : (allocs w os).heap = w.heap ++ os.toArray := by
  induction os generalizing w with
  | nil => simp [allocs]
  | cons o r ih =>
    show (allocs (w.alloc o) r).heap = _
    rw [ih]
    show (w.heap.push o) ++ _ = _
    simp
theorem allocs_at (w : World) (os : List Obj) (i : Nat) : (allocs w os).heap[w.heap.size + i]? = os[i]? := by
  rw [allocs_heap, Array.getElem?_append_right (by omega)]
  simp
theorem allocs_below (w : World) (os : List Obj) : ∀ {B : Nat} {a : World}, Below B a w → B ≤ w.heap.size → Below B a (allocs w os) := by
  induction os generalizing w with
  | nil => intro B a h _; exact h
  | cons o r ih => intro B a h hB; exact ih _ (h.alloc hB o) (by simp; omega)

def strCells (l : List Bs) : Array Value := (l.map fun x => Value.string ⟨x.toArray⟩).toArray
def lvObjs (w : World) : List Obj := levels.map (fun l => Obj.cells (strCells l) 9) ++
  [.cells #[.slice (some ⟨w.heap.size, 0, none⟩) 1 1, .slice (some ⟨w.heap.size + 1, 0, none⟩) 1 1, .slice (some ⟨w.heap.size + 1 + 1, 0, none⟩) 1 1, .slice (some ⟨w.heap.size + 1 + 1 + 1, 0, none⟩) 1 1, .slice (some ⟨w.heap.size + 1 + 1 + 1 + 1, 0, none⟩) 1 1,
    .slice (some ⟨w.heap.size + 1 + 1 + 1 + 1 + 1, 0, none⟩) 2 2, .slice (some ⟨w.heap.size + 1 + 1 + 1 + 1 + 1 + 1, 0, none⟩) 4 4, .slice (some ⟨w.heap.size + 1 + 1 + 1 + 1 + 1 + 1 + 1, 0, none⟩) 2 2, .slice (some ⟨w.heap.size + 1 + 1 + 1 + 1 + 1 + 1 + 1 + 1, 0, none⟩) 2 2, .slice (some ⟨w.heap.size + 1 + 1 + 1 + 1 + 1 + 1 + 1 + 1 + 1, 0, none⟩) 3 3] 89]

def Lv (w wr : World) : Prop := ∀ i, i ≤ 10 → wr.heap[w.heap.size + i]? = (lvObjs w)[i]?
theorem lv_outer {w wr : World} (h : Lv w wr) (k : Nat) (hk : k < levels.length) : wr.cell? ⟨w.heap.size + 1 + 1 + 1 + 1 + 1 + 1 + 1 + 1 + 1 + 1, k, none⟩ = some (.slice (some ⟨w.heap.size + k, 0, none⟩) levels[k].length levels[k].length) := by
  have h10 := h 10 (by omega)
  have h11 : wr.heap[w.heap.size + 1 + 1 + 1 + 1 + 1 + 1 + 1 + 1 + 1 + 1]? = (lvObjs w)[10]? := h10
  rw [cell_blk h11]
  match k, hk with
  | 0, _ => rfl
  | 1, _ => rfl
  | 2, _ => rfl
  | 3, _ => rfl
  | 4, _ => rfl
  | 5, _ => rfl
  | 6, _ => rfl
  | 7, _ => rfl
  | 8, _ => rfl
  | 9, _ => rfl
  | n + 10, h => exact absurd h (by simp [levels])
theorem lv_inner {w wr : World} (h : Lv w wr) (k : Nat) (hk : k < levels.length) : Sl wr (fun _ => True) (some ⟨w.heap.size + k, 0, none⟩) levels[k].length levels[k].length levels[k] := by
  have hl : levels.length = 10 := rfl
  have hh := h k (by omega)
  have hi : (lvObjs w)[k]? = some (Obj.cells (strCells levels[k]) 9) := by
    unfold lvObjs
    rw [List.getElem?_append_left (by rw [List.length_map]; exact hk), List.getElem?_map, List.getElem?_eq_getElem hk]
    rfl
  rw [hi] at hh
  have hm : ∀ l ∈ levels, l.length ≤ 9223372036854775807 := by decide
  exact Sl.lits hh rfl (hm _ (List.getElem_mem hk)) trivial rfl rfl

set_option maxRecDepth 100000 in
set_option maxHeartbeats 1000000 in
theorem level_any (op : Bs) (w : World) :
    Calls Try.prog 47 #[.string ⟨op.toArray⟩] w fun e w' => e = .returned (.int .i64 (level op)) ∧ Below w.heap.size w w' := by
  obtain ⟨v, hv⟩ : ∃ v, v = level op := ⟨_, rfl⟩
  rw [← hv]
  have Hf : Hid (v = levelGo (levels.drop 0) 1 op) := hv
  clear hv
  go_enter Try.func47, Try.ntmps47
  go_wp2
  go_loopw [17] (fun i wr => ∃ k : Nat, k ≤ 10 ∧ i = .int .i64 k ∧ Below w.heap.size w wr ∧ Lv w wr ∧ Hid (v = levelGo (levels.drop k) (k + 1) op)) (fun i _ => 10 - (intOf i).toNat)
  case atStart =>
    refine ⟨0, by omega, rfl, ?_, ?_, Hf⟩
    · exact allocs_below w (lvObjs w) (Below.refl _ _) (Nat.le_refl _)
    · exact fun i _ => allocs_at w (lvObjs w) i
  case round =>
    obtain ⟨k, hk, rfl, hb, hlv, hf⟩ := hrel
    by_cases hlt : k < 10
    · have hk' : k < levels.length := hlt
      have hc := lv_outer hlv k hk'
      have hin := lv_inner hlv k hk'
      have hd := hf.out
      rw [drop_get hk', levelGo] at hd
      have hll : levels[k].length ≤ 4 := by
        have : ∀ l ∈ levels, l.length ≤ 4 := by decide
        exact this _ (List.getElem_mem hk')
      generalize levels[k] = L at *
      have Hd := Lib.hid hd; clear hd hf
      have Hin := Lib.hid hin; clear hin
      have Hlv := Lib.hid hlv; clear hlv
      have hct := fun w hw => contains_any (some ⟨w.heap.size + k, 0, none⟩) L.length L.length w (fun _ => True) L op hw
      have hct := contains_any (some ⟨w.heap.size + k, 0, none⟩) L.length L.length wr (fun _ => True) L op Hin.out
      cases hcb : L.contains op
      · rw [hcb] at hct
        have Hct := Lib.hid hct; clear hct
        have Hcb := Lib.hid hcb; clear hcb
        go_wp2_with (go_at_call 68; refine Hct.out.mono ?_; rintro e w' ⟨rfl, rfl⟩)
        go_roundw
        case rel => exact ⟨k + 1, by omega, by go_num, hb, Hlv.out, by show v = _; rw [Hd.out, Hcb.out]; rfl⟩
        case measure => simp [intOf]; omega
      · rw [hcb] at hct
        have Hct := Lib.hid hct; clear hct
        have Hcb := Lib.hid hcb; clear hcb
        go_wp2_with (go_at_call 68; refine Hct.out.mono ?_; rintro e w' ⟨rfl, rfl⟩)
        go_ret
        exact ⟨ret_int (by rw [Hd.out, Hcb.out]; rfl), hb⟩
    · obtain rfl : k = 10 := by omega
      have hd : v = 0 := by rw [hf.out]; rfl
      have Hd := Lib.hid hd; clear hd hf
      have Hlv := Lib.hid hlv; clear hlv
      go_wp2
      go_ret
      exact ⟨ret_int (by rw [Hd.out]; rfl), hb⟩

theorem level_le (op : Bs) : level op ≤ 10 := by
  unfold level levels
  simp only [levelGo]
  repeat' split
  all_goals omega
end Go.Proofs.Ytchdpjgncojhaaa
