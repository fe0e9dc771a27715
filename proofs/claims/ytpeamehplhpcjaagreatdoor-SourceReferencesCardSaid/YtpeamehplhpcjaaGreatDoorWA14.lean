/- A part of the proofs of the laws of one package; see the law's own text, which comes last in 'order'. No conditions of its own. -/
import Derived.Test.YtpeamehplhpcjaaGreatDoorWA13
set_option linter.unusedVariables false
set_option linter.unusedSimpArgs false
namespace Go.Proofs.YtpeamehplhpcjaaGreatDoor
open Go.RowKit
theorem findT_idx (t : List Fil) (p : Bs) (k : Nat) : (findT t p = none ∧ idxS (fun f => f.path == p) t k = -1) ∨ ∃ i, ∃ h : i < t.length, idxS (fun f => f.path == p) t k = ((k + i : Nat) : Int) ∧ findT t p = some t[i].data := by
  induction t generalizing k with
  | nil => exact .inl ⟨rfl, rfl⟩
  | cons f r ih =>
    unfold findT idxS
    rw [List.find?_cons]
    by_cases h : (f.path == p) = true
    · rw [if_pos h, h]
      exact .inr ⟨0, by simp, by simp, rfl⟩
    · rw [if_neg h]
      rw [Bool.not_eq_true] at h
      rw [h]
      rcases ih (k + 1) with ⟨h1, h2⟩ | ⟨i, hi, h1, h2⟩
      · exact .inl ⟨h1, h2⟩
      · exact .inr ⟨i + 1, by simp; omega, by rw [h1]; congr 1; omega, h2⟩
set_option maxHeartbeats 400000 in
theorem index1_any (f : Fil) (p : Bs) (g : Nat) (w : World) (hg : w.cell? ⟨g, 0, none⟩ = some (.string ⟨p.toArray⟩)) :
    Calls Tryz.prog 154 #[.agg #[.string ⟨f.path.toArray⟩, .string ⟨f.data.toArray⟩], .pointer (some ⟨g, 0, none⟩)] w fun e w' => e = .returned (.bool (f.path == p)) ∧ Below w.heap.size w w' := by
  have h1 := cell_alloc' hg (.cells #[.string ⟨f.path.toArray⟩, .string ⟨f.data.toArray⟩] 73 (0, 0))
  clear hg
  go_enter Tryz.func154, Tryz.ntmps154
  go_wp2_with fail
  go_ret
  exact ⟨rfl, by ((repeat (first | (with_reducible exact Below.refl _ _) | (with_reducible refine belowA ?_ _) | (with_reducible refine belowD ?_) | (with_reducible refine belowS ?_ (Nat.le_refl _) _ _) | (with_reducible refine next ?_ (by assumption) (Nat.le_refl _)))); done)⟩
set_option maxHeartbeats 400000 in
theorem indexT_any (A : Option Addr) (n c : Nat) (w : World) (S : Nat → Prop) (t : List Fil) (hl : Sl w S A n c t) (p : Bs) :
    Calls Tryz.prog 112 #[.slice A n c, .string ⟨p.toArray⟩] w fun e w' => e = .returned (.int .i64 (idxS (fun f => f.path == p) t 0)) ∧ Below w.heap.size w w' := by
  have hg : (w.alloc (.cells #[.string ⟨p.toArray⟩] 9)).cell? ⟨w.heap.size, 0, none⟩ = some (.string ⟨p.toArray⟩) := (cell_blk (blkAt _ _ rfl) 0).trans rfl
  have hb : Below w.heap.size w (w.alloc (.cells #[.string ⟨p.toArray⟩] 9)) := belowA (Below.refl _ _) _
  have hall := idxF_any A n c _ _ t (hl.below hb) 154 #[.pointer (some ⟨w.heap.size, 0, none⟩)] (fun _ _ => by kernel_rfl) (fun f => f.path == p) (fun x hx w1 hb1 => index1_any x p w.heap.size w1 (cell_later hb1 hg))
  have HA := Lib.hid hall
  clear hall hg hl
  generalize idxS (fun f => f.path == p) t 0 = v at *
  go_enter Tryz.func112, Tryz.ntmps112
  go_wp2_with fail
  refine HA.out.mono ?_
  rintro e w1 ⟨rfl, hb1⟩
  have HB := Lib.hid (next hb hb1 (by simp))
  clear hb hb1
  go_wp2_with fail
  go_ret
  exact ⟨rfl, HB.out⟩
def findV (o : Option Bs) : Value := match o with | some d => .tuple #[.string ⟨d.toArray⟩, .bool true] | none => .tuple #[.string ⟨#[]⟩, .bool false]
set_option maxHeartbeats 1000000 in
theorem findT_any (A : Option Addr) (n c : Nat) (w : World) (S : Nat → Prop) (t : List Fil) (hl : Sl w S A n c t) (p : Bs) :
    Calls Tryz.prog 85 #[.slice A n c, .string ⟨p.toArray⟩] w fun e w' => e = .returned (findV (findT t p)) ∧ Below w.heap.size w w' := by
  have hi := indexT_any A n c w S t hl p
  have hn := hl.len
  subst hn
  have HI := Lib.hid hi; have HL := Lib.hid hl
  have hc := findT_idx t p 0
  have hlen := hl.le
  clear hi hl
  generalize idxS (fun f => f.path == p) t 0 = v at *
  generalize findT t p = o at *
  go_enter Tryz.func85, Tryz.ntmps85
  go_wp2_with fail
  refine HI.out.mono ?_
  rintro e w1 ⟨rfl, hb1⟩
  rcases hc with ⟨rfl, rfl⟩ | ⟨i, hlt, rfl, rfl⟩
  · have HB := Lib.hid hb1; clear hb1
    go_wp2_with fail
    go_ret2
    exact ⟨rfl, HB.out⟩
  · rw [Nat.zero_add] at *
    obtain ⟨b, o, rfl, -, hbs, c0, c1⟩ := (HL.out.below hb1).fil hlt
    have HB := Lib.hid hb1; clear hb1 c0
    go_wp2_with fail
    go_ret2
    exact ⟨rfl, HB.out⟩
set_option maxHeartbeats 1000000 in
theorem linesT_any (d : Bs) (w : World) (hL : LS w) (hs : d.length ≤ 4294967000) :
    Calls Tryz.prog 86 #[.string ⟨d.toArray⟩] w fun e w' => ∃ A n c, e = .returned (.tuple #[.slice A n c, .int .i64 (linesS d).2]) ∧ Sl w' (fun b => w.heap.size ≤ b) A n c (linesS d).1 ∧ Below w.heap.size w w' := by
  have hsp := split_any 10 d w hL hs
  have hcn := Tryz.strings_Count_one ⟨d.toArray⟩ 10 w
  have hcc : Lib.countByte (⟨d.toArray⟩ : ByteArray).data.toList 10 = d.count 10 := rfl
  rw [hcc] at hcn
  obtain ⟨R, hR⟩ : ∃ R, R = linesS d := ⟨_, rfl⟩
  rw [← hR]
  unfold linesS at hR
  generalize splitS 10 d = ls at *
  generalize d.count 10 = m at *
  have HSP := Lib.hid hsp; have HCN := Lib.hid hcn; have HR := Lib.hid hR
  clear hsp hcn hR hcc hL
  by_cases h1 : (65536 : Int) < (d.length : Int)
  · have HR2 := Lib.hid (show R = ([], 10) from HR.out.trans (if_pos (by omega)))
    go_enter Tryz.func86, Tryz.ntmps86
    go_wp2_with fail
    go_ret2
    exact ⟨none, 0, 0, by rw [HR2.out]; rfl, by rw [HR2.out]; exact Sl.nil _ _ _ _ (by decide), by ((repeat (first | (with_reducible exact Below.refl _ _) | (with_reducible refine belowA ?_ _) | (with_reducible refine belowD ?_) | (with_reducible refine belowS ?_ (Nat.le_refl _) _ _) | (with_reducible refine next ?_ (by assumption) (Nat.le_refl _)))); done)⟩
  · have hr := HR.out.trans (if_neg (by omega))
    by_cases h2 : (1024 : Int) ≤ (m : Int)
    · have HR2 := Lib.hid (show R = ([], 10) from hr.trans (if_pos (by omega)))
      clear hr
      go_enter Tryz.func86, Tryz.ntmps86
      go_wp2_with fail
      refine HCN.out.mono ?_
      rintro e w1 ⟨rfl, rfl⟩
      go_wp2_with fail
      go_ret2
      exact ⟨none, 0, 0, by rw [HR2.out]; rfl, by rw [HR2.out]; exact Sl.nil _ _ _ _ (by decide), by ((repeat (first | (with_reducible exact Below.refl _ _) | (with_reducible refine belowA ?_ _) | (with_reducible refine belowD ?_) | (with_reducible refine belowS ?_ (Nat.le_refl _) _ _) | (with_reducible refine next ?_ (by assumption) (Nat.le_refl _)))); done)⟩
    · have HR2 := Lib.hid (show R = (ls, 0) from hr.trans (if_neg (by omega)))
      obtain ⟨M, hM⟩ : ∃ M : Int, (m : Int) = M := ⟨_, rfl⟩
      have h3 : ¬ (1024 ≤ M) := by omega
      clear hr h2
      have HCN := Lib.hid (HCN.out)
      rw [hM] at HCN
      clear hM
      go_enter Tryz.func86, Tryz.ntmps86
      go_wp2_with fail
      refine HCN.out.mono ?_
      rintro e w1 ⟨rfl, rfl⟩
      go_wp2_with fail
      refine HSP.out.mono ?_
      rintro e w2 ⟨rfl, ho, hb⟩
      have HO := Lib.hid ((ho.strT (T' := fun b => w1.heap.size ≤ b)).res (by decide)); have HB := Lib.hid hb
      clear ho hb
      go_wp2_with fail
      go_ret2
      exact ⟨_, _, _, by rw [HR2.out]; rfl, by rw [HR2.out]; exact HO.out, HB.out⟩
end Go.Proofs.YtpeamehplhpcjaaGreatDoor
