/- A part of the proofs of the laws of one package; see the law's own text, which comes last in 'order'. No conditions of its own. -/
import Derived.Test.YtpeamehplhpcjaaGreatDoorZ04
import Derived.Test.YtpeamehplhpcjaaGreatDoorZ18
set_option linter.unusedVariables false
set_option linter.unusedSimpArgs false
namespace Go.Proofs.YtpeamehplhpcjaaGreatDoor
inductive Rd (l : List Bs) : Nat → Nat → Nat → Nat → Prop
  | here {fr tu : Nat} : fr < tu → Rd l fr tu fr tu
  | next {fr tu i e : Nat} : (parseH (l.getD fr [])).2 = 0 → fr + 1 + (parseH (l.getD fr [])).1.n.toNat ≤ tu → Rd l (fr + 1 + (parseH (l.getD fr [])).1.n.toNat) tu i e → Rd l fr tu i e
  | sub {fr tu i e : Nat} : (parseH (l.getD fr [])).2 = 0 → ((parseH (l.getD fr [])).1.word = 4 ∨ (parseH (l.getD fr [])).1.word = 5) → fr + 1 + (parseH (l.getD fr [])).1.n.toNat ≤ tu → Rd l (fr + 1) (fr + 1 + (parseH (l.getD fr [])).1.n.toNat) i e → Rd l fr tu i e
theorem Rd.le {l : List Bs} {fr tu i e : Nat} (h : Rd l fr tu i e) : fr ≤ i ∧ i < e ∧ e ≤ tu := by
  induction h with
  | here h => omega
  | next _ _ _ ih => omega
  | sub _ _ _ _ ih => omega
theorem Rd.apart {l : List Bs} {fr tu i e : Nat} (h : Rd l fr tu i e) (hw : ¬ ((parseH (l.getD i [])).1.word = 4 ∨ (parseH (l.getD i [])).1.word = 5)) (hf : i + 1 + (parseH (l.getD i [])).1.n.toNat ≤ e) {j : Nat} (h1 : i < j) (h2 : j < i + 1 + (parseH (l.getD i [])).1.n.toNat) : ∀ e', ¬ Rd l fr tu j e' := by
  induction h with
  | here h =>
    intro e' hr
    cases hr with
    | here _ => omega
    | next _ _ hr => have := hr.le; omega
    | sub _ hw' _ _ => exact hw hw'
  | next hp hl h ih =>
    have hle := h.le
    intro e' hr
    cases hr with
    | here _ => omega
    | next _ _ hr => exact ih hw hf h1 h2 e' hr
    | sub _ _ _ hr => have := hr.le; omega
  | sub hp hw' hl h ih =>
    have hle := h.le
    intro e' hr
    cases hr with
    | here _ => omega
    | next _ _ hr => have := hr.le; omega
    | sub _ _ _ hr => exact ih hw hf h1 h2 e' hr
def LnOk (t : List Fil) (y : Ln) : Prop := ∃ d, ∃ j e : Nat, findT t y.path = some d ∧ (linesS d).2 = 0 ∧ y.n = j ∧ Rd (linesS d).1 0 (linesS d).1.length j e
def BdOk (t : List Fil) (s : Sst) (b : Spn) : Prop := ∃ d, ∃ j e : Nat, findT t b.path = some d ∧ (linesS d).2 = 0 ∧ Rd (linesS d).1 0 (linesS d).1.length j e ∧ ¬ ((parseH ((linesS d).1.getD j [])).1.word = 4 ∨ (parseH ((linesS d).1.getD j [])).1.word = 5) ∧
  j + 1 + (parseH ((linesS d).1.getD j [])).1.n.toNat ≤ e ∧ b.fr = (j : Int) + 1 ∧ b.tu = (j : Int) + 1 + (parseH ((linesS d).1.getD j [])).1.n.toNat ∧ (⟨b.path, j⟩ : Ln) ∈ keysH s
theorem BdOk.mono {t : List Fil} {s s' : Sst} {b : Spn} (h : BdOk t s b) (hk : ∀ y ∈ keysH s, y ∈ keysH s') : BdOk t s' b := by
  obtain ⟨d, j, e, h1, h2, h3, h4, h5, h6, h7, h8⟩ := h
  exact ⟨d, j, e, h1, h2, h3, h4, h5, h6, h7, hk _ h8⟩
structure Inv (t : List Fil) (s : Sst) : Prop where
  ln : ∀ y ∈ keysH s, LnOk t y
  ma : ∀ q ∈ s.macros, q.1 = q.2.name ∧ BdOk t s q.2.body
  it : ∀ x ∈ s.items, x.kind ≠ 3 → BdOk t s x.body
  dn : (s.items.map (·.name)).Nodup
  ap : ∀ k ∈ s.macros.map (·.1), k ∉ s.flags.map (·.1)
  ft : ∀ q ∈ s.flags, q.2 = true
def FOk (s s' : Sst) : Prop := ∀ q ∈ s'.files.map (·.1), q ∈ s.files.map (·.1) ∨ (⟨q, 0⟩ : Ln) ∈ keysH s'
def GFil (g : Grp) : Prop := ∀ p l fr tu s s', g p l fr tu s = (true, s') → FOk s s' ∧ (fr < tu → (⟨p, (fr : Int)⟩ : Ln) ∈ keysH s') ∧ (∀ q ∈ s.files.map (·.1), q ∈ s'.files.map (·.1))
def NFil (n : Option Grp) : Prop := ∀ g, n = some g → GFil g ∧ GMono g
def SOk (s s' : Sst) : Prop := FOk s s' ∧ ∀ q ∈ s.files.map (·.1), q ∈ s'.files.map (·.1)
theorem sok_refl (s s' : Sst) (h : s'.files = s.files) : SOk s s' := ⟨fun q hq => .inl (by rw [← h]; exact hq), fun q hq => by rw [h]; exact hq⟩
theorem file_fil {g : Grp} (hg : GFil g) {p : Bs} {l : List Bs} {s s' : Sst} (hl : 0 < l.length) (h : fileS g p l s = (true, s')) : SOk s s' ∧ p ∈ s'.files.map (·.1) := by
  unfold fileS at h
  cases hr : g p l 0 l.length { s with files := setM s.files p true, opn := s.opn ++ [p] } with
  | mk b s2 =>
    rw [hr] at h
    injection h with e1 e2
    simp only at e1
    subst e1
    obtain ⟨h1, h2, h3⟩ := hg _ _ _ _ _ _ hr
    have h2 := h2 hl
    rw [← e2]
    refine ⟨⟨fun q hq => ?_, fun q hq => h3 q ((keys_setM _ _ _ _).2 (.inr hq))⟩, h3 p ((keys_setM _ _ _ _).2 (.inl rfl))⟩
    rcases h1 q hq with h | h
    · rcases (keys_setM _ _ _ _).1 h with rfl | h
      · exact .inr h2
      · exact .inl h
    · exact .inr h
theorem lines_pos {d : Bs} (h : (linesS d).2 = 0) : (linesS d).1.length = 1 + d.count 10 := by
  unfold linesS at h ⊢
  split
  · rename_i h1; rw [if_pos h1] at h; cases h
  · rename_i h1
    rw [if_neg h1] at h
    split
    · rename_i h2; rw [if_pos h2] at h; cases h
    · show (splitS 10 d).length = _
      rw [split_len]; omega
theorem head_fil (t : List Fil) {nest : Option Grp} (hn : NFil nest) {p : Bs} {l : List Bs} {i : Nat} {x : Hd} {s s' : Sst} (h : doHead t nest p l i x s = (true, s')) : SOk s s' := by
  have hitem : ∀ {y : Itm}, itemS p i y s = (true, s') → SOk s s' := by
    intro y h
    unfold itemS at h
    split at h
    · exact (fail_no h).elim
    · split at h
      · exact (fail_no h).elim
      · injection h with _ h; rw [← h]; exact sok_refl _ _ rfl
  unfold doHead at h
  simp only at h
  split at h
  · unfold inclS at h
    simp only at h
    split at h
    · exact (fail_no h).elim
    · split at h
      · exact (fail_no h).elim
      · split at h
        · exact (fail_no h).elim
        · split at h
          · exact (fail_no h).elim
          · rename_i h0
            split at h
            · exact (fail_no h).elim
            · rename_i g
              exact (file_fil (hn g rfl).1 (by rw [lines_pos (by omega)]; omega) h).1
  · split at h
    · split at h
      · exact (fail_no h).elim
      · split at h
        · exact (fail_no h).elim
        · injection h with _ h; rw [← h]; exact sok_refl _ _ rfl
    · split at h
      · split at h
        · injection h with _ h; rw [← h]; exact sok_refl _ _ rfl
        · exact (fail_no h).elim
      · split at h
        · split at h
          · injection h with _ h; rw [← h]; exact sok_refl _ _ rfl
          · split at h
            · exact (fail_no h).elim
            · rename_i g
              obtain ⟨h1, _, h3⟩ := (hn g rfl).1 _ _ _ _ _ _ h
              exact ⟨h1, h3⟩
        · split at h
          · exact hitem h
          · split at h
            · exact hitem h
            · split at h
              · exact hitem h
              · injection h with _ h; rw [← h]; exact sok_refl _ _ rfl
theorem loop_fil (t : List Fil) {nest : Option Grp} (hn : NFil nest) (p : Bs) (l : List Bs) (tu : Nat) : ∀ f i (s s' : Sst), loopS t nest p l tu f i s = (true, s') → SOk s s' ∧ (0 < f → i < tu → (⟨p, (i : Int)⟩ : Ln) ∈ keysH s') := by
  intro f
  induction f with
  | zero => intro i s s' h; injection h with _ h; rw [← h]; exact ⟨sok_refl _ _ rfl, fun h => absurd h (by omega)⟩
  | succ f ih =>
    intro i s s' h
    unfold loopS at h
    split at h
    · injection h with _ h; rw [← h]; exact ⟨sok_refl _ _ rfl, fun _ h => by omega⟩
    · split at h
      · exact (fail_no h).elim
      · simp only at h
        split at h
        · exact (fail_no h).elim
        · split at h
          · exact (fail_no h).elim
          · cases hr : doHead t nest p l i (parseH (l.getD i [])).1 { s with count := s.count + 1, heads := setM s.heads ⟨p, i⟩ true } with
            | mk b s2 =>
              rw [hr] at h
              cases b with
              | false => simp only [Bool.not_false, if_true] at h; injection h with h _; cases h
              | true =>
                simp only [Bool.not_true, Bool.false_eq_true, if_false] at h
                have hm1 := head_mono t (fun g hg => (hn g hg).2) hr
                have hm2 := loop_mono t (fun g hg => (hn g hg).2) p l tu _ _ _ _ h
                obtain ⟨a1, a2⟩ := head_fil t hn hr
                obtain ⟨⟨b1, b2⟩, _⟩ := ih _ _ _ h
                refine ⟨⟨fun q hq => ?_, fun q hq => b2 q (a2 q hq)⟩, fun _ _ => hm2 _ (hm1 _ ((keys_setM _ _ _ _).2 (.inl rfl)))⟩
                rcases b1 q hq with h | h
                · rcases a1 q h with h | h
                  · exact .inl h
                  · exact .inr (hm2 _ h)
                · exact .inr h
theorem group_fil (t : List Fil) : ∀ d, GFil (groupS t d) := by
  intro d
  induction d with
  | zero => intro p l fr tu s s' h; obtain ⟨⟨h1, h2⟩, h3⟩ := loop_fil t (fun g hg => by cases hg) p l tu _ _ s s' h; exact ⟨h1, fun h => h3 (by omega) h, h2⟩
  | succ d ih => intro p l fr tu s s' h; obtain ⟨⟨h1, h2⟩, h3⟩ := loop_fil t (fun g hg => by injection hg with hg; subst hg; exact ⟨ih, group_mono t d⟩) p l tu _ _ s s' h; exact ⟨h1, fun h => h3 (by omega) h, h2⟩
end Go.Proofs.YtpeamehplhpcjaaGreatDoor
namespace Go.Proofs.YtpeamehplhpcjaaGreatDoor
theorem split_infix (c : UInt8) : ∀ (s : Bs), ∀ y ∈ splitS c s, y <:+: s := by
  have key : ∀ (s : Bs), (∃ h r, splitS c s = h :: r ∧ h <+: s ∧ ∀ y ∈ r, y <:+: s) := by
    intro s
    induction s with
    | nil => exact ⟨[], [], rfl, List.prefix_refl _, fun y hy => by cases hy⟩
    | cons x r ih =>
      obtain ⟨h, q, e, h1, h2⟩ := ih
      unfold splitS
      split
      · refine ⟨[], splitS c r, rfl, List.nil_prefix, fun y hy => ?_⟩
        rw [e] at hy
        rcases List.mem_cons.1 hy with rfl | hy
        · exact (h1.isInfix).trans (List.suffix_cons x r).isInfix
        · exact (h2 y hy).trans (List.suffix_cons x r).isInfix
      · rw [e]
        exact ⟨x :: h, q, rfl, by simpa using h1, fun y hy => (h2 y hy).trans (List.suffix_cons x r).isInfix⟩
  intro s y hy
  obtain ⟨h, r, e, h1, h2⟩ := key s
  rw [e] at hy
  rcases List.mem_cons.1 hy with rfl | hy
  · exact h1.isInfix
  · exact h2 y hy
theorem mode_mem (w : List Bs) : ∀ y ∈ (modeS w).2, y ∈ w := by
  unfold modeS
  split
  · split
    · exact fun y hy => List.mem_cons_of_mem _ hy
    · exact fun y hy => hy
  · exact fun y hy => hy
theorem shape_name (w : List Bs) : (shapeS w).1.name = [] ∨ (shapeS w).1.name ∈ w := by
  have hm := mode_mem w
  unfold shapeS
  simp only
  split
  · rename_i a b r e
    have hb : b ∈ w := hm b (by rw [e]; simp)
    split
    · exact .inl rfl
    · split
      · exact .inr hb
      · split
        · exact .inl rfl
        · exact .inr hb
  · exact .inl rfl
theorem parse_name (s : Bs) : (parseH s).1.name = [] ∨ (parseH s).1.name <:+: s := by
  unfold parseH
  split
  · exact .inl rfl
  · simp only
    split
    · exact .inl rfl
    · split
      · exact .inl rfl
      · rcases shape_name (splitS 32 s) with h | h
        · exact .inl h
        · exact .inr (split_infix 32 s _ h)
end Go.Proofs.YtpeamehplhpcjaaGreatDoor
namespace Go.Proofs.YtpeamehplhpcjaaGreatDoor
open Go.RowKit
theorem loop_fuel (t : List Fil) (nest : Option Grp) (p : Bs) (l : List Bs) (tq : Nat) : ∀ (f f' i : Nat) (s : Sst), tq - i ≤ f → tq - i ≤ f' → loopS t nest p l tq f i s = loopS t nest p l tq f' i s := by
  intro f
  induction f with
  | zero =>
    intro f' i s h _
    cases f' with
    | zero => rfl
    | succ f' => rw [loopS, loopS, if_pos (by omega)]
  | succ f ih =>
    intro f' i s h h'
    cases f' with
    | zero => rw [loopS, loopS, if_pos (by omega)]
    | succ f' =>
      unfold loopS
      simp only
      rw [ih f' _ _ (by omega) (by omega)]
theorem loop_end (t : List Fil) (nest : Option Grp) (p : Bs) (l : List Bs) (tq i : Nat) (s : Sst) (h : tq ≤ i) : loopS t nest p l tq (tq - i) i s = (true, s) := by
  rw [show tq - i = 0 by omega]; rfl
theorem loop_step (t : List Fil) (nest : Option Grp) (p : Bs) (l : List Bs) (tq i : Nat) (s : Sst) (h : i < tq) (hl : i < l.length) :
    loopS t nest p l tq (tq - i) i s = if s.count = 2048 then failS s p i 10
      else if (parseH l[i]).2 ≠ 0 then failS { s with count := s.count + 1, heads := setM s.heads ⟨p, i⟩ true } p i (parseH l[i]).2
      else if (tq : Int) - i - 1 < (parseH l[i]).1.n then failS { s with count := s.count + 1, heads := setM s.heads ⟨p, i⟩ true } p i 13
      else if (doHead t nest p l i (parseH l[i]).1 { s with count := s.count + 1, heads := setM s.heads ⟨p, i⟩ true }).1 = false then (false, (doHead t nest p l i (parseH l[i]).1 { s with count := s.count + 1, heads := setM s.heads ⟨p, i⟩ true }).2)
      else loopS t nest p l tq (tq - (i + 1 + (parseH l[i]).1.n.toNat)) (i + 1 + (parseH l[i]).1.n.toNat) (doHead t nest p l i (parseH l[i]).1 { s with count := s.count + 1, heads := setM s.heads ⟨p, i⟩ true }).2 := by
  obtain ⟨f, hf⟩ : ∃ f, tq - i = f + 1 := ⟨tq - i - 1, by omega⟩
  have hg : l.getD i [] = l[i] := by rw [List.getD_eq_getElem?_getD, List.getElem?_eq_getElem hl]; rfl
  rw [hf, loopS, if_neg (by omega), hg]
  simp only
  rw [loop_fuel t nest p l tq f (tq - (i + 1 + (parseH l[i]).1.n.toNat)) _ _ (by omega) (Nat.le_refl _)]
  cases (doHead t nest p l i (parseH l[i]).1 { s with count := s.count + 1, heads := setM s.heads ⟨p, i⟩ true }).1 <;> rfl
theorem ScOut.slN {α : Type} [GoT α] {W W1 : World} {M M1 : Nat → Prop} (h : ScOut W M W1 M1) {A : Option Addr} {n c : Nat} {xs : List α} (hs : Sl W (fun k => ¬ M k) A n c xs) (hz : 0 < GoT.size α) : Sl W1 (fun k => ¬ M1 k) A n c xs := by
  have h1 : Sl W (fun k => ¬ M k ∧ k < W.heap.size) A n c xs := hs.wide (fun k hk hn => ⟨hn, hk⟩) hz
  exact (h1.frm h.2 fun k hk => hk.1).wide (fun k _ hk hm => (h.1 k hm).elim hk.1 fun h => by omega) hz
structure GrA (z : World) (g q : Nat) (cs : Array Value) (p : Bs) (i : Nat) : Prop where
  sc : z.heap[g]? = some (.cells cs 96 (0, 0))
  at_ : z.heap[q]? = some (.cells #[.string ⟨p.toArray⟩, .int .i64 i] 38 (0, 0))
set_option maxRecDepth 100000 in
set_option maxHeartbeats 8000000 in
theorem grp_any (d : Nat) (t : List Fil) (B : Nat) (hf : ∀ e, d = e + 1 → FileOk e t B) (hgr : ∀ e, d = e + 1 → GrpOk e t B) (hT : TOk t) (hB : gMx < B) (hd : d ≤ 24) : GrpOk d t B := by
  intro W M g s p A n c l fr tq H hst hop hL hp hl hlo hfr htq
  obtain ⟨R, hR⟩ : ∃ R, R = groupS t d p l fr tq s := ⟨_, rfl⟩
  rw [← hR]
  rw [group_nest] at hR
  obtain ⟨D, hD⟩ : ∃ D : Int, D = 24 - (d : Int) := ⟨_, rfl⟩
  rw [← hD]
  have hln := hl.len
  have hnc := hl.2.1
  have hle := hl.le
  subst hln
  have hlo1 := hlo.1
  have hhd := fun W' M' s' i k m nm Ah nh ch ps N h1 h2 h3 h4 h5 h6 h7 h8 h9 => head_any d t B hf hgr hT hB hd W' M' g s' p i k m nm Ah nh ch ps N A l.length c l h1 h2 h3 h4 hp h5 h6 h7 hlo h8 h9
  rw [← hD] at hhd
  have hold := H.old
  have HR0 : Hid (R = loopS t (nestS t d) p l tq (tq - fr) fr s) := hR
  have HH := Lib.hid H; have HL := Lib.hid hL; have HLI := Lib.hid hl; have HLO := Lib.hid hlo; have HHD := Lib.hid hhd; have HST := Lib.hid hst; have HOLD := Lib.hid hold
  clear hR H hL hf hgr hl hlo hhd hD hold hst
  go_enter Tryz.func87, Tryz.ntmps87
  go_wp2_with fail
  go_loopw [13] (fun i wr => ∃ (k : Nat) (s1 : Sst) (M1 : Nat → Prop), k ≤ tq ∧ i = .int .i64 k ∧ ScW wr M1 B g t s1 ∧ ScOut W M wr M1 ∧ StI s1 ∧ s1.opn = s.opn ∧ Hid (R = loopS t (nestS t d) p l tq (tq - k) k s1)) (fun i _ => tq - (intOf i).toNat)
  case atStart => exact ⟨fr, s, M, hfr, rfl, HH.out, ScOut.refl W M, HST.out, rfl, HR0⟩
  case round =>
    obtain ⟨k, s1, M1, hk, rfl, hsc, hout, hsti, hopn, hf⟩ := hrel
    by_cases hlt : k < tq
    · have hkl : k < l.length := by omega
      have hst := hf.out
      rw [loop_step t (nestS t d) p l tq k s1 hlt hkl] at hst
      have hlen := HLO.out.2 _ (List.getElem_mem hkl)
      have hpn := parse_n (l := l[k])
      have hpm := parse_name l[k]
      have hpa := fun w h => parse_any l[k] w h (by omega)
      have hstr := fun (w1 : World) (M9 : Nat → Prop) (h : ScOut W M w1 M9) => (h.slN HLI.out (by decide)).str hkl
      generalize l[k] = lk at *
      generalize parseH lk = X at *
      obtain ⟨⟨k0, m0, nm, ps, N⟩, ec⟩ := X
      simp only at hst hpn hpm hpa
      have hnm : nm.length ≤ 65536 := by
        rcases hpm with h | h
        · rw [h]; simp
        · have := h.length_le; omega
      have hco := hsti.co
      have HST1 := Lib.hid hst; have HPA := Lib.hid hpa; have HSTR := Lib.hid hstr; have HPN := Lib.hid hpn; have HSC := Lib.hid hsc; have HOUT := Lib.hid hout; have HSTI := Lib.hid hsti
      have HOPN := Lib.hid hopn
      clear hst hf hpn hpm hpa hstr hlen hsc hout hsti hopn
      go_upto_region 4 with fail
      have hb1 : Below wr.heap.size wr (wr.alloc (.cells #[.string ⟨p.toArray⟩, .int .i64 k] 38)) := (Below.refl _ _).alloc (Nat.le_refl _) _
      have hq1 := blkAt wr (.cells #[.string ⟨p.toArray⟩, .int .i64 k] 38) rfl
      have hlq : wr.heap.size < (wr.alloc (.cells #[.string ⟨p.toArray⟩, .int .i64 k] 38)).heap.size := lt_alloc _ _
      generalize (wr.alloc (.cells #[.string ⟨p.toArray⟩, .int .i64 k] 38)) = W1 at *
      obtain ⟨tA, tn, tc, mf, mm, mh, ml, iA, ic, oA, oc, mv, H1⟩ := HSC.out.below hb1
      have hM1 := fun j hj => (HSC.out.old j hj).2
      have HMQ := Lib.hid hM1
      have hcs := H1.cells
      unfold scC at hcs
      have c7 := (cell_blk hcs 7).trans rfl
      have f7 := frz_blk hcs 7
      have q0 := (cell_blk hq1 0).trans rfl
      have q1 := (cell_blk hq1 1).trans rfl
      have HQ1 := Lib.hid hq1; have H1H := Lib.hid H1; have HCS := Lib.hid hcs; have HO1 := Lib.hid (HOUT.out.trans (ScOut.below M1 hb1))
      have HLQ := Lib.hid hlq
      clear hb1 hq1 H1 hcs hM1 HSC HOUT hlq
      by_cases hc : s1.count = 2048
      · have HR := Lib.hid (HST1.out.trans (if_pos hc))
        rw [hc] at c7
        go_wp2_with fail
        (refine (fail_any W1 M1 B g t _ ⟨tA, tn, tc, mf, mm, mh, ml, iA, ic, oA, oc, mv, H1H.out⟩ p k 10).mono ?_; rintro e w9 ⟨rfl, M', hs9, ho9⟩; go_wp2_with fail; go_ret; exact ⟨by rw [HR.out]; rfl, M', by rw [HR.out]; exact hs9, HO1.out.trans ho9⟩)
      · have HST2 := Lib.hid (HST1.out.trans (if_neg hc))
        go_upto_region 7 with fail
        have H2 := H1H.out.touch (W' := W1.setCell ⟨g, 7, none⟩ (.int .i64 ((s1.count : Int) + 1))) (s1.count + 1) s1.fault (by simpa [scC] using Blk.set W1 HCS.out 7 (.int .i64 ((s1.count : Int) + 1))) (fun k hk => set_other _ _ _ _ _ hk) (by simp [size_set])
        have hq2 : (W1.setCell ⟨g, 7, none⟩ (.int .i64 ((s1.count : Int) + 1))).heap[wr.heap.size]? = some (.cells #[.string ⟨p.toArray⟩, .int .i64 k] 38 (0, 0)) := (set_other _ _ _ _ _ (fun e => by have := HMQ.out g (H1H.out.own g (.inl rfl)); omega)).trans HQ1.out
        have ho2 : ScOut W M (W1.setCell ⟨g, 7, none⟩ (.int .i64 ((s1.count : Int) + 1))) M1 := HO1.out.trans ⟨fun _ h => .inl h, Frm.setCell (Frm.refl _ _) (fun _ => H1H.out.own g (.inl rfl)) _⟩
        clear c7 f7 q0 q1 HQ1 HCS HO1 H1H
        generalize (W1.setCell ⟨g, 7, none⟩ (.int .i64 ((s1.count : Int) + 1))) = W2 at *
        have hA2 : GrA W2.drew g wr.heap.size (scC tA tn tc mf mm iA ic mh ml oA oc { s1 with count := s1.count + 1, fault := s1.fault }) p k := ⟨H2.cells, hq2⟩
        have H2d := Lib.hid (H2.below (Below.refl _ _).drew)
        have HO2 := Lib.hid (ho2.trans (ScOut.below M1 (Below.refl _ _).drew))
        have HX := Lib.hid (fun (z : World) (hz : GrA z g wr.heap.size (scC tA tn tc mf mm iA ic mh ml oA oc { s1 with count := s1.count + 1, fault := s1.fault }) p k) => And.intro (show z.cell? ⟨g, 4, none⟩ = some (.map (some mh)) from (cell_blk hz.sc 4).trans rfl) (And.intro ((cell_blk hz.at_ 0).trans rfl) ((cell_blk hz.at_ 1).trans rfl)))
        refine wpH_region (fun z => GrA z g wr.heap.size (scC tA tn tc mf mm iA ic mh ml oA oc { s1 with count := s1.count + 1, fault := s1.fault }) p k) (by kernel_rfl) ?_
        have hS := hA2
        clear H2 hq2 ho2 hA2
        (refine tkW 0 (v := ?_) hS ?_ ?_; rotate_left; (focus (intro x hx; have fx := HX.out x hx; go_simp; (try with_reducible rfl); done)); (try simp only [Act.put, lsa, lsz, lss]))
        (refine tkW 1 (v := ?_) hS ?_ ?_; rotate_left; (focus (intro x hx; have fx := HX.out x hx; go_simp; (try with_reducible rfl); done)); (try simp only [Act.put, lsa, lsz, lss]))
        (refine tkW 2 (v := ?_) hS ?_ ?_; rotate_left; (focus (intro x hx; have fx := HX.out x hx; go_simp; (try with_reducible rfl); done)); (try simp only [Act.put, lsa, lsz, lss]))
        (refine tkW 3 (v := ?_) hS ?_ ?_; rotate_left; (focus (intro x hx; have fx := HX.out x hx; go_simp; (try with_reducible rfl); done)); (try simp only [Act.put, lsa, lsz, lss]))
        (refine tkW 4 (v := ?_) hS ?_ ?_; rotate_left; (focus (intro x hx; have fx := HX.out x hx; go_simp; (try with_reducible rfl); done)); (try simp only [Act.put, lsa, lsz, lss]))
        refine wpAnyH_one 5 (by kernel_rfl) rfl ?_
        intro K' hK'
        refine step_updV rfl _ _ _ rfl Tryz.underlying94 rfl (⟨p, (k : Int)⟩ : Ln) rfl (.bool true) rfl H2d.out.heads ⟨by show p.length ≤ 9223372036854775807; omega, by show -9223372036854775808 ≤ (k : Int); omega, by show (k : Int) ≤ 9223372036854775807; omega⟩ ?_
        intro w3 hm3 hg3
        obtain ⟨h31, h32⟩ := H2d.out.read hm3 hg3
        have hM3 : M1 mh := H2d.out.own mh (.inr (.inr (.inr (.inl rfl))))
        have hS3 : GrA w3 g wr.heap.size (scC tA tn tc mf mm iA ic mh ml oA oc { s1 with count := s1.count + 1, fault := s1.fault }) p k := ⟨grownBlk hg3 hS.sc (fun e => H2d.out.dif.2.2.1 (by injection e with e; exact e.symm)), grownBlk hg3 hS.at_ (fun e => by injection e with e; have := HMQ.out _ hM3; omega)⟩
        have HW3 := Lib.hid (show ScW w3 M1 B g t { s1 with count := s1.count + 1, heads := setM s1.heads ⟨p, k⟩ true } from ⟨_, _, _, _, _, _, _, _, _, _, _, _, h31⟩)
        have HO3 := Lib.hid (HO2.out.trans h32); have HQ3 := Lib.hid hS3.at_
        have hlq3 : wr.heap.size < w3.heap.size := (Array.getElem?_eq_some_iff.1 hS3.at_).1
        clear hm3 hg3 h31 h32 hM3 hS H2d HO2
        refine hK'.out _ _ hS3 ?_
        clear hK' K' hS3
        refine wpAnyH_done (by kernel_rfl) ?_ _
        simp only [Act.put, List.getElem_toArray, List.getElem_cons_succ, List.getElem_cons_zero]
        obtain ⟨b3, o3, rfl, -, hb3, hs3⟩ := HSTR.out _ _ HO3.out
        go_wp2_with fail
        refine (HPA.out w3 (HL.out.out hB (fun j hj => (HOLD.out j hj).1) HO3.out)).mono ?_
        rintro e w4 ⟨v, rfl, ⟨Ah, nh, ch, rfl, hps⟩, hb4⟩
        simp only at hps
        have HW4 := Lib.hid (HW3.out.below hb4); have HO4 := Lib.hid (HO3.out.trans (ScOut.below M1 hb4)); have HQ4 := Lib.hid (keptBlk hb4 HQ3.out)
        have hps4 : Sl w4 (fun j => ¬ M1 j) Ah nh ch ps := hps.wide (fun j _ hj hm => by have := (HW3.out.old j hm).2; omega) (by decide)
        have HPS4 := Lib.hid hps4
        have hlq4 := hb4.size
        clear hps hps4 hb4 HPA hs3 HW3 HO3 HQ3
        go_upto_region 9 with fail
        have hb5 : Below w4.heap.size w4 (w4.alloc (.cells #[.int .i64 k0, .int .i64 m0, .string ⟨nm.toArray⟩, .slice Ah nh ch, .int .i64 N] 79)) := (Below.refl _ _).alloc (Nat.le_refl _) _
        have hd5 := blkAt w4 (.cells #[.int .i64 k0, .int .i64 m0, .string ⟨nm.toArray⟩, .slice Ah nh ch, .int .i64 N] 79) rfl
        generalize (w4.alloc (.cells #[.int .i64 k0, .int .i64 m0, .string ⟨nm.toArray⟩, .slice Ah nh ch, .int .i64 N] 79)) = w5 at *
        have HW5 := Lib.hid (HW4.out.below hb5); have HO5 := Lib.hid (HO4.out.trans (ScOut.below M1 hb5)); have HQ5 := Lib.hid (keptBlk hb5 HQ4.out); have HPS5 := Lib.hid (HPS4.out.below hb5); have HD5 := Lib.hid hd5
        clear hb5 hd5 HW4 HO4 HQ4 HPS4
        have a0 := (cell_blk HQ5.out 0).trans rfl
        have a1 := (cell_blk HQ5.out 1).trans rfl
        have d0 := (cell_blk HD5.out 0).trans rfl
        have d1 := (cell_blk HD5.out 1).trans rfl
        have d2 := (cell_blk HD5.out 2).trans rfl
        have d3 := (cell_blk HD5.out 3).trans rfl
        have d4 := (cell_blk HD5.out 4).trans rfl
        by_cases hec : ec ≠ 0
        · have HR := Lib.hid (HST2.out.trans (if_pos hec))
          have hE : (ec != 0) = true := by rw [bne_iff_ne]; exact hec
          clear hec
          go_wp2_with fail
          (refine (fail_any w5 M1 B g t _ HW5.out p k ec).mono ?_; rintro e w9 ⟨rfl, M', hs9, ho9⟩; go_wp2_with fail; go_ret; exact ⟨by rw [HR.out]; rfl, M', by rw [HR.out]; exact hs9, HO5.out.trans ho9⟩)
        · have hec0 : ec = 0 := by omega
          subst hec0
          obtain ⟨hN0, hN1⟩ := HPN.out rfl
          have HST3 := Lib.hid (HST2.out.trans (if_neg hec))
          clear hec HST2
          by_cases hsh : (tq : Int) - k - 1 < N
          · have HR := Lib.hid (HST3.out.trans (if_pos hsh))
            go_wp2_with fail
            (refine (fail_any w5 M1 B g t _ HW5.out p k 13).mono ?_; rintro e w9 ⟨rfl, M', hs9, ho9⟩; go_wp2_with fail; go_ret; exact ⟨by rw [HR.out]; rfl, M', by rw [HR.out]; exact hs9, HO5.out.trans ho9⟩)
          · have HST4 := Lib.hid (HST3.out.trans (if_neg hsh))
            have hsl5 : Sl w5 (fun j => ¬ M1 j) (some ⟨b3, o3, none⟩) l.length c l := HO5.out.slN HLI.out (by decide)
            have hst2 : StI { s1 with count := s1.count + 1, heads := setM s1.heads ⟨p, k⟩ true } := ⟨HSTI.out.it, HSTI.out.ma, by show s1.count + 1 ≤ 2048; omega⟩
            have hopn2 : s1.opn.length + d ≤ 25 := by rw [HOPN.out]; exact hop
            have hfit : k + 1 + N.toNat ≤ l.length := by omega
            have hh := HHD.out w5 M1 { s1 with count := s1.count + 1, heads := setM s1.heads ⟨p, k⟩ true } k k0 m0 nm Ah nh ch ps N HW5.out hst2 hopn2 (HL.out.out hB (fun j hj => (HOLD.out j hj).1) HO5.out) hnm HPS5.out hsl5 hN0 hfit
            have hkp := keep_head t (nest := nestS t d) (fun g hg => by cases d with
                                                                     | zero => cases hg
                                                                     | succ e => injection hg with hg; subst hg; exact keep_group t e) p l k ⟨k0, m0, nm, ps, N⟩ hst2
            have HH9 := Lib.hid hh; have HKP := Lib.hid hkp
            clear hh hkp hst2 hsl5 HHD
            generalize doHead t (nestS t d) p l k ⟨k0, m0, nm, ps, N⟩ { s1 with count := s1.count + 1, heads := setM s1.heads ⟨p, k⟩ true } = Y at *
            obtain ⟨ok, s2⟩ := Y
            go_wp2_with fail
            refine HH9.out.mono ?_
            rintro e w9 ⟨rfl, M', hs9, ho9⟩
            simp only at hs9
            have HS9 := Lib.hid hs9; have HO9 := Lib.hid (HO5.out.trans ho9)
            have hd9 := ho9.blk HD5.out (fun hm => by have := HMQ.out _ hm; omega)
            have HD9 := Lib.hid hd9
            clear hs9 ho9 hd9 a0 a1 d0 d1 d2 d3 d4 HH9 HW5 HO5 HQ5 HPS5 HD5
            have d4 := (cell_blk HD9.out 4).trans rfl
            cases ok with
            | false =>
              have HR := Lib.hid (HST4.out.trans (if_pos rfl))
              go_wp2_with fail
              go_ret
              exact ⟨by rw [HR.out]; rfl, M', by rw [HR.out]; exact HS9.out, HO9.out⟩
            | true =>
              have HR := Lib.hid (HST4.out.trans (if_neg (by simp)))
              have hNn : ((k + 1 + N.toNat : Nat) : Int) = (k : Int) + (1 + N) := by omega
              go_wp2_with fail
              go_roundw
              case measure => simp [intOf]; omega
              case rel => exact ⟨k + 1 + N.toNat, s2, M', by omega, by rw [hNn], HS9.out, HO9.out, HKP.out.1, HKP.out.2.1.trans HOPN.out, HR.out⟩
    · have HR := Lib.hid (hf.out.trans (loop_end _ _ _ _ _ _ _ (by omega)))
      go_wp2_with fail
      go_ret
      exact ⟨by rw [HR.out]; rfl, M1, by rw [HR.out]; exact hsc, hout⟩
end Go.Proofs.YtpeamehplhpcjaaGreatDoor
