/- A part of the proofs of the laws of one package; see the law's own text, which comes last in 'order'. No conditions of its own. -/
import Derived.Test.YtpeamehplhpcjaaGreatDoorWC25
import Derived.Test.YtpeamehplhpcjaaGreatDoorWC31
set_option linter.unusedVariables false
set_option linter.unusedSimpArgs false
namespace Go.Proofs.YtpeamehplhpcjaaGreatDoor
structure CI (N : Nat) (s : Sst) : Prop where
  h : s.heads.length ≤ s.count
  f : s.files.length ≤ s.count + 1
  l : s.flags.length ≤ N
def CG (N : Nat) (g : Grp) : Prop := ∀ p l fr tu s, CI N s → CI N (g p l fr tu s).2
def CN (N : Nat) (n : Option Grp) : Prop := ∀ g, n = some g → CG N g
theorem ci_fail {N : Nat} {s : Sst} (h : CI N s) (p : Bs) (n e : Int) : CI N (failS s p n e).2 := ⟨h.h, h.f, h.l⟩
theorem ci_file {N : Nat} {g : Grp} (hg : CG N g) (p : Bs) (l : List Bs) {s : Sst} (h : CI N s) (hf : s.files.length ≤ s.count) : CI N (fileS g p l s).2 := by
  have h1 := len_setM s.files p true
  have h2 : CI N { s with files := setM s.files p true, opn := s.opn ++ [p] } := ⟨h.h, by show (setM s.files p true).length ≤ s.count + 1; omega, h.l⟩
  have h3 := hg p l 0 l.length _ h2
  exact ⟨h3.h, h3.f, h3.l⟩
theorem ci_incl {N : Nat} (t : List Fil) {nest : Option Grp} (hn : CN N nest) (p : Bs) (n : Int) (ref : Bs) {s : Sst} (h : CI N s) (hf : s.files.length ≤ s.count) : CI N (inclS t nest p n ref s).2 := by
  unfold inclS
  simp only
  split
  · exact ci_fail h _ _ _
  · split
    · exact ci_fail h _ _ _
    · split
      · exact ci_fail h _ _ _
      · split
        · exact ci_fail h _ _ _
        · split
          · exact ci_fail h _ _ _
          · rename_i g
            exact ci_file (hn g rfl) _ _ h hf
theorem ci_item {N : Nat} (p : Bs) (n : Int) (x : Itm) {s : Sst} (h : CI N s) : CI N (itemS p n x s).2 := by
  unfold itemS
  split
  · exact ci_fail h _ _ _
  · split
    · exact ci_fail h _ _ _
    · exact ⟨h.h, h.f, h.l⟩
theorem ci_head {N : Nat} (t : List Fil) {nest : Option Grp} (hn : CN N nest) (p : Bs) (l : List Bs) (i : Nat) (x : Hd) {s : Sst} (h : CI N s) (hf : s.files.length ≤ s.count) : CI N (doHead t nest p l i x s).2 := by
  unfold doHead
  simp only
  split
  · exact ci_incl t hn _ _ _ h hf
  · split
    · split
      · exact ci_fail h _ _ _
      · split
        · exact ci_fail h _ _ _
        · exact ⟨h.h, h.f, h.l⟩
    · split
      · split
        · have := len_delM s.flags x.name
          have hl := h.l
          exact ⟨h.h, h.f, by show (delM s.flags x.name).length ≤ N; omega⟩
        · exact ci_fail h _ _ _
      · split
        · split
          · exact h
          · split
            · exact ci_fail h _ _ _
            · rename_i g
              exact hn g rfl _ _ _ _ _ h
        · split
          · exact ci_item _ _ _ h
          · split
            · exact ci_item _ _ _ h
            · split
              · exact ci_item _ _ _ h
              · exact h
theorem ci_loop {N : Nat} (t : List Fil) {nest : Option Grp} (hn : CN N nest) (p : Bs) (l : List Bs) (tu : Nat) : ∀ f i (s : Sst), CI N s → CI N (loopS t nest p l tu f i s).2 := by
  intro f
  induction f with
  | zero => intro i s h; exact h
  | succ f ih =>
    intro i s h
    unfold loopS
    split
    · exact h
    · split
      · exact ci_fail h _ _ _
      · have h1 := len_setM s.heads (⟨p, i⟩ : Ln) true
        have hh := h.h
        have hf := h.f
        have h2 : CI N { s with count := s.count + 1, heads := setM s.heads ⟨p, i⟩ true } := ⟨by show (setM s.heads (⟨p, i⟩ : Ln) true).length ≤ s.count + 1; omega, by show s.files.length ≤ s.count + 1 + 1; omega, h.l⟩
        simp only
        split
        · exact ci_fail h2 _ _ _
        · split
          · exact ci_fail h2 _ _ _
          · have h3 := ci_head t hn p l i (parseH (l.getD i [])).1 h2 (by show s.files.length ≤ s.count + 1; omega)
            split
            · exact h3
            · exact ih _ _ h3
theorem ci_group {N : Nat} (t : List Fil) : ∀ d, CG N (groupS t d) := by
  intro d
  induction d with
  | zero => intro p l fr tu s h; exact ci_loop t (fun g hg => by cases hg) p l tu _ _ s h
  | succ d ih => intro p l fr tu s h; exact ci_loop t (fun g hg => by injection hg with hg; subst hg; exact ih) p l tu _ _ s h
def RI (s : Sst) : Prop := ∀ x ∈ s.heads.map (·.1), 0 ≤ x.n ∧ x.n ≤ 100000
def RG (g : Grp) : Prop := ∀ p l fr tu s, tu ≤ 1024 → RI s → RI (g p l fr tu s).2
def RN (n : Option Grp) : Prop := ∀ g, n = some g → RG g
theorem ri_item (p : Bs) (n : Int) (x : Itm) {s : Sst} (h : RI s) : RI (itemS p n x s).2 := by
  unfold itemS
  split
  · exact h
  · split
    · exact h
    · exact h
theorem lines_le (d : Bs) : (linesS d).1.length ≤ 1024 := by
  unfold linesS
  split
  · simp
  · split
    · simp
    · show (splitS 10 d).length ≤ 1024
      rw [split_len]; omega
theorem ri_head (t : List Fil) {nest : Option Grp} (hn : RN nest) (p : Bs) (l : List Bs) (i : Nat) (x : Hd) (hx : i + 1 + x.n.toNat ≤ 1024) {s : Sst} (h : RI s) : RI (doHead t nest p l i x s).2 := by
  unfold doHead
  simp only
  split
  · unfold inclS
    simp only
    split
    · exact h
    · split
      · exact h
      · split
        · exact h
        · rename_i d hd
          split
          · exact h
          · split
            · exact h
            · rename_i g
              exact hn g rfl _ _ _ _ { s with files := setM s.files _ true, opn := s.opn ++ [_] } (lines_le d) h
  · split
    · split
      · exact h
      · split
        · exact h
        · exact h
    · split
      · split
        · exact h
        · exact h
      · split
        · split
          · exact h
          · split
            · exact h
            · rename_i g
              exact hn g rfl _ _ _ _ _ hx h
        · split
          · exact ri_item _ _ _ h
          · split
            · exact ri_item _ _ _ h
            · split
              · exact ri_item _ _ _ h
              · exact h
theorem ri_loop (t : List Fil) {nest : Option Grp} (hn : RN nest) (p : Bs) (l : List Bs) (tu : Nat) (hto : tu ≤ 1024) : ∀ f i (s : Sst), RI s → RI (loopS t nest p l tu f i s).2 := by
  intro f
  induction f with
  | zero => intro i s h; exact h
  | succ f ih =>
    intro i s h
    unfold loopS
    split
    · exact h
    · split
      · exact h
      · have h2 : RI { s with count := s.count + 1, heads := setM s.heads ⟨p, i⟩ true } := by
          intro x hx
          rcases (keys_setM _ _ _ _).1 hx with rfl | hx
          · exact ⟨by show (0 : Int) ≤ (i : Int); omega, by show (i : Int) ≤ 100000; omega⟩
          · exact h x hx
        simp only
        split
        · exact h2
        · rename_i he
          split
          · exact h2
          · have hp := (parse_n (l := l.getD i []) (by omega)).1
            have h3 := ri_head t hn p l i (parseH (l.getD i [])).1 (by omega) h2
            split
            · exact h3
            · exact ih _ _ h3
theorem ri_group (t : List Fil) : ∀ d, RG (groupS t d) := by
  intro d
  induction d with
  | zero => intro p l fr tu s hto h; exact ri_loop t (fun g hg => by cases hg) p l tu hto _ _ s h
  | succ d ih => intro p l fr tu s hto h; exact ri_loop t (fun g hg => by injection hg with hg; subst hg; exact ih) p l tu hto _ _ s h
theorem scan_fin (t : List Fil) (p : Bs) (ls : List Bs) (fl : List Bs) (hl : 0 < ls.length) (hl2 : ls.length ≤ 1024) {s2 : Sst} (h : fileS (groupS t 24) p ls (st0 fl) = (true, s2)) :
    (s2.macros.map (·.2)).Nodup ∧ (∀ x ∈ s2.macros.map (·.2), ∀ y ∈ s2.macros.map (·.2), x.name = y.name → x = y) ∧ s2.heads ≠ [] ∧ s2.heads.length ≤ 2048 ∧ s2.files.length ≤ 2049 ∧ s2.flags.length ≤ fl.length ∧ s2.macros.length ≤ 128 ∧ (∀ x ∈ s2.heads.map (·.1), 0 ≤ x.n ∧ x.n ≤ 100000) ∧ s2.items.length ≤ 128 := by
  have hag : ∃ r, Agr s2 r := by
    rcases file_agr (group_agr t 24) p ls (st0_agr fl) with ⟨_, _, h3⟩ | ⟨h1, _, _⟩
    · rw [h] at h3; exact ⟨_, h3⟩
    · rw [h] at h1; cases h1
  obtain ⟨r, hag⟩ := hag
  have hfl : (st0 fl).flags.length ≤ fl.length := by
    have : ∀ (fl : List Bs) (m : List (Bs × Bool)), (fl.foldl (fun m f => setM m f true) m).length ≤ m.length + fl.length := by
      intro fl
      induction fl with
      | nil => intro m; simp
      | cons f r ih =>
        intro m
        have h1 := ih (setM m f true)
        have h2 := len_setM m f true
        simp only [List.foldl_cons, List.length_cons]
        omega
    simpa [st0] using this fl []
  have hci := ci_file (ci_group t 24) p ls (s := st0 fl) (N := fl.length) ⟨Nat.zero_le _, Nat.zero_le _, hfl⟩ (Nat.zero_le _)
  have hst := (keep_file (keep_group t 24) p ls (s := st0 fl) ⟨Nat.zero_le _, Nat.zero_le _, Nat.zero_le _⟩).1
  rw [h] at hci hst
  obtain ⟨c1, c2, c3⟩ := hci
  simp only at c1 c2 c3
  have hco := hst.co
  simp only at hco
  refine ⟨vals_nodup hag.mky hag.mn, fun x hx y hy e => ?_, ?_, by omega, by omega, c3, hst.ma, fun x hx => ?_, hst.it⟩
  · obtain ⟨a, ha, rfl⟩ := List.mem_map.1 hx
    obtain ⟨b, hb, rfl⟩ := List.mem_map.1 hy
    rw [key_inj hag.mn ha hb (by rw [hag.mky a ha, hag.mky b hb, e])]
  · have h0 := (group_fil t 24) p ls 0 ls.length { st0 fl with files := setM (st0 fl).files p true, opn := (st0 fl).opn ++ [p] }
    unfold fileS at h
    cases hr : groupS t 24 p ls 0 ls.length { st0 fl with files := setM (st0 fl).files p true, opn := (st0 fl).opn ++ [p] } with
    | mk b s3 =>
      rw [hr] at h
      injection h with e1 e2
      simp only at e1
      subst e1
      have := (h0 s3 hr).2.1 hl
      rw [← e2]
      intro e
      unfold keysH at this
      simp only at e
      rw [e] at this
      cases this
  · have h0 := (ri_group t 24) p ls 0 ls.length { st0 fl with files := setM (st0 fl).files p true, opn := (st0 fl).opn ++ [p] } hl2 (fun x hx => by cases hx)
    have e : s2 = { (groupS t 24 p ls 0 ls.length { st0 fl with files := setM (st0 fl).files p true, opn := (st0 fl).opn ++ [p] }).2 with opn := s2.opn } := by
      unfold fileS at h
      rw [← (Prod.mk.inj h).2]
    rw [e] at hx
    exact h0 x hx
end Go.Proofs.YtpeamehplhpcjaaGreatDoor
namespace Go.Proofs.YtpeamehplhpcjaaGreatDoor
def NE (l : List Bs) : Prop := ∀ q ∈ l, q ≠ []
structure PN (s : Sst) : Prop where
  it : ∀ x ∈ s.items, NE x.params
  ma : ∀ x ∈ s.macros, NE x.2.params
def PG (g : Grp) : Prop := ∀ p l fr tu s, PN s → PN (g p l fr tu s).2
def PNn (n : Option Grp) : Prop := ∀ g, n = some g → PG g
theorem parse_ne {l : Bs} (h0 : (parseH l).2 = 0) : NE (parseH l).1.params := by
  have h := h0
  unfold parseH at h ⊢
  split
  · exact fun q hq => by cases hq
  · rename_i he
    rw [if_neg he] at h
    simp only at h ⊢
    split
    · exact fun q hq => by cases hq
    · rename_i h2
      rw [if_neg h2] at h
      split
      · exact fun q hq => by cases hq
      · rename_i h3
        have h4 : headE (shapeS (splitS 32 l)).1 = 0 := by omega
        unfold headE at h4
        split at h4; cases h4
        split at h4; cases h4
        split at h4; cases h4
        rename_i h5
        intro q hq e
        apply h5
        rw [List.any_eq_true]
        exact ⟨q, hq, by rw [e]; rfl⟩
theorem pn_file {g : Grp} (hg : PG g) (p : Bs) (l : List Bs) {s : Sst} (h : PN s) : PN (fileS g p l s).2 := by
  have h2 : PN { s with files := setM s.files p true, opn := s.opn ++ [p] } := ⟨h.it, h.ma⟩
  have h3 := hg p l 0 l.length _ h2
  exact ⟨h3.it, h3.ma⟩
theorem pn_item (p : Bs) (n : Int) (x : Itm) (hx : NE x.params) {s : Sst} (h : PN s) : PN (itemS p n x s).2 := by
  unfold itemS
  split
  · exact ⟨h.it, h.ma⟩
  · split
    · exact ⟨h.it, h.ma⟩
    · refine ⟨fun y hy => ?_, h.ma⟩
      rcases List.mem_append.1 hy with hy | hy
      · exact h.it y hy
      · rw [List.mem_singleton.1 hy]; exact hx
theorem pn_head (t : List Fil) {nest : Option Grp} (hn : PNn nest) (p : Bs) (l : List Bs) (i : Nat) (x : Hd) (hx : NE x.params) {s : Sst} (h : PN s) : PN (doHead t nest p l i x s).2 := by
  unfold doHead
  simp only
  split
  · unfold inclS
    simp only
    split
    · exact ⟨h.it, h.ma⟩
    · split
      · exact ⟨h.it, h.ma⟩
      · split
        · exact ⟨h.it, h.ma⟩
        · split
          · exact ⟨h.it, h.ma⟩
          · split
            · exact ⟨h.it, h.ma⟩
            · rename_i g
              exact pn_file (hn g rfl) _ _ h
  · split
    · split
      · exact ⟨h.it, h.ma⟩
      · split
        · exact ⟨h.it, h.ma⟩
        · refine ⟨h.it, fun y hy => ?_⟩
          rcases mem_setM _ _ _ _ hy with rfl | hy
          · exact hx
          · exact h.ma y hy
    · split
      · split
        · exact ⟨h.it, fun y hy => h.ma y (List.mem_filter.1 hy).1⟩
        · exact ⟨h.it, h.ma⟩
      · split
        · split
          · exact h
          · split
            · exact ⟨h.it, h.ma⟩
            · rename_i g
              exact hn g rfl _ _ _ _ _ h
        · split
          · exact pn_item _ _ _ hx h
          · split
            · exact pn_item _ _ _ hx h
            · split
              · exact pn_item _ _ _ hx h
              · exact h
theorem pn_loop (t : List Fil) {nest : Option Grp} (hn : PNn nest) (p : Bs) (l : List Bs) (tu : Nat) : ∀ f i (s : Sst), PN s → PN (loopS t nest p l tu f i s).2 := by
  intro f
  induction f with
  | zero => intro i s h; exact h
  | succ f ih =>
    intro i s h
    unfold loopS
    split
    · exact h
    · split
      · exact ⟨h.it, h.ma⟩
      · have h2 : PN { s with count := s.count + 1, heads := setM s.heads ⟨p, i⟩ true } := ⟨h.it, h.ma⟩
        simp only
        split
        · exact ⟨h.it, h.ma⟩
        · rename_i he
          split
          · exact ⟨h.it, h.ma⟩
          · have h3 := pn_head t hn p l i (parseH (l.getD i [])).1 (parse_ne (by omega)) h2
            split
            · exact h3
            · exact ih _ _ h3
theorem pn_group (t : List Fil) : ∀ d, PG (groupS t d) := by
  intro d
  induction d with
  | zero => intro p l fr tu s h; exact pn_loop t (fun g hg => by cases hg) p l tu _ _ s h
  | succ d ih => intro p l fr tu s h; exact pn_loop t (fun g hg => by injection hg with hg; subst hg; exact ih) p l tu _ _ s h
theorem scan_ne (t : List Fil) (p : Bs) (ls : List Bs) (fl : List Bs) {ok : Bool} {s2 : Sst} (h : fileS (groupS t 24) p ls (st0 fl) = (ok, s2)) : (∀ x ∈ s2.items, NE x.params) ∧ ∀ x ∈ s2.macros.map (·.2), NE x.params := by
  have h1 := pn_file (pn_group t 24) p ls (s := st0 fl) (by
    constructor
    · intro x hx; cases hx
    · intro x hx; cases hx)
  rw [h] at h1
  refine ⟨h1.it, fun x hx => ?_⟩
  obtain ⟨y, hy, rfl⟩ := List.mem_map.1 hx
  exact h1.ma y hy
end Go.Proofs.YtpeamehplhpcjaaGreatDoor
namespace Go.Proofs.YtpeamehplhpcjaaGreatDoor
open Go.RowKit
section
variable {W : World} {w0 : Nat} {S : Nat → Prop} {A : Option Addr} {n c : Nat}
def Zer (W : World) (w0 : Nat) : Prop := W.heap[w0]? = some (.cells #[.string ⟨#[]⟩, .slice none 0 0, .slice none 0 0, .slice none 0 0, .slice none 0 0, .slice none 0 0] 36 (0, 0)) ∧ W.heap[w0 + 1]? = some (.cells #[.int .i64 0, .int .i64 0, .int .i64 0, .string ⟨#[]⟩, .int .i64 0] 40 (0, 0))
theorem zer_cell (h : Zer W w0) {b o : Nat} {x : Bs} (hc : W.cell? ⟨b, o, none⟩ = some (.string ⟨x.toArray⟩)) (hx : x ≠ []) : b ≠ w0 ∧ b ≠ w0 + 1 := by
  refine ⟨fun e => ?_, fun e => ?_⟩
  · subst e
    rw [cell_blk h.1] at hc
    match o with
    | 0 => simp at hc; exact hx hc
    | 1 => simp at hc
    | 2 => simp at hc
    | 3 => simp at hc
    | 4 => simp at hc
    | 5 => simp at hc
    | k + 6 => simp at hc
  · subst e
    rw [cell_blk h.2] at hc
    match o with
    | 0 => simp at hc
    | 1 => simp at hc
    | 2 => simp at hc
    | 3 => simp at hc; exact hx hc
    | 4 => simp at hc
    | k + 5 => simp at hc
theorem clean_str (hz : Zer W w0) {xs : List Bs} (h : Sl W S A n c xs) (hne : NE xs) : Sl W (fun k => k ≠ w0 ∧ k ≠ w0 + 1) A n c xs := by
  refine ⟨h.1, h.2.1, h.2.2.1, fun i hi => ?_⟩
  obtain ⟨ad, hA, hS, g, hc, hr⟩ := h.2.2.2 i hi
  obtain ⟨b, o, hA', -, -, hcell⟩ := h.str hi
  rw [hA] at hA'
  injection hA' with hA'
  subst hA'
  exact ⟨_, hA, zer_cell hz hcell (hne _ (List.getElem_mem hi)), g, hc, hr⟩
theorem clean_itm (hz : Zer W w0) {xs : List Itm} (h : Sl W S A n c xs) (hA0 : ∀ k, A.map Addr.block = some k → k ≠ w0 ∧ k ≠ w0 + 1) (hne : ∀ x ∈ xs, NE x.params) : Sl W (fun k => k ≠ w0 ∧ k ≠ w0 + 1) A n c xs := by
  refine ⟨h.1, h.2.1, h.2.2.1, fun i hi => ?_⟩
  obtain ⟨ad, hA, hS, g, hc, h0, h1, h2, h4, h5, h6, A1, n1, c1, e, hs⟩ := h.2.2.2 i hi
  exact ⟨ad, hA, hA0 _ (by rw [hA]; rfl), g, hc, h0, h1, h2, h4, h5, h6, A1, n1, c1, e, clean_str hz hs (hne _ (List.getElem_mem hi))⟩
theorem clean_mac (hz : Zer W w0) {xs : List Mac} (h : Sl W S A n c xs) (hA0 : ∀ k, A.map Addr.block = some k → k ≠ w0 ∧ k ≠ w0 + 1) (hne : ∀ x ∈ xs, NE x.params) : Sl W (fun k => k ≠ w0 ∧ k ≠ w0 + 1) A n c xs := by
  refine ⟨h.1, h.2.1, h.2.2.1, fun i hi => ?_⟩
  obtain ⟨ad, hA, hS, g, hc, h0, h2, h3, h4, A1, n1, c1, e, hs⟩ := h.2.2.2 i hi
  exact ⟨ad, hA, hA0 _ (by rw [hA]; rfl), g, hc, h0, h2, h3, h4, A1, n1, c1, e, clean_str hz hs (hne _ (List.getElem_mem hi))⟩
end
end Go.Proofs.YtpeamehplhpcjaaGreatDoor
