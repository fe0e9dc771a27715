/- A part of the proofs of the laws of one package; see the law's own text, which comes last in 'order'. No conditions of its own. -/
import Derived.Test.YtpeamehplhpcjaaGreatDoorWB22
import Derived.Test.YtpeamehplhpcjaaGreatDoorWB27
set_option linter.unusedVariables false
set_option linter.unusedSimpArgs false
namespace Go.Proofs.YtpeamehplhpcjaaGreatDoor
open Go.RowKit
theorem path_len {s : Bs} (h : pathS s = true) : s.length ≤ 128 := by
  unfold pathS at h
  simp only [Bool.and_eq_true, decide_eq_true_eq] at h
  exact h.1.1
theorem tree_ok {t : List Fil} (h : treeS t = 0) : TOk t := by
  unfold treeS at h
  split at h; cases h
  have key : ∀ (t b : List Fil), checkT b t = 0 → TOk t := by
    intro t
    induction t with
    | nil => intro b _ f hf; cases hf
    | cons x r ih =>
      intro b h
      rw [checkT_cons] at h
      split at h; cases h
      rename_i h1
      split at h; cases h
      rename_i h2
      split at h; cases h
      split at h; cases h
      intro f hf
      rcases List.mem_cons.1 hf with rfl | hf
      · exact ⟨path_len (by simpa using h1), by omega⟩
      · exact ih _ h f hf
  exact key t [] h
theorem start_ok {t : List Fil} {p : Bs} {fl : List Bs} (h : (startS t p fl).2.2 = 0) : treeS t = 0 ∧ p.length ≤ 128 ∧ fl.length ≤ 128 ∧ LOk (startS t p fl).1 ∧ 0 < (startS t p fl).1.length := by
  unfold startS at h ⊢
  split at h; cases h
  rename_i h1
  split at h; cases h
  rename_i h2
  split at h; cases h
  rename_i h3
  split at h; cases h
  rename_i h4
  rw [if_neg h1, if_neg h2, if_neg h3, if_neg h4]
  have ht : treeS t = 0 := by omega
  have hp : pathS p = true := by
    simp only [Bool.or_eq_true, not_or] at h2
    simpa using h2.1.1
  cases hf : findT t p with
  | none => rw [hf] at h; cases h
  | some d =>
    rw [hf] at h
    simp only at h ⊢
    exact ⟨ht, path_len hp, by omega, lines_ok h (find_ok (tree_ok ht) hf).2, by rw [lines_pos h]; omega⟩
theorem ScB.flag {W W' : World} {M : Nat → Prop} {B g : Nat} {tA : Option Addr} {tn tc mf mm mh ml : Nat} {iA : Option Addr} {ic : Nat} {oA : Option Addr} {oc : Nat} {mv : List (Bs × Value)} {t : List Fil} {s : Sst}
    (H : ScB W M B g tA tn tc mf mm mh ml iA ic oA oc mv t s) {k : Bs} (hm : MapV TS W' mf (setM (vFlags s.flags) k (.bool true))) (hg : W.grownBy W' (some mf)) :
    ScB W' M B g tA tn tc mf mm mh ml iA ic oA oc mv t { s with flags := setM s.flags k true } ∧ ScOut W M W' M := by
  have hM := H.own mf (.inr (.inl rfl))
  rw [vFlags_eq, vB_set] at hm
  exact H.one (s' := { s with flags := setM s.flags k true }) (.inl rfl) hg rfl rfl rfl rfl hm (ScB.kp hg H.mval (Ne.symm H.dif.2.2.2.2.1)) (H.kpM hM hg H.macs) (ScB.kp hg H.heads (Ne.symm H.dif.2.2.2.2.2.1)) (ScB.kp hg H.files (Ne.symm H.dif.2.2.2.2.2.2.1))
theorem map_made {κ : Type} (T : KeyT κ) {w : World} {b : Nat} (h : w.heap[b]? = some (.map #[] 0)) : MapV T w b [] := ⟨#[], 0, h, Go.MapKept.stamped_empty 0, rfl, fun p hp => by cases hp⟩
theorem st0_step (fl : List Bs) (k : Nat) (hk : k < fl.length) : st0 (fl.take (k + 1)) = { st0 (fl.take k) with flags := setM (st0 (fl.take k)).flags fl[k] true } := by
  rw [List.take_succ_eq_append_getElem hk]
  unfold st0
  simp only [List.foldl_append, List.foldl_cons, List.foldl_nil]
theorem made_scan {V W : World} {t : List Fil} {tA : Option Addr} {tn tc : Nat} (hV : Below V.heap.size V W) (hz : V.heap.size + 4 < W.heap.size) (ht : Sl W (fun k => k < V.heap.size) tA tn tc t)
    (h0 : W.heap[V.heap.size]? = some (.map #[] 0)) (h1 : W.heap[V.heap.size + 1]? = some (.map #[] 0)) (h2 : W.heap[V.heap.size + 2]? = some (.map #[] 0)) (h3 : W.heap[V.heap.size + 3]? = some (.map #[] 0))
    (hg : W.heap[V.heap.size + 4]? = some (.cells #[.slice tA tn tc, .map (some V.heap.size), .map (some (V.heap.size + 1)), .slice none 0 0, .map (some (V.heap.size + 2)), .map (some (V.heap.size + 3)), .slice none 0 0, .int .i64 0, .int .i64 0, .int .i64 0, .int .i64 0, .string ⟨#[]⟩, .int .i64 0] 96 (0, 0))) :
    ScB W (fun k => V.heap.size ≤ k ∧ k ≤ V.heap.size + 4) V.heap.size (V.heap.size + 4) tA tn tc V.heap.size (V.heap.size + 1) (V.heap.size + 2) (V.heap.size + 3) none 0 none 0 [] t (st0 []) where
  cells := hg
  tree := ht
  flags := map_made TS h0
  mval := map_made TS h1
  macs := trivial
  items := Own.nil _ _ _ _
  heads := map_made TLn h2
  files := map_made TS h3
  opn := Own.nil _ _ _ _
  own := by rintro k (h | h | h | h | h | h | h) <;> first | omega | cases h
  old := fun k h => h.1
  lt := fun k h => by omega
  dif := by refine ⟨?_, ?_, ?_, ?_, ?_, ?_, ?_, ?_, ?_, ?_⟩ <;> omega
  difi := fun k h => by cases h
  difo := fun k h => by cases h
end Go.Proofs.YtpeamehplhpcjaaGreatDoor
namespace Go.Proofs.YtpeamehplhpcjaaGreatDoor
def joinGo : Bs → List Bs → Bs
  | o, [] => o
  | o, s :: r => joinGo (o ++ 10 :: s) r
def sizeS : List Bs → Nat
  | [] => 0
  | s :: r => s.length + sizeS r
def rjoinS (l : List Bs) : Bs × Int :=
  match l with
  | [] => ([], 1)
  | a :: r =>
    if l.any (fun s => decide ((splitS 10 s).length ≠ 1)) then ([], 1)
    else if 1024 < l.length ∨ 65536 < l.length - 1 + sizeS l then ([], 10) else (joinGo a r, 0)
def putGo : List Fil → Fil → Bool → Option (List Fil)
  | [], f, d => some (if d then [] else [f])
  | x :: r, f, d =>
    if underS x.path f.path || underS f.path x.path then none
    else (putGo r f (d || !ltS x.path f.path)).map fun o => (if !d && !ltS x.path f.path then [f] else []) ++ (if x.path = f.path then [] else [x]) ++ o
def rputS (t : List Fil) (f : Fil) : List Fil × Int :=
  if treeS t ≠ 0 then ([], 1) else if !pathS f.path then ([], 2) else if 65536 < f.data.length then ([], 10)
  else match putGo t f false with
    | none => ([], 6)
    | some o => if 64 < o.length then ([], 10) else (o, 0)
def rreplS (t : List Fil) (x : Ln) (s : Bs) : List Fil × Int :=
  if treeS t ≠ 0 then ([], 1)
  else match findT t x.path with
    | none => ([], 7)
    | some d =>
      if (linesS d).2 ≠ 0 then ([], (linesS d).2)
      else if x.n < 0 ∨ ((linesS d).1.length : Int) ≤ x.n then ([], 3)
      else if (splitS 10 s).length ≠ 1 then ([], 1)
      else if (rjoinS ((linesS d).1.set x.n.toNat s)).2 ≠ 0 then ([], (rjoinS ((linesS d).1.set x.n.toNat s)).2)
      else rputS t ⟨x.path, (rjoinS ((linesS d).1.set x.n.toNat s)).1⟩
def jn : List Bs → Bs
  | [] => []
  | s :: r => 10 :: s ++ jn r
theorem joinGo_eq : ∀ (r : List Bs) (o : Bs), joinGo o r = o ++ jn r := by
  intro r
  induction r with
  | nil => intro o; simp [joinGo, jn]
  | cons s r ih => intro o; rw [joinGo, ih, jn]; simp
theorem split_one (c : UInt8) : ∀ (a : Bs), c ∉ a → splitS c a = [a] := by
  intro a
  induction a with
  | nil => intro _; rfl
  | cons x r ih =>
    intro h
    simp only [List.mem_cons, not_or] at h
    unfold splitS
    rw [if_neg (fun e => h.1 e.symm), ih h.2]
theorem split_app (c : UInt8) : ∀ (a b : Bs), c ∉ a → splitS c (a ++ c :: b) = a :: splitS c b := by
  intro a b
  induction a with
  | nil => intro _; show splitS c (c :: b) = _; rw [splitS, if_pos rfl]
  | cons x r ih =>
    intro h
    simp only [List.mem_cons, not_or] at h
    show splitS c (x :: (r ++ c :: b)) = _
    rw [splitS, if_neg (fun e => h.1 e.symm), ih h.2]
theorem split_jn : ∀ (r : List Bs) (a : Bs), 10 ∉ a → (∀ s ∈ r, 10 ∉ s) → splitS 10 (a ++ jn r) = a :: r := by
  intro r
  induction r with
  | nil => intro a h _; rw [jn, List.append_nil, split_one 10 a h]
  | cons s r ih =>
    intro a h h2
    have : a ++ jn (s :: r) = a ++ 10 :: (s ++ jn r) := by rw [jn]; simp
    rw [this, split_app 10 _ _ h, ih s (h2 s (by simp)) (fun y hy => h2 y (by simp [hy]))]
theorem len_jn : ∀ (r : List Bs), (jn r).length = r.length + sizeS r := by
  intro r
  induction r with
  | nil => rfl
  | cons s r ih => rw [jn, sizeS]; simp [ih]; omega
theorem one_no {c : UInt8} {s : Bs} (h : (splitS c s).length = 1) : c ∉ s := by
  rw [split_len] at h
  intro hm
  have := List.count_pos_iff.2 hm
  omega
theorem join_ok {l : List Bs} {s : Bs} (h : rjoinS l = (s, 0)) : linesS s = (l, 0) ∧ s.length ≤ 65536 := by
  unfold rjoinS at h
  cases l with
  | nil => simp only at h; injection h with _ h; cases h
  | cons a r =>
    simp only at h
    split at h
    · injection h with _ h; cases h
    · rename_i h1
      split at h
      · injection h with _ h; cases h
      · rename_i h2
        injection h with h _
        have hno : ∀ y ∈ a :: r, (10 : UInt8) ∉ y := by
          intro y hy
          refine one_no ?_
          rw [Bool.not_eq_true, List.any_eq_false] at h1
          have := h1 y hy
          simpa using this
        rw [joinGo_eq] at h
        have hsp : splitS 10 s = a :: r := by
          rw [← h]
          exact split_jn r a (hno a (by simp)) (fun y hy => hno y (by simp [hy]))
        have hlen : s.length ≤ 65536 := by
          rw [← h, List.length_append, len_jn]
          simp only [List.length_cons, sizeS] at h2
          omega
        have hc : s.count 10 < 1024 := by
          have := split_len 10 s
          rw [hsp] at this
          simp only [List.length_cons] at this h2
          omega
        refine ⟨?_, hlen⟩
        unfold linesS
        rw [if_neg (by omega), if_neg (by omega), hsp]
def lastBadP (b : List Fil) (f : Fil) : Bool := match b.getLast? with | some g => !ltS g.path f.path | none => false
theorem checkT_consP (b : List Fil) (f : Fil) (r : List Fil) : checkT b (f :: r) = if !pathS f.path then 2 else if 65536 < f.data.length then 10 else if lastBadP b f then 5 else if b.any (fun g => underS f.path g.path) then 6 else checkT (b ++ [f]) r := rfl
theorem check_srt : ∀ (t b : List Fil), checkT b t = 0 → (∀ g, b.getLast? = some g → ∀ f ∈ t, ltS g.path f.path = true) ∧ t.Pairwise (fun a b => ltS a.path b.path = true) := by
  intro t
  induction t with
  | nil =>
    intro b _
    refine ⟨?_, List.Pairwise.nil⟩
    intro _ _ f hf
    cases hf
  | cons f r ih =>
    intro b h
    rw [checkT_consP] at h
    split at h; cases h
    split at h; cases h
    split at h; cases h
    rename_i h3
    split at h; cases h
    obtain ⟨i1, i2⟩ := ih _ h
    have hf : ∀ y ∈ r, ltS f.path y.path = true := i1 f (by simp)
    refine ⟨fun g hg y hy => ?_, List.pairwise_cons.2 ⟨hf, i2⟩⟩
    have hgf : ltS g.path f.path = true := by
      unfold lastBadP at h3
      rw [hg] at h3
      simpa using h3
    rcases List.mem_cons.1 hy with rfl | hy
    · exact hgf
    · exact ltS_trans _ _ _ hgf (hf y hy)
theorem tree_srt {t : List Fil} (h : treeS t = 0) : t.Pairwise (fun a b => ltS a.path b.path = true) := by
  unfold treeS at h
  split at h; cases h
  exact (check_srt t [] h).2
def chg (f : Fil) (x : Fil) : Fil := if x.path = f.path then f else x
theorem chg_path (f x : Fil) : (chg f x).path = x.path := by unfold chg; split; · rename_i h; exact h.symm
                                                             · rfl
theorem putGo_done : ∀ (t : List Fil) (f : Fil) (o : List Fil), (∀ x ∈ t, ltS f.path x.path = true) → putGo t f true = some o → o = t := by
  intro t
  induction t with
  | nil => intro f o _ h; injection h with h; exact h.symm
  | cons x r ih =>
    intro f o hx h
    unfold putGo at h
    split at h; cases h
    rw [Option.map_eq_some_iff] at h
    obtain ⟨o', h1, h2⟩ := h
    have := ih f o' (fun y hy => hx y (by simp [hy])) h1
    have hne : ¬ x.path = f.path := fun e => by have := hx x (by simp); rw [e, ltS_irr] at this; cases this
    rw [← h2, this, if_neg hne]
    simp
theorem putGo_map : ∀ (t : List Fil) (f : Fil) (o : List Fil), t.Pairwise (fun a b => ltS a.path b.path = true) → (∃ x ∈ t, x.path = f.path) → putGo t f false = some o → o = t.map (chg f) := by
  intro t
  induction t with
  | nil => intro f o _ ⟨x, hx, _⟩ _; cases hx
  | cons x r ih =>
    intro f o hs hx h
    obtain ⟨hs1, hs2⟩ := List.pairwise_cons.1 hs
    unfold putGo at h
    split at h; cases h
    rw [Option.map_eq_some_iff] at h
    obtain ⟨o', h1, h2⟩ := h
    by_cases he : x.path = f.path
    · have hlt : ltS x.path f.path = false := by rw [he, ltS_irr]
      rw [hlt] at h1 h2
      have := putGo_done r f o' (fun y hy => by rw [← he]; exact hs1 y hy) h1
      have hm : r.map (chg f) = r := by
        have : r.map (chg f) = r.map id := by
          refine List.map_congr_left fun y hy => ?_
          have hne : ¬ y.path = f.path := fun e => by have := hs1 y hy; rw [he, e, ltS_irr] at this; cases this
          unfold chg
          rw [if_neg hne]
          rfl
        rw [this, List.map_id]
      rw [← h2, this, if_pos he, List.map_cons, hm]
      unfold chg
      rw [if_pos he]
      rfl
    · obtain ⟨y, hy, hye⟩ := hx
      have hyr : y ∈ r := by
        rcases List.mem_cons.1 hy with rfl | hy
        · exact absurd hye he
        · exact hy
      have hlt : ltS x.path f.path = true := by rw [← hye]; exact hs1 y hyr
      rw [hlt] at h1 h2
      have := ih f o' hs2 ⟨y, hyr, hye⟩ h1
      rw [← h2, this, if_neg he, List.map_cons]
      have : chg f x = x := by unfold chg; rw [if_neg he]
      rw [this]
      rfl
theorem find_chg (f : Fil) : ∀ (t : List Fil) (q : Bs), findT (t.map (chg f)) q = if q = f.path then (if t.any (fun x => x.path == q) then some f.data else none) else findT t q := by
  intro t q
  unfold findT
  induction t with
  | nil => simp
  | cons x r ih =>
    rw [List.map_cons, List.find?_cons, List.find?_cons, chg_path]
    cases hq : x.path == q with
    | true =>
      have e : x.path = q := by simpa using hq
      unfold chg
      by_cases h : q = f.path
      · rw [if_pos (e.trans h), if_pos h]
        simp [hq]
      · rw [if_neg (by rw [e]; exact h), if_neg h]
    | false =>
      simp only
      rw [ih]
      simp [hq]
theorem check_chg (f : Fil) (hf : f.data.length ≤ 65536) : ∀ (t b : List Fil), checkT b t = 0 → checkT (b.map (chg f)) (t.map (chg f)) = 0 := by
  intro t
  induction t with
  | nil => intro b _; rfl
  | cons x r ih =>
    intro b h
    rw [checkT_consP] at h
    split at h; cases h
    rename_i h1
    split at h; cases h
    rename_i h2
    split at h; cases h
    rename_i h3
    split at h; cases h
    rename_i h4
    rw [List.map_cons, checkT_consP, chg_path, if_neg h1]
    have hl : ¬ 65536 < (chg f x).data.length := by
      unfold chg
      split
      · omega
      · exact h2
    rw [if_neg hl]
    have e3 : lastBadP (b.map (chg f)) (chg f x) = lastBadP b x := by
      unfold lastBadP
      rw [List.getLast?_map]
      cases b.getLast? with
      | none => rfl
      | some g => simp only [Option.map_some, chg_path]
    have e4 : (b.map (chg f)).any (fun g => underS x.path g.path) = b.any (fun g => underS x.path g.path) := by
      rw [List.any_map]
      congr 1
      funext g
      simp only [Function.comp, chg_path]
    rw [e3, if_neg h3, e4, if_neg h4]
    have := ih (b ++ [x]) h
    rw [List.map_append] at this
    exact this
theorem repl_agr {t t' : List Fil} {x : Ln} {s : Bs} (h : rreplS t x s = (t', 0)) : treeS t' = treeS t ∧ TAgr x t t' := by
  unfold rreplS at h
  split at h
  · injection h with _ h; cases h
  · rename_i h0
    have ht0 : treeS t = 0 := by omega
    cases hf : findT t x.path with
    | none => rw [hf] at h; injection h with _ h; cases h
    | some d =>
      rw [hf] at h
      simp only at h
      split at h
      · rename_i h1; injection h with _ h; exact absurd h h1
      · rename_i h1
        split at h
        · injection h with _ h; cases h
        · rename_i h2
          split at h
          · injection h with _ h; cases h
          · split at h
            · rename_i h3; injection h with _ h; exact absurd h h3
            · rename_i h3
              have hl : linesS d = ((linesS d).1, 0) := by rw [← show (linesS d).2 = 0 by omega]
              generalize hL : (linesS d).1 = L at *
              cases hj : rjoinS (L.set x.n.toNat s) with
              | mk js je =>
              rw [hj] at h h3
              simp only at h h3
              have hje : je = 0 := by omega
              subst hje
              obtain ⟨j1, j2⟩ := join_ok hj
              unfold rputS at h
              rw [if_neg h0] at h
              split at h
              · injection h with _ h; cases h
              · split at h
                · injection h with _ h; cases h
                · cases hp : putGo t ⟨x.path, js⟩ false with
                  | none => rw [hp] at h; injection h with _ h; cases h
                  | some o =>
                    rw [hp] at h
                    simp only at h
                    split at h
                    · injection h with _ h; cases h
                    · injection h with h _
                      subst h
                      have hany : t.any (fun y => y.path == x.path) = true := by
                        unfold findT at hf
                        cases hx : t.find? (fun y => y.path == x.path) with
                        | none => rw [hx] at hf; cases hf
                        | some y => rw [List.any_eq_true]; exact ⟨y, List.mem_of_find?_eq_some hx, by have := List.find?_some hx; simpa using this⟩
                      have hex : ∃ y ∈ t, y.path = x.path := by
                        obtain ⟨y, hy, e⟩ := List.any_eq_true.1 hany
                        exact ⟨y, hy, by simpa using e⟩
                      have ho := putGo_map t ⟨x.path, js⟩ o (tree_srt ht0) hex hp
                      subst ho
                      refine ⟨?_, fun q => ?_⟩
                      · rw [ht0]
                        unfold treeS at ht0 ⊢
                        split at ht0; cases ht0
                        rename_i h9
                        rw [List.length_map, if_neg h9]
                        exact check_chg ⟨x.path, js⟩ j2 t [] ht0
                      · rw [find_chg]
                        by_cases hq : q = x.path
                        · subst hq
                          rw [if_pos rfl, hany, if_pos rfl, hf]
                          show (linesS d).2 = (linesS js).2 ∧ LAgr x x.path (linesS d).1 (linesS js).1
                          rw [j1, hl]
                          refine ⟨rfl, by simp, fun j hj => ?_⟩
                          have hne : x.n.toNat ≠ j := by
                            intro e
                            apply hj
                            have : x.n = (j : Int) := by omega
                            rw [← this]
                          rw [List.getD_eq_getElem?_getD, List.getD_eq_getElem?_getD, List.getElem?_set_ne hne]
                        · rw [if_neg hq]
                          cases findT t q with
                          | none => trivial
                          | some d' => exact ⟨rfl, rfl, fun _ _ => rfl⟩
end Go.Proofs.YtpeamehplhpcjaaGreatDoor
