/- Query (package licitlaw54): a part of the proofs of its laws; see the law's own text, which comes last in 'order'. No conditions of its own. -/
import Derived.Test.YtkjoaodoioicpaaGreatDoorWC02
set_option linter.unusedVariables false
set_option linter.unusedSimpArgs false
namespace Go.Proofs.YtkjoaodoioicpaaGreatDoor
def getV (m : KMap) (s : Bs) : Int := (getK m s).getD 0
def initA (m : KMap) : List Atm → KMap
  | [] => m
  | a :: r => initA (setK m a.name 0) r
def initR (m : KMap) : List Rul → KMap
  | [] => m
  | r :: t => initR (initA m (atomsS r)) t
def lvX (h : Bs) (m : KMap) (again : Bool) : List Ltl → Option (KMap × Bool)
  | [] => some (m, again)
  | x :: t =>
    if compsS x then lvX h m again t
    else
      let n := getV m x.atom.name + (if x.neg then 1 else 0)
      let c : KMap × Bool := if getV m h < n then (setK m h n, true) else (m, again)
      if n > c.1.length then none else lvX h c.1 c.2 t
def lvR (m : KMap) (again : Bool) : List Rul → Option (KMap × Bool)
  | [] => some (m, again)
  | r :: t => match lvX r.head.name m again r.body with
    | none => none
    | some (m', a') => lvR m' a' t
def lvGo (l : List Rul) : Nat → KMap → Option KMap
  | 0, _ => none
  | f + 1, m => match lvR m false l with
    | none => none
    | some (m', again) => if again then lvGo l f m' else some m'
def lvFuel (m : KMap) : Nat := m.length * (m.length + 1) + 2
def levelsS (l : List Rul) : Option KMap := lvGo l (lvFuel (initR [] l)) (initR [] l)
def checkS53 (l : List Rul) : Int × Int :=
  let c := check0S l
  if c.2 ≠ 0 then c else match levelsS l with | none => (-1, 12) | some _ => (-1, 0)
def ltB : Bs → Bs → Bool
  | [], [] => false
  | [], _ :: _ => true
  | _ :: _, [] => false
  | a :: r, b :: t => if a = b then ltB r t else decide (a.toNat < b.toNat)
def insB (s : Bs) : List Bs → List Bs
  | [] => [s]
  | a :: r => if ltB a s then a :: insB s r else if a == s then a :: r else s :: a :: r
def sortB : List Bs → List Bs
  | [] => []
  | a :: r => insB a (sortB r)
def strGo (m : KMap) : List (List Bs) → List Bs → List (List Bs)
  | out, [] => out
  | out, s :: r =>
    let k := (getV m s).toNat
    let o := out ++ List.replicate (k + 1 - out.length) []
    strGo m (o.set k (o.getD k [] ++ [s])) r
def strataS (l : List Rul) : List (List Bs) × Int × Int :=
  let c := checkS53 l
  if c.2 ≠ 0 then ([], c.1, c.2) else match levelsS l with
    | none => ([], -1, 0)
    | some m => (strGo m [] (sortB (m.map (·.1))), -1, 0)
def seenBad (seen : List Atm) (a : Atm) : Bool := seen.any fun b => b.name == a.name && b.args.length != a.args.length
def rarA (seen : List Atm) : List Atm → Option (List Atm)
  | [] => some seen
  | a :: r => if seenBad seen a then none else rarA (seen ++ [a]) r
def rarR (seen : List Atm) : List Rul → Int → Option Int
  | [], _ => none
  | r :: t, i => match rarA seen (atomsS r) with | none => some i | some s' => rarR s' t (i + 1)
def atS (s : Bs) : List Bs → Nat → Int
  | [], _ => -1
  | a :: r, i => if a == s then (i : Int) else atS s r (i + 1)
def insNames (names : List Bs) : List Rul → List Bs
  | [] => names
  | r :: t => insNames ((atomsS r).foldl (fun n a => insB a.name n) names) t
end Go.Proofs.YtkjoaodoioicpaaGreatDoor
namespace Go.Proofs.YtkjoaodoioicpaaGreatDoor
theorem getK_set (m : KMap) (s t : Bs) (v : Int) : getK (setK m s v) t = if s = t then some v else getK m t := by
  induction m with
  | nil =>
    unfold setK getK
    by_cases h : s = t
    · subst h; simp
    · simp [h]
  | cons p r ih =>
    unfold setK
    by_cases hp : (p.1 == s) = true
    · rw [if_pos hp]
      rw [beq_iff_eq] at hp
      by_cases h : s = t
      · subst h; simp [getK]
      · have h2 : ¬ (p.1 = t) := by rw [hp]; exact h
        rw [if_neg h]
        unfold getK
        simp [h, h2]
    · rw [if_neg hp]
      rw [beq_iff_eq] at hp
      by_cases h3 : p.1 = t
      · have h : ¬ (s = t) := fun e => hp (h3.trans e.symm)
        rw [if_neg h]
        unfold getK
        simp [h3]
      · have e1 : getK (p :: setK r s v) t = getK (setK r s v) t := by unfold getK; simp [h3]
        have e2 : getK (p :: r) t = getK r t := by unfold getK; simp [h3]
        rw [e1, e2, ih]
theorem getV_set (m : KMap) (s t : Bs) (v : Int) : getV (setK m s v) t = if s = t then v else getV m t := by
  unfold getV; rw [getK_set]; split <;> rfl
def keysK (m : KMap) : List Bs := m.map (·.1)
theorem keys_set (m : KMap) (s : Bs) (v : Int) : keysK (setK m s v) = if s ∈ keysK m then keysK m else keysK m ++ [s] := by
  induction m with
  | nil => rfl
  | cons p r ih =>
    unfold setK
    by_cases hp : (p.1 == s) = true
    · rw [if_pos hp]
      rw [beq_iff_eq] at hp
      rw [if_pos (by subst hp; exact List.mem_cons_self)]
      show s :: keysK r = p.1 :: keysK r
      rw [hp]
    · rw [if_neg hp]
      rw [beq_iff_eq] at hp
      show p.1 :: keysK (setK r s v) = if s ∈ p.1 :: keysK r then p.1 :: keysK r else (p.1 :: keysK r) ++ [s]
      rw [ih]
      by_cases h : s ∈ keysK r
      · rw [if_pos h, if_pos (List.mem_cons_of_mem _ h)]
      · rw [if_neg h, if_neg (fun x => (List.mem_cons.1 x).elim (fun e => hp e.symm) h)]
        rfl
theorem len_keys (m : KMap) : m.length = (keysK m).length := by unfold keysK; rw [List.length_map]
theorem getK_mem (m : KMap) (s : Bs) : (getK m s).isSome = true ↔ s ∈ keysK m := by
  induction m with
  | nil => simp [getK, keysK]
  | cons p r ih =>
    by_cases h : p.1 = s
    · simp [getK, keysK, h]
    · have e : getK (p :: r) s = getK r s := by unfold getK; simp [h]
      have e2 : s ∈ keysK (p :: r) ↔ s ∈ keysK r := by
        show s ∈ p.1 :: keysK r ↔ _
        rw [List.mem_cons]
        exact ⟨fun x => x.resolve_left (fun e => h e.symm), .inr⟩
      rw [e, e2, ih]
theorem set_len (m : KMap) (s : Bs) (v : Int) (h : s ∈ keysK m) : (setK m s v).length = m.length := by
  rw [len_keys, keys_set, if_pos h, ← len_keys]
theorem ltB_irr (a : Bs) : ltB a a = false := by
  induction a with
  | nil => rfl
  | cons x r ih => simp [ltB, ih]
theorem ltB_trans (a : Bs) : ∀ b c, ltB a b = true → ltB b c = true → ltB a c = true := by
  induction a with
  | nil =>
    intro b c h1 h2
    cases c with
    | nil => cases b <;> cases h2
    | cons z u => rfl
  | cons x r ih =>
    intro b c h1 h2
    cases b with
    | nil => cases h1
    | cons y t =>
      cases c with
      | nil => cases h2
      | cons z u =>
        simp only [ltB] at h1 h2 ⊢
        by_cases h3 : x = y
        · subst h3
          rw [if_pos rfl] at h1
          by_cases h4 : x = z
          · subst h4
            rw [if_pos rfl] at h2 ⊢
            exact ih t u h1 h2
          · rw [if_neg h4] at h2 ⊢
            exact h2
        · rw [if_neg h3] at h1
          simp only [decide_eq_true_eq] at h1
          by_cases h4 : y = z
          · subst h4
            rw [if_neg h3]
            simpa using h1
          · rw [if_neg h4] at h2
            simp only [decide_eq_true_eq] at h2
            have h5 : ¬ (x = z) := by rintro rfl; omega
            rw [if_neg h5]
            simp only [decide_eq_true_eq]
            omega
theorem ltB_tot (a : Bs) : ∀ b, ltB a b = true ∨ a = b ∨ ltB b a = true := by
  induction a with
  | nil => intro b; cases b with | nil => exact .inr (.inl rfl) | cons y t => exact .inl rfl
  | cons x r ih =>
    intro b
    cases b with
    | nil => exact .inr (.inr rfl)
    | cons y t =>
      simp only [ltB]
      by_cases h : x = y
      · subst h
        rw [if_pos rfl, if_pos rfl]
        rcases ih t with h | h | h
        · exact .inl h
        · exact .inr (.inl (by rw [h]))
        · exact .inr (.inr h)
      · rw [if_neg h, if_neg (Ne.symm h)]
        have : x.toNat ≠ y.toNat := fun e => h (UInt8.toNat_inj.1 e)
        simp only [decide_eq_true_eq]
        omega
abbrev SortB (l : List Bs) : Prop := l.Pairwise fun a b => ltB a b = true
theorem mem_insB (s t : Bs) (l : List Bs) : t ∈ insB s l ↔ t = s ∨ t ∈ l := by
  induction l with
  | nil => simp [insB]
  | cons a r ih =>
    unfold insB
    split
    · rw [List.mem_cons, ih, List.mem_cons]
      constructor
      · rintro (h | h | h)
        · exact .inr (.inl h)
        · exact .inl h
        · exact .inr (.inr h)
      · rintro (h | h | h)
        · exact .inr (.inl h)
        · exact .inl h
        · exact .inr (.inr h)
    · split
      · rename_i h
        rw [beq_iff_eq] at h
        subst h
        rw [List.mem_cons]
        constructor
        · exact .inr
        · rintro (h | h)
          · exact .inl h
          · exact h
      · rw [List.mem_cons]
theorem sort_insB (s : Bs) (l : List Bs) (h : SortB l) : SortB (insB s l) := by
  induction l with
  | nil => simp [insB, SortB]
  | cons a r ih =>
    have hp := List.pairwise_cons.1 h
    unfold insB
    split
    · rename_i h1
      refine List.pairwise_cons.2 ⟨fun b hb => ?_, ih hp.2⟩
      rcases (mem_insB s b r).1 hb with rfl | h2
      · exact h1
      · exact hp.1 b h2
    · rename_i h1
      split
      · exact h
      · rename_i h2
        rw [beq_iff_eq] at h2
        have h3 : ltB s a = true := by
          rcases ltB_tot a s with h4 | h4 | h4
          · exact absurd h4 h1
          · exact absurd h4 h2
          · exact h4
        refine List.pairwise_cons.2 ⟨fun b hb => ?_, h⟩
        rcases List.mem_cons.1 hb with rfl | h4
        · exact h3
        · exact ltB_trans _ _ _ h3 (hp.1 b h4)
theorem len_insB (s : Bs) (l : List Bs) (h : s ∉ l) : (insB s l).length = l.length + 1 := by
  induction l with
  | nil => rfl
  | cons a r ih =>
    rw [List.mem_cons, not_or] at h
    unfold insB
    split
    · simp [ih h.2]
    · rw [if_neg (by rw [beq_iff_eq]; exact fun e => h.1 e.symm)]
      rfl
theorem mem_sortB (l : List Bs) (t : Bs) : t ∈ sortB l ↔ t ∈ l := by
  induction l with
  | nil => simp [sortB]
  | cons a r ih => rw [sortB, mem_insB, ih, List.mem_cons]
theorem sort_sortB (l : List Bs) : SortB (sortB l) := by
  induction l with
  | nil => simp [sortB, SortB]
  | cons a r ih => exact sort_insB _ _ ih
theorem len_sortB (l : List Bs) (h : l.Nodup) : (sortB l).length = l.length := by
  induction l with
  | nil => rfl
  | cons a r ih =>
    have hp := List.nodup_cons.1 h
    rw [sortB, len_insB _ _ (fun x => hp.1 ((mem_sortB r a).1 x)), ih hp.2, List.length_cons]
theorem sort_unique (l : List Bs) : ∀ t, SortB l → SortB t → (∀ s, s ∈ l ↔ s ∈ t) → l = t := by
  induction l with
  | nil =>
    intro t _ _ h
    cases t with
    | nil => rfl
    | cons b u => exact absurd ((h b).2 List.mem_cons_self) (by simp)
  | cons a r ih =>
    intro t h1 h2 h
    cases t with
    | nil => exact absurd ((h a).1 List.mem_cons_self) (by simp)
    | cons b u =>
      have p1 := List.pairwise_cons.1 h1
      have p2 := List.pairwise_cons.1 h2
      have hab : a = b := by
        rcases List.mem_cons.1 ((h a).1 List.mem_cons_self) with e | e
        · exact e
        · rcases List.mem_cons.1 ((h b).2 List.mem_cons_self) with e2 | e2
          · exact e2.symm
          · have := ltB_trans _ _ _ (p1.1 b e2) (p2.1 a e)
            rw [ltB_irr] at this
            cases this
      subst hab
      congr 1
      refine ih u p1.2 p2.2 fun s => ?_
      constructor
      · intro hs
        rcases List.mem_cons.1 ((h s).1 (List.mem_cons_of_mem _ hs)) with rfl | e
        · have := p1.1 _ hs; rw [ltB_irr] at this; cases this
        · exact e
      · intro hs
        rcases List.mem_cons.1 ((h s).2 (List.mem_cons_of_mem _ hs)) with rfl | e
        · have := p2.1 _ hs; rw [ltB_irr] at this; cases this
        · exact e
def isName (l : List Rul) (s : Bs) : Prop := ∃ r ∈ l, ∃ a ∈ atomsS r, a.name = s
theorem fold_insB (aa : List Atm) : ∀ names, SortB names → SortB (aa.foldl (fun n a => insB a.name n) names) ∧ ∀ s, s ∈ aa.foldl (fun n a => insB a.name n) names ↔ s ∈ names ∨ ∃ a ∈ aa, a.name = s := by
  induction aa with
  | nil => intro names h; exact ⟨h, fun s => by simp⟩
  | cons a r ih =>
    intro names h
    have := ih (insB a.name names) (sort_insB _ _ h)
    rw [List.foldl_cons]
    refine ⟨this.1, fun s => ?_⟩
    rw [this.2, mem_insB]
    constructor
    · rintro ((h1 | h1) | ⟨b, hb, h1⟩)
      · exact .inr ⟨a, List.mem_cons_self, h1.symm⟩
      · exact .inl h1
      · exact .inr ⟨b, List.mem_cons_of_mem _ hb, h1⟩
    · rintro (h1 | ⟨b, hb, h1⟩)
      · exact .inl (.inr h1)
      · rcases List.mem_cons.1 hb with rfl | hb
        · exact .inl (.inl h1.symm)
        · exact .inr ⟨b, hb, h1⟩
theorem insNames_mem (l : List Rul) : ∀ names, SortB names → SortB (insNames names l) ∧ ∀ s, s ∈ insNames names l ↔ s ∈ names ∨ isName l s := by
  induction l with
  | nil => intro names h; exact ⟨h, fun s => by simp [insNames, isName]⟩
  | cons r t ih =>
    intro names h
    have h1 := fold_insB (atomsS r) names h
    have h2 := ih _ h1.1
    rw [insNames]
    refine ⟨h2.1, fun s => ?_⟩
    rw [h2.2, h1.2]
    unfold isName
    constructor
    · rintro ((h | ⟨a, ha, h⟩) | ⟨r', hr, a, ha, h⟩)
      · exact .inl h
      · exact .inr ⟨r, List.mem_cons_self, a, ha, h⟩
      · exact .inr ⟨r', List.mem_cons_of_mem _ hr, a, ha, h⟩
    · rintro (h | ⟨r', hr, a, ha, h⟩)
      · exact .inl (.inl h)
      · rcases List.mem_cons.1 hr with rfl | hr
        · exact .inl (.inr ⟨a, ha, h⟩)
        · exact .inr ⟨r', hr, a, ha, h⟩
theorem initA_law (aa : List Atm) : ∀ m : KMap, (keysK m).Nodup → (∀ s, s ∈ keysK m → getV m s = 0) →
    (keysK (initA m aa)).Nodup ∧ (∀ s, s ∈ keysK (initA m aa) → getV (initA m aa) s = 0) ∧ ∀ s, s ∈ keysK (initA m aa) ↔ s ∈ keysK m ∨ ∃ a ∈ aa, a.name = s := by
  induction aa with
  | nil => intro m h1 h2; exact ⟨h1, h2, fun s => by simp [initA]⟩
  | cons a r ih =>
    intro m h1 h2
    have hk := keys_set m a.name 0
    have hn : (keysK (setK m a.name 0)).Nodup := by
      rw [hk]
      split
      · exact h1
      · rename_i h
        refine List.nodup_append.2 ⟨h1, by simp, ?_⟩
        intro x hx y hy e
        rw [List.mem_singleton.1 hy] at e
        exact h (e ▸ hx)
    have hz : ∀ s, s ∈ keysK (setK m a.name 0) → getV (setK m a.name 0) s = 0 := by
      intro s hs
      rw [getV_set]
      split
      · rfl
      · rename_i h
        refine h2 s ?_
        rw [hk] at hs
        split at hs
        · exact hs
        · rcases List.mem_append.1 hs with h3 | h3
          · exact h3
          · exact absurd (List.mem_singleton.1 h3).symm h
    have := ih _ hn hz
    rw [initA]
    refine ⟨this.1, this.2.1, fun s => ?_⟩
    rw [this.2.2, hk]
    have e : s ∈ (if a.name ∈ keysK m then keysK m else keysK m ++ [a.name]) ↔ s ∈ keysK m ∨ s = a.name := by
      split
      · rename_i h
        exact ⟨.inl, fun x => x.elim id (fun e => e ▸ h)⟩
      · simp
    rw [e]
    constructor
    · rintro ((h | h) | ⟨b, hb, h⟩)
      · exact .inl h
      · exact .inr ⟨a, List.mem_cons_self, h.symm⟩
      · exact .inr ⟨b, List.mem_cons_of_mem _ hb, h⟩
    · rintro (h | ⟨b, hb, h⟩)
      · exact .inl (.inl h)
      · rcases List.mem_cons.1 hb with rfl | hb
        · exact .inl (.inr h.symm)
        · exact .inr ⟨b, hb, h⟩
theorem initR_law (l : List Rul) : ∀ m : KMap, (keysK m).Nodup → (∀ s, s ∈ keysK m → getV m s = 0) →
    (keysK (initR m l)).Nodup ∧ (∀ s, s ∈ keysK (initR m l) → getV (initR m l) s = 0) ∧ ∀ s, s ∈ keysK (initR m l) ↔ s ∈ keysK m ∨ isName l s := by
  induction l with
  | nil => intro m h1 h2; exact ⟨h1, h2, fun s => by simp [initR, isName]⟩
  | cons r t ih =>
    intro m h1 h2
    have h3 := initA_law (atomsS r) m h1 h2
    have h4 := ih _ h3.1 h3.2.1
    rw [initR]
    refine ⟨h4.1, h4.2.1, fun s => ?_⟩
    rw [h4.2.2, h3.2.2]
    unfold isName
    constructor
    · rintro ((h | ⟨a, ha, h⟩) | ⟨r', hr, a, ha, h⟩)
      · exact .inl h
      · exact .inr ⟨r, List.mem_cons_self, a, ha, h⟩
      · exact .inr ⟨r', List.mem_cons_of_mem _ hr, a, ha, h⟩
    · rintro (h | ⟨r', hr, a, ha, h⟩)
      · exact .inl (.inl h)
      · rcases List.mem_cons.1 hr with rfl | hr
        · exact .inl (.inr ⟨a, ha, h⟩)
        · exact .inr ⟨r', hr, a, ha, h⟩
theorem init_keys (l : List Rul) : (keysK (initR [] l)).Nodup ∧ (∀ s, s ∈ keysK (initR [] l) → getV (initR [] l) s = 0) ∧ ∀ s, s ∈ keysK (initR [] l) ↔ isName l s := by
  have := initR_law l [] (by simp [keysK]) (fun s hs => by simp [keysK] at hs)
  refine ⟨this.1, this.2.1, fun s => ?_⟩
  rw [this.2.2]
  simp [keysK]
theorem names_eq (l : List Rul) : insNames [] l = sortB (keysK (initR [] l)) := by
  have h1 := insNames_mem l [] (by simp [SortB])
  have h2 := init_keys l
  refine sort_unique _ _ h1.1 (sort_sortB _) fun s => ?_
  rw [h1.2, mem_sortB, h2.2.2]
  simp
structure Sim (names : List Bs) (m : KMap) (lv : List Int) : Prop where
  nd : names.Nodup
  keys : (keysK m).Nodup
  mem : ∀ s, s ∈ keysK m ↔ s ∈ names
  len : m.length = names.length
  ln : lv.length = names.length
  val : ∀ i (h : i < names.length), getV m names[i] = lv.getD i 0
theorem atS_law (s : Bs) (names : List Bs) : ∀ k, s ∈ names → ∃ i, ∃ h : i < names.length, names[i] = s ∧ atS s names k = (k + i : Nat) := by
  induction names with
  | nil => intro k h; cases h
  | cons a r ih =>
    intro k h
    unfold atS
    by_cases ha : (a == s) = true
    · rw [if_pos ha]
      rw [beq_iff_eq] at ha
      exact ⟨0, by simp, ha, rfl⟩
    · rw [if_neg ha]
      rw [beq_iff_eq] at ha
      obtain ⟨i, hi, h1, h2⟩ := ih (k + 1) ((List.mem_cons.1 h).resolve_left (fun e => ha e.symm))
      exact ⟨i + 1, by simp; omega, by simpa using h1, by rw [h2]; congr 1; omega⟩
theorem Sim.at_ {names : List Bs} {m : KMap} {lv : List Int} (h : Sim names m lv) {s : Bs} (hs : s ∈ names) :
    getV m s = lv.getD (atS s names 0).toNat 0 ∧ (atS s names 0).toNat < names.length := by
  obtain ⟨i, hi, h1, h2⟩ := atS_law s names 0 hs
  rw [h2]
  have : (((0 + i : Nat) : Int)).toNat = i := by omega
  rw [this]
  exact ⟨by rw [← h.val i hi, h1], hi⟩
def Meets (l : List Rul) (f : Bs → Int) : Prop := ∀ r ∈ l, ∀ x ∈ r.body, compsS x = false → f x.atom.name + (if x.neg then 1 else 0) ≤ f r.head.name
theorem lvX_mono (h : Bs) (f : Bs → Int) (body : List Ltl) (hb : ∀ x ∈ body, compsS x = false → f x.atom.name + (if x.neg then 1 else 0) ≤ f h) : ∀ (m : KMap) (c : Bool) (m' : KMap) (c' : Bool),
    (∀ s, getV m s ≤ f s) → lvX h m c body = some (m', c') → ∀ s, getV m' s ≤ f s := by
  induction body with
  | nil => intro m c m' c' hm he; injection he with he; injection he with h1 h2; subst h1; exact hm
  | cons x t ih =>
    intro m c m' c' hm he
    have hb' := fun y hy => hb y (List.mem_cons_of_mem _ hy)
    rw [lvX] at he
    by_cases hx : compsS x = true
    · rw [if_pos hx] at he
      exact ih hb' m c m' c' hm he
    · rw [if_neg hx] at he
      rw [Bool.not_eq_true] at hx
      have hxx := hb x List.mem_cons_self hx
      have hmx := hm x.atom.name
      have hn : getV m x.atom.name + (if x.neg = true then 1 else 0) ≤ f h := by omega
      clear hxx
      simp only at he
      generalize getV m x.atom.name + (if x.neg = true then 1 else 0) = n at *
      by_cases hlt : getV m h < n
      · simp only [if_pos hlt] at he
        by_cases hle : n > ((setK m h n).length : Int)
        · rw [if_pos hle] at he; cases he
        · rw [if_neg hle] at he
          refine ih hb' _ _ m' c' (fun s => ?_) he
          rw [getV_set]
          split
          · rename_i e
            subst e
            exact hn
          · exact hm s
      · simp only [if_neg hlt] at he
        by_cases hle : n > (m.length : Int)
        · rw [if_pos hle] at he; cases he
        · rw [if_neg hle] at he
          exact ih hb' _ _ m' c' hm he
theorem lvR_mono (f : Bs → Int) (l : List Rul) (hf : Meets l f) : ∀ (m : KMap) (c : Bool) (m' : KMap) (c' : Bool), (∀ s, getV m s ≤ f s) → lvR m c l = some (m', c') → ∀ s, getV m' s ≤ f s := by
  induction l with
  | nil => intro m c m' c' hm he; injection he with he; injection he with h1 h2; subst h1; exact hm
  | cons r t ih =>
    intro m c m' c' hm he
    rw [lvR] at he
    cases h : lvX r.head.name m c r.body with
    | none => rw [h] at he; cases he
    | some p =>
      obtain ⟨m1, c1⟩ := p
      rw [h] at he
      exact ih (fun y hy => hf y (List.mem_cons_of_mem _ hy)) m1 c1 m' c' (lvX_mono _ f r.body (hf r List.mem_cons_self) m c m1 c1 hm h) he
theorem lvGo_mono (f : Bs → Int) (l : List Rul) (hf : Meets l f) (k : Nat) : ∀ (m m' : KMap), (∀ s, getV m s ≤ f s) → lvGo l k m = some m' → ∀ s, getV m' s ≤ f s := by
  induction k with
  | zero => intro m m' _ he; cases he
  | succ k ih =>
    intro m m' hm he
    rw [lvGo] at he
    cases h : lvR m false l with
    | none => rw [h] at he; cases he
    | some p =>
      obtain ⟨m1, c1⟩ := p
      rw [h] at he
      have h1 := lvR_mono f l hf m false m1 c1 hm h
      cases c1
      · injection he with he; subst he; exact h1
      · exact ih m1 m' h1 he
theorem lvX_same (h : Bs) (body : List Ltl) : ∀ (m : KMap) (c : Bool) (m' : KMap) (c' : Bool), lvX h m c body = some (m', c') →
    (c = true → c' = true) ∧ (c' = false → m' = m ∧ ∀ x ∈ body, compsS x = false → getV m x.atom.name + (if x.neg then 1 else 0) ≤ getV m h ∧ getV m x.atom.name + (if x.neg then 1 else 0) ≤ m.length) := by
  induction body with
  | nil => intro m c m' c' he; injection he with he; injection he with h1 h2; subst h1 h2; exact ⟨id, fun _ => ⟨rfl, fun x hx => nomatch hx⟩⟩
  | cons x t ih =>
    intro m c m' c' he
    rw [lvX] at he
    by_cases hx : compsS x = true
    · rw [if_pos hx] at he
      have := ih m c m' c' he
      refine ⟨this.1, fun hc => ⟨(this.2 hc).1, fun y hy hcy => ?_⟩⟩
      rcases List.mem_cons.1 hy with rfl | hy
      · rw [hx] at hcy; cases hcy
      · exact (this.2 hc).2 y hy hcy
    · rw [if_neg hx] at he
      simp only at he
      obtain ⟨n, hn⟩ : ∃ n, n = getV m x.atom.name + (if x.neg = true then 1 else 0) := ⟨_, rfl⟩
      rw [← hn] at he
      by_cases hlt : getV m h < n
      · simp only [if_pos hlt] at he
        by_cases hle : n > ((setK m h n).length : Int)
        · rw [if_pos hle] at he; cases he
        · rw [if_neg hle] at he
          have := ih _ _ m' c' he
          exact ⟨fun _ => this.1 rfl, fun hc => by have := this.1 rfl; rw [hc] at this; cases this⟩
      · simp only [if_neg hlt] at he
        by_cases hle : n > (m.length : Int)
        · rw [if_pos hle] at he; cases he
        · rw [if_neg hle] at he
          have := ih _ _ m' c' he
          refine ⟨this.1, fun hc => ⟨(this.2 hc).1, fun y hy hcy => ?_⟩⟩
          rcases List.mem_cons.1 hy with rfl | hy
          · rw [← hn]; exact ⟨by omega, by omega⟩
          · exact (this.2 hc).2 y hy hcy
theorem lvR_same (l : List Rul) : ∀ (m : KMap) (c : Bool) (m' : KMap) (c' : Bool), lvR m c l = some (m', c') → (c = true → c' = true) ∧ (c' = false → m' = m ∧ Meets l (getV m)) := by
  induction l with
  | nil => intro m c m' c' he; injection he with he; injection he with h1 h2; subst h1 h2; exact ⟨id, fun _ => ⟨rfl, fun x hx => nomatch hx⟩⟩
  | cons r t ih =>
    intro m c m' c' he
    rw [lvR] at he
    cases h : lvX r.head.name m c r.body with
    | none => rw [h] at he; cases he
    | some p =>
      obtain ⟨m1, c1⟩ := p
      rw [h] at he
      have h1 := lvX_same _ _ _ _ _ _ h
      have h2 := ih _ _ _ _ he
      refine ⟨fun hc => h2.1 (h1.1 hc), fun hc => ?_⟩
      cases hc1 : c1
      · have h3 := h1.2 hc1
        have h4 := h2.2 hc
        rw [h3.1] at h4
        refine ⟨h4.1, fun y hy x hx hcx => ?_⟩
        rcases List.mem_cons.1 hy with rfl | hy
        · exact (h3.2 x hx hcx).1
        · exact h4.2 y hy x hx hcx
      · have := h2.1 hc1; rw [hc] at this; cases this
theorem lvGo_meets (l : List Rul) (k : Nat) : ∀ (m m' : KMap), lvGo l k m = some m' → Meets l (getV m') := by
  induction k with
  | zero => intro m m' he; cases he
  | succ k ih =>
    intro m m' he
    rw [lvGo] at he
    cases h : lvR m false l with
    | none => rw [h] at he; cases he
    | some p =>
      obtain ⟨m1, c1⟩ := p
      rw [h] at he
      cases c1
      · injection he with he
        subst he
        have := (lvR_same l m false m1 false h).2 rfl
        rw [this.1]
        exact this.2
      · exact ih m1 m' he
def sumK (m : KMap) : Int := m.foldr (fun p s => p.2 + s) 0
def In (m : KMap) (n : Nat) : Prop := ∀ p ∈ m, 0 ≤ p.2 ∧ p.2 ≤ n
theorem sum_set (m : KMap) (h : Bs) (n : Int) (hn : (keysK m).Nodup) (hm : h ∈ keysK m) : sumK (setK m h n) = sumK m + (n - getV m h) := by
  induction m with
  | nil => cases hm
  | cons p r ih =>
    have hnd := List.nodup_cons.1 (show (p.1 :: keysK r).Nodup from hn)
    unfold setK
    by_cases hp : (p.1 == h) = true
    · rw [if_pos hp]
      rw [beq_iff_eq] at hp
      have e : getV (p :: r) h = p.2 := by unfold getV getK; simp [hp]
      rw [e]
      show n + sumK r = p.2 + sumK r + (n - p.2)
      omega
    · rw [if_neg hp]
      rw [beq_iff_eq] at hp
      have e : getV (p :: r) h = getV r h := by unfold getV getK; simp [hp]
      have hm' : h ∈ keysK r := (List.mem_cons.1 (show h ∈ p.1 :: keysK r from hm)).resolve_left (fun e => hp e.symm)
      have := ih hnd.2 hm'
      rw [e]
      show p.2 + sumK (setK r h n) = p.2 + sumK r + (n - getV r h)
      omega
theorem In.set {m : KMap} {n : Nat} (h : In m n) (s : Bs) (v : Int) (h0 : 0 ≤ v) (h1 : v ≤ n) : In (setK m s v) n := by
  induction m with
  | nil => intro p hp; rw [setK, List.mem_singleton] at hp; subst hp; exact ⟨h0, h1⟩
  | cons q r ih =>
    have hr : In r n := fun p hp => h p (List.mem_cons_of_mem _ hp)
    unfold setK
    split
    · intro p hp
      rcases List.mem_cons.1 hp with rfl | hp
      · exact ⟨h0, h1⟩
      · exact hr p hp
    · intro p hp
      rcases List.mem_cons.1 hp with rfl | hp
      · exact h _ List.mem_cons_self
      · exact ih hr p hp
theorem In.sum {m : KMap} {n : Nat} (h : In m n) : 0 ≤ sumK m ∧ sumK m ≤ m.length * n := by
  induction m with
  | nil => simp [sumK]
  | cons p r ih =>
    have hp := h p List.mem_cons_self
    have := ih (fun q hq => h q (List.mem_cons_of_mem _ hq))
    have e : sumK (p :: r) = p.2 + sumK r := rfl
    rw [e, List.length_cons]
    have e2 : ((r.length + 1 : Nat) : Int) * n = r.length * n + n := by rw [Int.natCast_add, Int.add_mul]; simp
    rw [e2]
    omega
theorem In.get {m : KMap} {n : Nat} (h : In m n) (s : Bs) : 0 ≤ getV m s ∧ getV m s ≤ n := by
  unfold getV getK
  cases hf : m.find? (fun p => p.1 == s) with
  | none => simp
  | some p => exact h p (List.mem_of_find?_eq_some hf)
theorem lvX_in {h : Bs} (body : List Ltl) : ∀ (m : KMap) (c : Bool) (m' : KMap) (c' : Bool), (keysK m).Nodup → h ∈ keysK m → In m m.length → lvX h m c body = some (m', c') →
    keysK m' = keysK m ∧ In m' m'.length ∧ sumK m ≤ sumK m' ∧ (c = false → c' = true → sumK m < sumK m') := by
  induction body with
  | nil => intro m c m' c' _ _ hin he; injection he with he; injection he with h1 h2; subst h1 h2; exact ⟨rfl, hin, Int.le_refl _, fun h1 h2 => by rw [h1] at h2; cases h2⟩
  | cons x t ih =>
    intro m c m' c' hnd hh hin he
    rw [lvX] at he
    by_cases hx : compsS x = true
    · rw [if_pos hx] at he
      exact ih m c m' c' hnd hh hin he
    · rw [if_neg hx] at he
      simp only at he
      have hg := (hin.get x.atom.name).1
      have hn0 : 0 ≤ getV m x.atom.name + (if x.neg = true then 1 else 0) := by split <;> omega
      generalize getV m x.atom.name + (if x.neg = true then 1 else 0) = n at *
      by_cases hlt : getV m h < n
      · simp only [if_pos hlt] at he
        by_cases hle : n > ((setK m h n).length : Int)
        · rw [if_pos hle] at he; cases he
        · rw [if_neg hle] at he
          have hk : keysK (setK m h n) = keysK m := by rw [keys_set, if_pos hh]
          have hl : (setK m h n).length = m.length := set_len _ _ _ hh
          have := ih _ _ m' c' (by rw [hk]; exact hnd) (by rw [hk]; exact hh) (by rw [hl]; exact hin.set h n hn0 (by omega)) he
          have hs := sum_set m h n hnd hh
          rw [hk] at this
          exact ⟨this.1, this.2.1, by omega, fun _ _ => by omega⟩
      · simp only [if_neg hlt] at he
        by_cases hle : n > (m.length : Int)
        · rw [if_pos hle] at he; cases he
        · rw [if_neg hle] at he
          exact ih m c m' c' hnd hh hin he
theorem lvR_in (l : List Rul) : ∀ (m : KMap) (c : Bool) (m' : KMap) (c' : Bool), (keysK m).Nodup → (∀ r ∈ l, r.head.name ∈ keysK m) → In m m.length → lvR m c l = some (m', c') →
    keysK m' = keysK m ∧ In m' m'.length ∧ sumK m ≤ sumK m' ∧ (c = false → c' = true → sumK m < sumK m') := by
  induction l with
  | nil => intro m c m' c' _ _ hin he; injection he with he; injection he with h1 h2; subst h1 h2; exact ⟨rfl, hin, Int.le_refl _, fun h1 h2 => by rw [h1] at h2; cases h2⟩
  | cons r t ih =>
    intro m c m' c' hnd hh hin he
    rw [lvR] at he
    cases h : lvX r.head.name m c r.body with
    | none => rw [h] at he; cases he
    | some p =>
      obtain ⟨m1, c1⟩ := p
      rw [h] at he
      have h1 := lvX_in r.body m c m1 c1 hnd (hh r List.mem_cons_self) hin h
      have h2 := ih m1 c1 m' c' (by rw [h1.1]; exact hnd) (fun y hy => by rw [h1.1]; exact hh y (List.mem_cons_of_mem _ hy)) h1.2.1 he
      rw [h1.1] at h2
      refine ⟨h2.1, h2.2.1, by omega, fun hc hc' => ?_⟩
      cases hc1 : c1
      · have := h2.2.2.2 hc1 hc'; omega
      · have := h1.2.2.2 hc hc1; omega
theorem lvGo_in (l : List Rul) (k : Nat) : ∀ (m m' : KMap), (keysK m).Nodup → (∀ r ∈ l, r.head.name ∈ keysK m) → In m m.length → lvGo l k m = some m' → keysK m' = keysK m ∧ In m' m'.length := by
  induction k with
  | zero => intro m m' _ _ _ he; cases he
  | succ k ih =>
    intro m m' hnd hh hin he
    rw [lvGo] at he
    cases h : lvR m false l with
    | none => rw [h] at he; cases he
    | some p =>
      obtain ⟨m1, c1⟩ := p
      rw [h] at he
      have h1 := lvR_in l m false m1 c1 hnd hh hin h
      cases c1
      · injection he with he; subst he; exact ⟨h1.1, h1.2.1⟩
      · have := ih m1 m' (by rw [h1.1]; exact hnd) (by rw [h1.1]; exact hh) h1.2.1 he
        rw [h1.1] at this
        exact this
theorem init_in (l : List Rul) : In (initR [] l) (initR [] l).length := by
  have h := init_keys l
  intro p hp
  have hk : p.1 ∈ keysK (initR [] l) := List.mem_map.2 ⟨p, hp, rfl⟩
  have hz := h.2.1 _ hk
  have hnd := h.1
  generalize initR [] l = m at *
  have : getV m p.1 = p.2 := by
    clear hz hk h
    induction m with
    | nil => cases hp
    | cons q r ih =>
      have hnd' := List.nodup_cons.1 (show (q.1 :: keysK r).Nodup from hnd)
      rcases List.mem_cons.1 hp with rfl | hp
      · unfold getV getK; simp
      · have hne : ¬ (q.1 = p.1) := fun e => hnd'.1 (by rw [e]; exact List.mem_map.2 ⟨p, hp, rfl⟩)
        have e : getV (q :: r) p.1 = getV r p.1 := by unfold getV getK; simp [hne]
        rw [e]
        exact ih hp hnd'.2
  rw [this] at hz
  rw [hz]
  exact ⟨Int.le_refl _, by omega⟩
theorem heads_in (l : List Rul) : ∀ r ∈ l, r.head.name ∈ keysK (initR [] l) := fun r hr => ((init_keys l).2.2 _).2 ⟨r, hr, r.head, List.mem_cons_self, rfl⟩
theorem levels_law (l : List Rul) (m : KMap) (h : levelsS l = some m) :
    keysK m = keysK (initR [] l) ∧ (∀ s, 0 ≤ getV m s ∧ getV m s ≤ m.length) ∧ Meets l (getV m) ∧ ∀ n, 0 < n → (∃ s ∈ keysK m, getV m s = n) → ∃ s ∈ keysK m, getV m s = n - 1 := by
  have h1 := lvGo_in l _ _ _ (init_keys l).1 (heads_in l) (init_in l) h
  have h2 := lvGo_meets l _ _ _ h
  refine ⟨h1.1, h1.2.get, h2, fun n hn ⟨s, hs, hsn⟩ => ?_⟩
  refine Classical.byContradiction fun hno => ?_
  have hno : ∀ s ∈ keysK m, getV m s ≠ n - 1 := fun s hs e => hno ⟨s, hs, e⟩
  have hf : Meets l (fun s => if n ≤ getV m s then getV m s - 1 else getV m s) := by
    intro r hr x hx hc
    have := h2 r hr x hx hc
    have hxm : x.atom.name ∈ keysK m := by
      rw [h1.1]
      refine ((init_keys l).2.2 _).2 ⟨r, hr, x.atom, List.mem_cons_of_mem _ (List.mem_map.2 ⟨x, List.mem_filter.2 ⟨hx, by rw [hc]; rfl⟩, rfl⟩), rfl⟩
    have hne := hno _ hxm
    simp only
    split <;> split <;> split at this <;> (try split) <;> omega
  have h3 := lvGo_mono _ l hf _ _ m (fun s => by
    have : getV (initR [] l) s = 0 := by
      by_cases hk : s ∈ keysK (initR [] l)
      · exact (init_keys l).2.1 s hk
      · unfold getV
        cases hg : getK (initR [] l) s with
        | none => rfl
        | some v => exact absurd ((getK_mem _ _).1 (by rw [hg]; rfl)) hk
    rw [this]
    have := (h1.2.get s).1
    split <;> omega) h s
  rw [if_pos (by omega)] at h3
  omega
end Go.Proofs.YtkjoaodoioicpaaGreatDoor
namespace Go.Proofs.YtkjoaodoioicpaaGreatDoor
def hasV (l : List Arg) (s : Bs) : Prop := ∃ a ∈ l, a.kind = 1 ∧ a.text = s
theorem mem_addV (l : List Arg) (s : Bs) : ∀ out, s ∈ addV out l ↔ s ∈ out ∨ hasV l s := by
  induction l with
  | nil => intro out; simp [addV, hasV]
  | cons a r ih =>
    intro out
    rw [addV, ih]
    have e : hasV (a :: r) s ↔ (a.kind = 1 ∧ a.text = s) ∨ hasV r s := by
      unfold hasV
      constructor
      · rintro ⟨b, hb, h⟩
        rcases List.mem_cons.1 hb with rfl | hb
        · exact .inl h
        · exact .inr ⟨b, hb, h⟩
      · rintro (h | ⟨b, hb, h⟩)
        · exact ⟨a, List.mem_cons_self, h⟩
        · exact ⟨b, List.mem_cons_of_mem _ hb, h⟩
    rw [e]
    split
    · rename_i h
      rw [List.mem_append, List.mem_singleton]
      constructor
      · rintro ((h1 | h1) | h1)
        · exact .inl h1
        · exact .inr (.inl ⟨h.1, h1.symm⟩)
        · exact .inr (.inr h1)
      · rintro (h1 | h1 | h1)
        · exact .inl (.inl h1)
        · exact .inl (.inr h1.2.symm)
        · exact .inr h1
    · rename_i h
      constructor
      · rintro (h1 | h1)
        · exact .inl h1
        · exact .inr (.inr h1)
      · rintro (h1 | h1 | h1)
        · exact .inl h1
        · have : out.contains a.text = true := by
            cases hc : out.contains a.text
            · exact absurd ⟨h1.1, hc⟩ h
            · rfl
          exact .inl (by rw [← h1.2]; exact List.contains_iff_mem.1 this)
        · exact .inr h1
theorem mem_addB (l : List Ltl) (s : Bs) : ∀ out, s ∈ addB out l ↔ s ∈ out ∨ ∃ x ∈ l, hasV x.atom.args s := by
  induction l with
  | nil => intro out; simp [addB]
  | cons a r ih =>
    intro out
    rw [addB, ih, mem_addV]
    constructor
    · rintro ((h | h) | ⟨x, hx, h⟩)
      · exact .inl h
      · exact .inr ⟨a, List.mem_cons_self, h⟩
      · exact .inr ⟨x, List.mem_cons_of_mem _ hx, h⟩
    · rintro (h | ⟨x, hx, h⟩)
      · exact .inl (.inl h)
      · rcases List.mem_cons.1 hx with rfl | hx
        · exact .inl (.inr h)
        · exact .inr ⟨x, hx, h⟩
def Inv (m : KMap) (seen : List Atm) : Prop := (∀ b ∈ seen, getK m b.name = some (b.args.length : Int)) ∧ ∀ s v, getK m s = some v → ∃ b ∈ seen, b.name = s
theorem Inv.bad {m : KMap} {seen : List Atm} (h : Inv m seen) (a : Atm) : seenBad seen a = (match getK m a.name with | some n => decide (n ≠ a.args.length) | none => false) := by
  unfold seenBad
  cases hg : getK m a.name with
  | none =>
    simp only [List.any_eq_false, Bool.and_eq_true, beq_iff_eq]
    rintro b hb ⟨h1, _⟩
    have := h.1 b hb
    rw [h1, hg] at this
    cases this
  | some n =>
    obtain ⟨b, hb, h1⟩ := h.2 _ _ hg
    have hbn := h.1 b hb
    rw [h1, hg] at hbn
    injection hbn with hbn
    rw [Bool.eq_iff_iff, List.any_eq_true]
    simp only [Bool.and_eq_true, beq_iff_eq, bne_iff_ne, decide_eq_true_eq]
    constructor
    · rintro ⟨c, hc, h2, h3⟩
      have := h.1 c hc
      rw [h2, hg] at this
      injection this with this
      omega
    · intro h3
      exact ⟨b, hb, h1, by omega⟩
theorem Inv.add {m : KMap} {seen : List Atm} (h : Inv m seen) (a : Atm) (hb : seenBad seen a = false) : Inv (setK m a.name a.args.length) (seen ++ [a]) := by
  constructor
  · intro b hm
    rw [getK_set]
    split
    · rename_i e
      rcases List.mem_append.1 hm with h1 | h1
      · unfold seenBad at hb
        rw [List.any_eq_false] at hb
        have := hb b h1
        simp only [Bool.and_eq_true, beq_iff_eq, bne_iff_ne, not_and, Classical.not_not] at this
        rw [this e.symm]
      · rw [List.mem_singleton.1 h1]
    · rename_i e
      rcases List.mem_append.1 hm with h1 | h1
      · exact h.1 b h1
      · exact absurd (by rw [List.mem_singleton.1 h1]) e
  · intro s v hs
    rw [getK_set] at hs
    split at hs
    · rename_i e
      exact ⟨a, by simp, e⟩
    · obtain ⟨b, hb, h1⟩ := h.2 s v hs
      exact ⟨b, List.mem_append_left _ hb, h1⟩
theorem ar_atoms (aa : List Atm) : ∀ (m : KMap) (seen : List Atm), Inv m seen → (arGo m aa = none ∧ rarA seen aa = none) ∨ ∃ m' s', arGo m aa = some m' ∧ rarA seen aa = some s' ∧ Inv m' s' := by
  induction aa with
  | nil => intro m seen h; exact .inr ⟨m, seen, rfl, rfl, h⟩
  | cons a r ih =>
    intro m seen h
    have hb := h.bad a
    rw [arGo, rarA]
    cases hc : seenBad seen a
    · have h2 := ih _ _ (h.add a hc)
      rw [hc] at hb
      rw [if_neg (by simp)]
      cases hg : getK m a.name with
      | none => exact h2
      | some n =>
        rw [hg] at hb
        have hb := hb.symm
        rw [decide_eq_false_iff_not] at hb
        simp only
        rw [if_neg hb]
        exact h2
    · rw [hc] at hb
      rw [if_pos rfl]
      cases hg : getK m a.name with
      | none => rw [hg] at hb; cases hb
      | some n =>
        rw [hg] at hb
        have hb := hb.symm
        rw [decide_eq_true_eq] at hb
        simp only
        rw [if_pos hb]
        left; simp
theorem ar_rules (l : List Rul) : ∀ (m : KMap) (seen : List Atm) (i : Int), Inv m seen → arRules m l i = rarR seen l i := by
  induction l with
  | nil => intro m seen i _; rfl
  | cons r t ih =>
    intro m seen i h
    rw [arRules, rarR]
    rcases ar_atoms (atomsS r) m seen h with ⟨h1, h2⟩ | ⟨m', s', h1, h2, h3⟩
    · rw [h1, h2]
    · rw [h1, h2]; exact ih m' s' _ h3
def Lv (m : KMap) (s : Bs) : Nat := (getV m s).toNat
structure SG (m : KMap) (P : List Bs) (out : List (List Bs)) : Prop where
  lt : ∀ s ∈ P, Lv m s < out.length
  row : ∀ n, out.getD n [] = P.filter fun s => Lv m s == n
  top : out.length = 0 ∨ ∃ s ∈ P, Lv m s + 1 = out.length
theorem SG.step {m : KMap} {P : List Bs} {out : List (List Bs)} (h : SG m P out) (s : Bs) :
    SG m (P ++ [s]) ((out ++ List.replicate (Lv m s + 1 - out.length) []).set (Lv m s) ((out ++ List.replicate (Lv m s + 1 - out.length) []).getD (Lv m s) [] ++ [s])) := by
  have hl : (out ++ List.replicate (Lv m s + 1 - out.length) []).length = max out.length (Lv m s + 1) := by
    rw [List.length_append, List.length_replicate]; omega
  have hrow : ∀ n, (out ++ List.replicate (Lv m s + 1 - out.length) []).getD n [] = out.getD n [] := by
    intro n
    rw [List.getD_eq_getElem?_getD, List.getD_eq_getElem?_getD]
    by_cases hn : n < out.length
    · rw [List.getElem?_append_left hn]
    · rw [List.getElem?_append_right (by omega), List.getElem?_replicate, List.getElem?_eq_none (l := out) (by omega)]
      split <;> rfl
  refine ⟨fun t ht => ?_, fun n => ?_, .inr ?_⟩
  · rw [List.length_set, hl]
    rcases List.mem_append.1 ht with h1 | h1
    · have := h.lt t h1; omega
    · rw [List.mem_singleton.1 h1]; omega
  · rw [List.filter_append]
    by_cases hn : Lv m s = n
    · subst hn
      rw [List.getD_eq_getElem?_getD, List.getElem?_set_self (by rw [hl]; omega), Option.getD_some, hrow, h.row]
      simp
    · have e : [s].filter (fun t => Lv m t == n) = [] := by simp [hn]
      rw [e, List.append_nil, List.getD_eq_getElem?_getD, List.getElem?_set_ne hn, ← List.getD_eq_getElem?_getD, hrow, h.row]
  · rw [List.length_set, hl]
    by_cases hb : Lv m s + 1 ≤ out.length
    · rcases h.top with h1 | ⟨t, ht, h1⟩
      · omega
      · exact ⟨t, List.mem_append_left _ ht, by omega⟩
    · exact ⟨s, by simp, by omega⟩
theorem strGo_law (m : KMap) (ss : List Bs) : ∀ (P : List Bs) (out : List (List Bs)), SG m P out → SG m (P ++ ss) (strGo m out ss) := by
  induction ss with
  | nil => intro P out h; rw [List.append_nil]; exact h
  | cons s r ih =>
    intro P out h
    have := ih (P ++ [s]) _ (h.step s)
    rw [List.append_assoc] at this
    exact this
theorem strata_rows (l : List Rul) (m : KMap) (hm : levelsS l = some m) :
    SG m (insNames [] l) (strGo m [] (sortB (m.map (·.1)))) ∧ (∀ n, n < (strGo m [] (sortB (m.map (·.1)))).length → ∃ s ∈ insNames [] l, Lv m s = n) := by
  have hl := levels_law l m hm
  have hk : sortB (m.map (·.1)) = insNames [] l := by rw [names_eq, ← hl.1]; rfl
  have hmem : ∀ s, s ∈ keysK m ↔ s ∈ insNames [] l := fun s => by rw [← hk, mem_sortB]; rfl
  have h0 : SG m [] ([] : List (List Bs)) := ⟨(fun s hs => nomatch hs), fun n => rfl, .inl rfl⟩
  have h1 := strGo_law m (insNames [] l) [] [] h0
  rw [List.nil_append] at h1
  rw [hk]
  refine ⟨h1, fun n hn => ?_⟩
  rcases h1.top with h2 | ⟨t, ht, h2⟩
  · omega
  · have key : ∀ k, k ≤ Lv m t → ∃ s ∈ keysK m, getV m s = ((Lv m t - k : Nat) : Int) := by
      intro k
      induction k with
      | zero => intro _; exact ⟨t, (hmem t).2 ht, by have := (hl.2.1 t).1; unfold Lv; omega⟩
      | succ k ih =>
        intro hk
        obtain ⟨s, hs, h3⟩ := ih (by omega)
        obtain ⟨u, hu, h4⟩ := hl.2.2.2 ((Lv m t - k : Nat) : Int) (by omega) ⟨s, hs, h3⟩
        exact ⟨u, hu, by rw [h4]; omega⟩
    obtain ⟨s, hs, h3⟩ := key (Lv m t - n) (by omega)
    refine ⟨s, (hmem s).1 hs, ?_⟩
    unfold Lv at h3 h2 ⊢
    rw [h3]
    omega
end Go.Proofs.YtkjoaodoioicpaaGreatDoor
namespace Go.Proofs.YtkjoaodoioicpaaGreatDoor
def cmpI (a b : Int) : Int := if a < b then -1 else if b < a then 1 else 0
def cmpB (a b : Bs) : Int := if ltB a b then -1 else if ltB b a then 1 else 0
def orI : List Int → Int
  | [] => 0
  | a :: r => if a ≠ 0 then a else orI r
def rankS (k : Int) : Int := if k = 3 then 0 else if k = 2 then 1 else 2
def cmpArg (a b : Arg) : Int := orI [cmpI (rankS a.kind) (rankS b.kind), cmpI a.num b.num, cmpB a.text b.text]
def cmpArgs : List Arg → List Arg → Int
  | [], [] => 0
  | [], _ :: _ => -1
  | _ :: _, [] => 1
  | a :: r, b :: t => if cmpArg a b ≠ 0 then cmpArg a b else cmpArgs r t
def ordS (a b : Atm) : Int := orI [cmpB a.name b.name, cmpI a.args.length b.args.length, cmpArgs a.args b.args]
def rcmpArg (a b : Arg) : Int :=
  if rankS a.kind < rankS b.kind ∨ (rankS a.kind = rankS b.kind ∧ (a.num < b.num ∨ (a.num = b.num ∧ ltB a.text b.text = true))) then -1
  else if a = b then 0 else 1
def rcmpArgs : List Arg → List Arg → Int
  | a :: r, b :: t => if rcmpArg a b ≠ 0 then rcmpArg a b else rcmpArgs r t
  | _, _ => 0
def rordS (a b : Atm) : Int :=
  if a.name ≠ b.name then (if ltB a.name b.name then -1 else 1)
  else if a.args.length ≠ b.args.length then (if a.args.length < b.args.length then -1 else 1)
  else rcmpArgs a.args b.args
structure OrdC {α : Type} (f : α → α → Int) : Prop where
  rng : ∀ a b, f a b = -1 ∨ f a b = 0 ∨ f a b = 1
  eq0 : ∀ a b, f a b = 0 ↔ a = b
  neg : ∀ a b, f b a = - f a b
  tr : ∀ a b c, f a b = -1 → f b c = -1 → f a c = -1
theorem ordI : OrdC cmpI := by
  refine ⟨fun a b => ?_, fun a b => ?_, fun a b => ?_, fun a b c h1 h2 => ?_⟩
  · unfold cmpI; split <;> (try split) <;> simp
  · unfold cmpI; split <;> (try split) <;> (constructor <;> intro h <;> omega)
  · unfold cmpI; split <;> (try split) <;> (try split) <;> omega
  · have g1 : a < b := by
      unfold cmpI at h1; split at h1
      · assumption
      · split at h1 <;> omega
    have g2 : b < c := by
      unfold cmpI at h2; split at h2
      · assumption
      · split at h2 <;> omega
    unfold cmpI; rw [if_pos (by omega)]
theorem ltB_asym {a b : Bs} (h : ltB a b = true) : ltB b a = false := by
  cases h2 : ltB b a
  · rfl
  · have := ltB_trans _ _ _ h h2; rw [ltB_irr] at this; cases this
theorem ordB : OrdC cmpB := by
  refine ⟨fun a b => ?_, fun a b => ?_, fun a b => ?_, fun a b c h1 h2 => ?_⟩
  · unfold cmpB; split <;> (try split) <;> simp
  · unfold cmpB
    rcases ltB_tot a b with h | h | h
    · rw [if_pos h]
      refine ⟨fun h => by omega, fun e => ?_⟩
      subst e
      rw [ltB_irr] at h; cases h
    · subst h
      rw [ltB_irr]
      simp
    · rw [ltB_asym h, h]
      refine ⟨fun h => by simp at h, fun e => ?_⟩
      subst e
      rw [ltB_irr] at h; cases h
  · unfold cmpB
    rcases ltB_tot a b with h | h | h
    · rw [h, ltB_asym h]; rfl
    · subst h; rw [ltB_irr]; rfl
    · rw [h, ltB_asym h]; rfl
  · unfold cmpB at *
    have g1 : ltB a b = true := by
      cases h : ltB a b
      · rw [h] at h1; simp at h1; split at h1 <;> omega
      · rfl
    have g2 : ltB b c = true := by
      cases h : ltB b c
      · rw [h] at h2; simp at h2; split at h2 <;> omega
      · rfl
    rw [ltB_trans _ _ _ g1 g2]
    rfl
def lex2 {α β : Type} (f : α → α → Int) (g : β → β → Int) (x y : α × β) : Int := if f x.1 y.1 ≠ 0 then f x.1 y.1 else g x.2 y.2
theorem ord2 {α β : Type} {f : α → α → Int} {g : β → β → Int} (hf : OrdC f) (hg : OrdC g) : OrdC (lex2 f g) := by
  refine ⟨fun a b => ?_, fun a b => ?_, fun a b => ?_, fun a b c h1 h2 => ?_⟩
  · unfold lex2; split
    · exact hf.rng _ _
    · exact hg.rng _ _
  · unfold lex2
    obtain ⟨a1, a2⟩ := a
    obtain ⟨b1, b2⟩ := b
    simp only [Prod.mk.injEq]
    rw [← hf.eq0, ← hg.eq0]
    split
    · rename_i h; exact ⟨fun e => absurd e h, fun e => absurd e.1 h⟩
    · rename_i h
      rw [Classical.not_not] at h
      exact ⟨fun e => ⟨h, e⟩, fun e => e.2⟩
  · unfold lex2
    rw [hf.neg a.1 b.1, hg.neg a.2 b.2]
    split <;> split <;> omega
  · unfold lex2 at *
    by_cases x1 : f a.1 b.1 = 0
    · have e1 := (hf.eq0 _ _).1 x1
      rw [if_neg (by rw [Classical.not_not]; exact x1)] at h1
      by_cases x2 : f b.1 c.1 = 0
      · have e2 := (hf.eq0 _ _).1 x2
        rw [if_neg (by rw [Classical.not_not]; exact x2)] at h2
        rw [if_neg (by rw [Classical.not_not, hf.eq0, e1, e2])]
        exact hg.tr _ _ _ h1 h2
      · rw [if_pos x2] at h2
        rw [e1, if_pos x2]
        exact h2
    · rw [if_pos x1] at h1
      by_cases x2 : f b.1 c.1 = 0
      · have e2 := (hf.eq0 _ _).1 x2
        rw [← e2, if_pos x1]
        exact h1
      · rw [if_pos x2] at h2
        have := hf.tr _ _ _ h1 h2
        rw [this]
        rfl
def lexL {α : Type} (f : α → α → Int) : List α → List α → Int
  | [], [] => 0
  | [], _ :: _ => -1
  | _ :: _, [] => 1
  | a :: r, b :: t => if f a b ≠ 0 then f a b else lexL f r t
theorem ordL {α : Type} {f : α → α → Int} (hf : OrdC f) : OrdC (lexL f) := by
  refine ⟨fun a => ?_, fun a => ?_, fun a => ?_, fun a => ?_⟩
  · induction a with
    | nil => intro b; cases b <;> simp [lexL]
    | cons x r ih =>
      intro b
      cases b with
      | nil => simp [lexL]
      | cons y t =>
        unfold lexL; split
        · exact hf.rng _ _
        · exact ih t
  · induction a with
    | nil => intro b; cases b <;> simp [lexL]
    | cons x r ih =>
      intro b
      cases b with
      | nil => simp [lexL]
      | cons y t =>
        unfold lexL
        rw [List.cons.injEq, ← hf.eq0, ← ih]
        split
        · rename_i h; exact ⟨fun e => absurd e h, fun e => absurd e.1 h⟩
        · rename_i h
          rw [Classical.not_not] at h
          exact ⟨fun e => ⟨h, e⟩, fun e => e.2⟩
  · induction a with
    | nil => intro b; cases b <;> simp [lexL]
    | cons x r ih =>
      intro b
      cases b with
      | nil => simp [lexL]
      | cons y t =>
        unfold lexL
        rw [hf.neg x y, ih t]
        split <;> split <;> omega
  · induction a with
    | nil =>
      intro b c h1 h2
      cases c with
      | nil => cases b <;> simp [lexL] at h1 h2
      | cons z u => rfl
    | cons x r ih =>
      intro b c h1 h2
      cases b with
      | nil => simp [lexL] at h1
      | cons y t =>
        cases c with
        | nil => simp [lexL] at h2
        | cons z u =>
          unfold lexL at h1 h2 ⊢
          by_cases x1 : f x y = 0
          · have e1 := (hf.eq0 _ _).1 x1
            rw [if_neg (by rw [Classical.not_not]; exact x1)] at h1
            by_cases x2 : f y z = 0
            · have e2 := (hf.eq0 _ _).1 x2
              rw [if_neg (by rw [Classical.not_not]; exact x2)] at h2
              rw [if_neg (by rw [Classical.not_not, hf.eq0, e1, e2])]
              exact ih _ _ h1 h2
            · rw [if_pos x2] at h2
              rw [e1, if_pos x2]
              exact h2
          · rw [if_pos x1] at h1
            by_cases x2 : f y z = 0
            · have e2 := (hf.eq0 _ _).1 x2
              rw [← e2, if_pos x1]
              exact h1
            · rw [if_pos x2] at h2
              have := hf.tr _ _ _ h1 h2
              rw [this]
              rfl
abbrev AKey := Int × Int × Bs
def keyA (a : Arg) : AKey := (rankS a.kind, a.num, a.text)
def cmpK : AKey → AKey → Int := lex2 cmpI (lex2 cmpI cmpB)
theorem ordK : OrdC cmpK := ord2 ordI (ord2 ordI ordB)
theorem cmpArg_key (a b : Arg) : cmpArg a b = cmpK (keyA a) (keyA b) := by
  unfold cmpArg cmpK lex2 keyA orI orI orI orI
  simp only
  split
  · rfl
  · split
    · rfl
    · split
      · rfl
      · rename_i h; rw [Classical.not_not] at h; rw [h]
theorem cmpArgs_key (l : List Arg) : ∀ t, cmpArgs l t = lexL cmpK (l.map keyA) (t.map keyA) := by
  induction l with
  | nil => intro t; cases t <;> rfl
  | cons a r ih =>
    intro t
    cases t with
    | nil => rfl
    | cons b u => rw [cmpArgs, List.map_cons, List.map_cons, lexL, ← cmpArg_key, ih]
abbrev TKey := Bs × Int × List AKey
def keyT (a : Atm) : TKey := (a.name, (a.args.length : Int), a.args.map keyA)
def cmpT : TKey → TKey → Int := lex2 cmpB (lex2 cmpI (lexL cmpK))
theorem ordT : OrdC cmpT := ord2 ordB (ord2 ordI (ordL ordK))
theorem ordS_key (a b : Atm) : ordS a b = cmpT (keyT a) (keyT b) := by
  unfold ordS cmpT lex2 keyT
  rw [cmpArgs_key]
  unfold orI orI orI orI
  simp only
  split
  · rfl
  · split
    · rfl
    · split
      · rfl
      · rename_i h; rw [Classical.not_not] at h; rw [h]
theorem formed_kind {a : Arg} (h : formedS a = true) : a.kind = 1 ∨ a.kind = 2 ∨ a.kind = 3 := by
  unfold formedS at h
  split at h
  · rename_i h1; exact .inl h1
  · split at h
    · rename_i h1; exact .inr (.inl h1)
    · split at h
      · rename_i h1; exact .inr (.inr h1)
      · cases h
theorem keyA_inj {a b : Arg} (ha : formedS a = true) (hb : formedS b = true) (h : keyA a = keyA b) : a = b := by
  unfold keyA at h
  injection h with h1 h2
  injection h2 with h2 h3
  obtain ⟨k, t, n⟩ := a
  obtain ⟨k', t', n'⟩ := b
  have g1 := formed_kind ha
  have g2 := formed_kind hb
  simp only at h1 h2 h3 g1 g2
  subst h2 h3
  have : k = k' := by
    rcases g1 with rfl | rfl | rfl <;> rcases g2 with rfl | rfl | rfl <;> first | rfl | exact absurd h1 (by decide)
  rw [this]
theorem map_inj (l : List Arg) : ∀ t : List Arg, (∀ a ∈ l, formedS a = true) → (∀ a ∈ t, formedS a = true) → l.map keyA = t.map keyA → l = t := by
  induction l with
  | nil => intro t _ _ h; cases t with | nil => rfl | cons a b => cases h
  | cons a r ih =>
    intro t h1 h2 h
    cases t with
    | nil => cases h
    | cons b u =>
      rw [List.map_cons, List.map_cons] at h
      injection h with h3 h4
      rw [keyA_inj (h1 a List.mem_cons_self) (h2 b List.mem_cons_self) h3, ih u (fun x hx => h1 x (List.mem_cons_of_mem _ hx)) (fun x hx => h2 x (List.mem_cons_of_mem _ hx)) h4]
theorem atomS_args {a : Atm} (h : atomS a = true) : ∀ x ∈ a.args, formedS x = true := by
  unfold atomS argsS at h
  rw [Bool.and_eq_true, Bool.and_eq_true, List.all_eq_true] at h
  exact h.2
theorem keyT_inj {a b : Atm} (ha : atomS a = true) (hb : atomS b = true) (h : keyT a = keyT b) : a = b := by
  unfold keyT at h
  injection h with h1 h2
  injection h2 with h2 h3
  have := map_inj a.args b.args (atomS_args ha) (atomS_args hb) h3
  cases a; cases b
  simp only at *
  rw [h1, this]
theorem rcmp_eq {a b : Arg} (ha : formedS a = true) (hb : formedS b = true) : rcmpArg a b = cmpArg a b := by
  have h0 : cmpArg a b = 0 ↔ a = b := by
    rw [cmpArg_key, ordK.eq0]
    exact ⟨keyA_inj ha hb, fun e => by rw [e]⟩
  unfold rcmpArg
  by_cases hlt : rankS a.kind < rankS b.kind ∨ (rankS a.kind = rankS b.kind ∧ (a.num < b.num ∨ (a.num = b.num ∧ ltB a.text b.text = true)))
  · rw [if_pos hlt]
    unfold cmpArg orI orI orI orI cmpI cmpB
    rcases hlt with h | ⟨h, h2 | ⟨h2, h3⟩⟩
    · rw [if_pos h]; rfl
    · rw [h, if_pos h2]; simp
    · rw [h, h2, h3]; simp
  · rw [if_neg hlt]
    by_cases he : a = b
    · rw [if_pos he, h0.2 he]
    · rw [if_neg he]
      have hne := fun e => he (h0.1 e)
      rcases (by rw [cmpArg_key]; exact ordK.rng (keyA a) (keyA b) : cmpArg a b = -1 ∨ cmpArg a b = 0 ∨ cmpArg a b = 1) with h | h | h
      · exfalso
        apply hlt
        unfold cmpArg orI orI orI orI cmpI cmpB at h
        by_cases g1 : rankS a.kind < rankS b.kind
        · exact .inl g1
        · rw [if_neg g1] at h
          by_cases g2 : rankS b.kind < rankS a.kind
          · rw [if_pos g2] at h; simp at h
          · rw [if_neg g2] at h
            refine .inr ⟨by omega, ?_⟩
            by_cases g3 : a.num < b.num
            · exact .inl g3
            · rw [if_neg g3] at h
              by_cases g4 : b.num < a.num
              · rw [if_pos g4] at h; simp at h
              · rw [if_neg g4] at h
                refine .inr ⟨by omega, ?_⟩
                cases g5 : ltB a.text b.text
                · rw [g5] at h
                  cases g6 : ltB b.text a.text
                  · rw [g6] at h; simp at h
                  · rw [g6] at h; simp at h
                · rfl
      · exact absurd h hne
      · exact h.symm
theorem rcmps_eq (l : List Arg) : ∀ t : List Arg, l.length = t.length → (∀ a ∈ l, formedS a = true) → (∀ a ∈ t, formedS a = true) → rcmpArgs l t = cmpArgs l t := by
  induction l with
  | nil => intro t h _ _; cases t with | nil => rfl | cons a b => cases h
  | cons a r ih =>
    intro t h h1 h2
    cases t with
    | nil => cases h
    | cons b u =>
      rw [rcmpArgs, cmpArgs, rcmp_eq (h1 a List.mem_cons_self) (h2 b List.mem_cons_self), ih u (by simpa using h) (fun x hx => h1 x (List.mem_cons_of_mem _ hx)) (fun x hx => h2 x (List.mem_cons_of_mem _ hx))]
theorem rord_eq {a b : Atm} (ha : atomS a = true) (hb : atomS b = true) : rordS a b = ordS a b := by
  unfold rordS ordS orI orI orI orI
  by_cases h1 : a.name = b.name
  · have e1 : cmpB a.name b.name = 0 := (ordB.eq0 _ _).2 h1
    rw [if_neg (by rw [Classical.not_not]; exact h1)]
    simp only [e1, ne_eq, not_true_eq_false, if_false]
    by_cases h2 : a.args.length = b.args.length
    · have e2 : cmpI a.args.length b.args.length = 0 := (ordI.eq0 _ _).2 (by omega)
      have hx : ¬ (¬ (a.args.length = b.args.length)) := by rw [Classical.not_not]; exact h2
      have hy : ¬ (¬ (cmpI (a.args.length : Int) (b.args.length : Int) = 0)) := by rw [Classical.not_not]; exact e2
      simp only [if_neg hx, if_neg hy]
      rw [rcmps_eq _ _ h2 (atomS_args ha) (atomS_args hb)]
      split
      · rfl
      · rename_i h; rw [Classical.not_not] at h; exact h
    · have e3 : cmpI (a.args.length : Int) (b.args.length : Int) = if a.args.length < b.args.length then -1 else 1 := by
        unfold cmpI
        by_cases h3 : a.args.length < b.args.length
        · rw [if_pos h3, if_pos (by omega)]
        · rw [if_neg h3, if_neg (by omega), if_pos (by omega)]
      rw [if_pos h2, e3]
      by_cases h3 : a.args.length < b.args.length
      · simp [h3]
      · simp [h3]
  · rw [if_pos h1]
    unfold cmpB
    rcases ltB_tot a.name b.name with h | h | h
    · rw [h]; rfl
    · exact absurd h h1
    · rw [ltB_asym h, h]; rfl
end Go.Proofs.YtkjoaodoioicpaaGreatDoor
namespace Go.Proofs.YtkjoaodoioicpaaGreatDoor
theorem lt_ltB (a : Bs) : ∀ b : Bs, a < b ↔ ltB a b = true := by
  induction a with
  | nil => intro b; cases b <;> simp [ltB]
  | cons x r ih =>
    intro b
    cases b with
    | nil => simp [ltB]
    | cons y t =>
      rw [List.cons_lt_cons_iff, ih t]
      have e : ltB (x :: r) (y :: t) = if x = y then ltB r t else decide (x.toNat < y.toNat) := rfl
      rw [e]
      by_cases h : x = y
      · subst h; simp [UInt8.lt_irrefl]
      · simp [h, UInt8.lt_iff_toNat_lt]
theorem le_ltB (a b : Bs) : a ≤ b ↔ ltB b a = false := by
  show ¬ (b < a) ↔ _
  rw [lt_ltB]; simp
theorem le_ltB_trans (a b c : Bs) (h1 : ltB b a = false) (h2 : ltB c b = false) : ltB c a = false := by
  rcases ltB_tot a b with h | h | h
  · cases h3 : ltB c a with
    | false => rfl
    | true => have := ltB_trans c a b h3 h; rw [h2] at this; cases this
  · subst h; exact h2
  · rw [h1] at h; cases h
theorem merge_sortB (l : List Bs) (hn : l.Nodup) : l.mergeSort (fun x y => decide (x ≤ y)) = sortB l := by
  have hp : (l.mergeSort (fun x y => decide (x ≤ y))).Perm l := List.mergeSort_perm _ _
  refine sort_unique _ _ ?_ (sort_sortB l) (fun s => by rw [hp.mem_iff, mem_sortB])
  have hs : (l.mergeSort (fun x y => decide (x ≤ y))).Pairwise (fun x y => decide (x ≤ y) = true) := by
    refine List.pairwise_mergeSort ?_ ?_ l
    · intro a b c h1 h2
      simp only [decide_eq_true_eq, le_ltB] at h1 h2 ⊢
      exact le_ltB_trans a b c h1 h2
    · intro a b
      rcases ltB_tot a b with h | h | h
      · have : a ≤ b := by rw [le_ltB]; cases h3 : ltB b a with
          | false => rfl
          | true => have := ltB_trans _ _ _ h h3; rw [ltB_irr] at this; cases this
        simp [this]
      · subst h; simp
      · have : b ≤ a := by rw [le_ltB]; cases h3 : ltB a b with
          | false => rfl
          | true => have := ltB_trans _ _ _ h h3; rw [ltB_irr] at this; cases this
        simp [this]
  have hd : (l.mergeSort (fun x y => decide (x ≤ y))).Pairwise (· ≠ ·) := hp.nodup_iff.2 hn
  refine (hs.and hd).imp ?_
  rintro a b ⟨h1, h2⟩
  simp only [decide_eq_true_eq, le_ltB] at h1
  rcases ltB_tot a b with h | h | h
  · exact h
  · exact absurd h h2
  · rw [h1] at h; cases h
end Go.Proofs.YtkjoaodoioicpaaGreatDoor
namespace Go.Proofs.YtkjoaodoioicpaaGreatDoor
set_option maxRecDepth 100000
end Go.Proofs.YtkjoaodoioicpaaGreatDoor
