/- Rules: Order of the program and of the reference agree on well-formed atoms, and are a total order. Plain law. -/
import Derived.Test.YtjopmgoacncmgaaGreatDoorRfStr
set_option linter.unusedVariables false
set_option linter.unusedSimpArgs false
namespace Go.Proofs.YtjopmgoacncmgaaGreatDoor

def cmpI (a b : Int) : Int := if a < b then -1 else if b < a then 1 else 0
def cmpB (a b : Bs) : Int := if ltB a b then -1 else if ltB b a then 1 else 0
def orI : List Int → Int
  | [] => 0
  | a :: r => if a ≠ 0 then a else orI r
def rankS (k : Int) : Int := if k = 3 then 0 else if k = 2 then 1 else 2
def cmpArg (a b : Arg) : Int := orI [cmpI (rankS a.kind) (rankS b.kind), cmpI a.num b.num, cmpB a.text b.text]
def cmpArgs : List Arg → List Arg → Int
  | [], [] => 0
  | [], _ :: _ => -1
  | _ :: _, [] => 1
  | a :: r, b :: t => if cmpArg a b ≠ 0 then cmpArg a b else cmpArgs r t
def ordS (a b : Atm) : Int := orI [cmpB a.name b.name, cmpI a.args.length b.args.length, cmpArgs a.args b.args]
def rcmpArg (a b : Arg) : Int :=
  if rankS a.kind < rankS b.kind ∨ (rankS a.kind = rankS b.kind ∧ (a.num < b.num ∨ (a.num = b.num ∧ ltB a.text b.text = true))) then -1
  else if a = b then 0 else 1
def rcmpArgs : List Arg → List Arg → Int
  | a :: r, b :: t => if rcmpArg a b ≠ 0 then rcmpArg a b else rcmpArgs r t
  | _, _ => 0
def rordS (a b : Atm) : Int :=
  if a.name ≠ b.name then (if ltB a.name b.name then -1 else 1)
  else if a.args.length ≠ b.args.length then (if a.args.length < b.args.length then -1 else 1)
  else rcmpArgs a.args b.args

structure OrdC {α : Type} (f : α → α → Int) : Prop where
  rng : ∀ a b, f a b = -1 ∨ f a b = 0 ∨ f a b = 1
  eq0 : ∀ a b, f a b = 0 ↔ a = b
  neg : ∀ a b, f b a = - f a b
  tr : ∀ a b c, f a b = -1 → f b c = -1 → f a c = -1
theorem ordI : OrdC cmpI := by
  refine ⟨fun a b => ?_, fun a b => ?_, fun a b => ?_, fun a b c h1 h2 => ?_⟩
  · unfold cmpI; split <;> (try split) <;> simp
  · unfold cmpI; split <;> (try split) <;> (constructor <;> intro h <;> omega)
  · unfold cmpI; split <;> (try split) <;> (try split) <;> omega
  · have g1 : a < b := by
      unfold cmpI at h1; split at h1
      · assumption
      · split at h1 <;> omega
    have g2 : b < c := by
      unfold cmpI at h2; split at h2
      · assumption
      · split at h2 <;> omega
    unfold cmpI; rw [if_pos (by omega)]
theorem ltB_asym {a b : Bs} (h : ltB a b = true) : ltB b a = false := by
  cases h2 : ltB b a
  · rfl
  · have := ltB_trans _ _ _ h h2; rw [ltB_irr] at this; cases this
theorem ordB : OrdC cmpB := by
  refine ⟨fun a b => ?_, fun a b => ?_, fun a b => ?_, fun a b c h1 h2 => ?_⟩
  · unfold cmpB; split <;> (try split) <;> simp
  · unfold cmpB
    rcases ltB_tot a b with h | h | h
    · rw [if_pos h]
      refine ⟨fun h => by omega, fun e => ?_⟩
      subst e
      rw [ltB_irr] at h; cases h
    · subst h
      rw [ltB_irr]
      simp
    · rw [ltB_asym h, h]
      refine ⟨fun h => by simp at h, fun e => ?_⟩
      subst e
      rw [ltB_irr] at h; cases h
  · unfold cmpB
    rcases ltB_tot a b with h | h | h
    · rw [h, ltB_asym h]; rfl
    · subst h; rw [ltB_irr]; rfl
    · rw [h, ltB_asym h]; rfl
  · unfold cmpB at *
    have g1 : ltB a b = true := by
      cases h : ltB a b
      · rw [h] at h1; simp at h1; split at h1 <;> omega
      · rfl
    have g2 : ltB b c = true := by
      cases h : ltB b c
      · rw [h] at h2; simp at h2; split at h2 <;> omega
      · rfl
    rw [ltB_trans _ _ _ g1 g2]
    rfl
def lex2 {α β : Type} (f : α → α → Int) (g : β → β → Int) (x y : α × β) : Int := if f x.1 y.1 ≠ 0 then f x.1 y.1 else g x.2 y.2
theorem ord2 {α β : Type} {f : α → α → Int} {g : β → β → Int} (hf : OrdC f) (hg : OrdC g) : OrdC (lex2 f g) := by
  refine ⟨fun a b => ?_, fun a b => ?_, fun a b => ?_, fun a b c h1 h2 => ?_⟩
  · unfold lex2; split
    · exact hf.rng _ _
    · exact hg.rng _ _
  · unfold lex2
    obtain ⟨a1, a2⟩ := a
    obtain ⟨b1, b2⟩ := b
    simp only [Prod.mk.injEq]
    rw [← hf.eq0, ← hg.eq0]
    split
    · rename_i h; exact ⟨fun e => absurd e h, fun e => absurd e.1 h⟩
    · rename_i h
      rw [Classical.not_not] at h
      exact ⟨fun e => ⟨h, e⟩, fun e => e.2⟩
  · unfold lex2
    rw [hf.neg a.1 b.1, hg.neg a.2 b.2]
    split <;> split <;> omega
  · unfold lex2 at *
    by_cases x1 : f a.1 b.1 = 0
    · have e1 := (hf.eq0 _ _).1 x1
      rw [if_neg (by rw [Classical.not_not]; exact x1)] at h1
      by_cases x2 : f b.1 c.1 = 0
      · have e2 := (hf.eq0 _ _).1 x2
        rw [if_neg (by rw [Classical.not_not]; exact x2)] at h2
        rw [if_neg (by rw [Classical.not_not, hf.eq0, e1, e2])]
        exact hg.tr _ _ _ h1 h2
      · rw [if_pos x2] at h2
        rw [e1, if_pos x2]
        exact h2
    · rw [if_pos x1] at h1
      by_cases x2 : f b.1 c.1 = 0
      · have e2 := (hf.eq0 _ _).1 x2
        rw [← e2, if_pos x1]
        exact h1
      · rw [if_pos x2] at h2
        have := hf.tr _ _ _ h1 h2
        rw [this]
        rfl
def lexL {α : Type} (f : α → α → Int) : List α → List α → Int
  | [], [] => 0
  | [], _ :: _ => -1
  | _ :: _, [] => 1
  | a :: r, b :: t => if f a b ≠ 0 then f a b else lexL f r t
theorem ordL {α : Type} {f : α → α → Int} (hf : OrdC f) : OrdC (lexL f) := by
  refine ⟨fun a => ?_, fun a => ?_, fun a => ?_, fun a => ?_⟩
  · induction a with
    | nil => intro b; cases b <;> simp [lexL]
    | cons x r ih =>
      intro b
      cases b with
      | nil => simp [lexL]
      | cons y t =>
        unfold lexL; split
        · exact hf.rng _ _
        · exact ih t
  · induction a with
    | nil => intro b; cases b <;> simp [lexL]
    | cons x r ih =>
      intro b
      cases b with
      | nil => simp [lexL]
      | cons y t =>
        unfold lexL
        rw [List.cons.injEq, ← hf.eq0, ← ih]
        split
        · rename_i h; exact ⟨fun e => absurd e h, fun e => absurd e.1 h⟩
        · rename_i h
          rw [Classical.not_not] at h
          exact ⟨fun e => ⟨h, e⟩, fun e => e.2⟩
  · induction a with
    | nil => intro b; cases b <;> simp [lexL]
    | cons x r ih =>
      intro b
      cases b with
      | nil => simp [lexL]
      | cons y t =>
        unfold lexL
        rw [hf.neg x y, ih t]
        split <;> split <;> omega
  · induction a with
    | nil =>
      intro b c h1 h2
      cases c with
      | nil => cases b <;> simp [lexL] at h1 h2
      | cons z u => rfl
    | cons x r ih =>
      intro b c h1 h2
      cases b with
      | nil => simp [lexL] at h1
      | cons y t =>
        cases c with
        | nil => simp [lexL] at h2
        | cons z u =>
          unfold lexL at h1 h2 ⊢
          by_cases x1 : f x y = 0
          · have e1 := (hf.eq0 _ _).1 x1
            rw [if_neg (by rw [Classical.not_not]; exact x1)] at h1
            by_cases x2 : f y z = 0
            · have e2 := (hf.eq0 _ _).1 x2
              rw [if_neg (by rw [Classical.not_not]; exact x2)] at h2
              rw [if_neg (by rw [Classical.not_not, hf.eq0, e1, e2])]
              exact ih _ _ h1 h2
            · rw [if_pos x2] at h2
              rw [e1, if_pos x2]
              exact h2
          · rw [if_pos x1] at h1
            by_cases x2 : f y z = 0
            · have e2 := (hf.eq0 _ _).1 x2
              rw [← e2, if_pos x1]
              exact h1
            · rw [if_pos x2] at h2
              have := hf.tr _ _ _ h1 h2
              rw [this]
              rfl
abbrev AKey := Int × Int × Bs
def keyA (a : Arg) : AKey := (rankS a.kind, a.num, a.text)
def cmpK : AKey → AKey → Int := lex2 cmpI (lex2 cmpI cmpB)
theorem ordK : OrdC cmpK := ord2 ordI (ord2 ordI ordB)
theorem cmpArg_key (a b : Arg) : cmpArg a b = cmpK (keyA a) (keyA b) := by
  unfold cmpArg cmpK lex2 keyA orI orI orI orI
  simp only
  split
  · rfl
  · split
    · rfl
    · split
      · rfl
      · rename_i h; rw [Classical.not_not] at h; rw [h]
theorem cmpArgs_key (l : List Arg) : ∀ t, cmpArgs l t = lexL cmpK (l.map keyA) (t.map keyA) := by
  induction l with
  | nil => intro t; cases t <;> rfl
  | cons a r ih =>
    intro t
    cases t with
    | nil => rfl
    | cons b u => rw [cmpArgs, List.map_cons, List.map_cons, lexL, ← cmpArg_key, ih]
abbrev TKey := Bs × Int × List AKey
def keyT (a : Atm) : TKey := (a.name, (a.args.length : Int), a.args.map keyA)
def cmpT : TKey → TKey → Int := lex2 cmpB (lex2 cmpI (lexL cmpK))
theorem ordT : OrdC cmpT := ord2 ordB (ord2 ordI (ordL ordK))
theorem ordS_key (a b : Atm) : ordS a b = cmpT (keyT a) (keyT b) := by
  unfold ordS cmpT lex2 keyT
  rw [cmpArgs_key]
  unfold orI orI orI orI
  simp only
  split
  · rfl
  · split
    · rfl
    · split
      · rfl
      · rename_i h; rw [Classical.not_not] at h; rw [h]
theorem formed_kind {a : Arg} (h : formedS a = true) : a.kind = 1 ∨ a.kind = 2 ∨ a.kind = 3 := by
  unfold formedS at h
  split at h
  · rename_i h1; exact .inl h1
  · split at h
    · rename_i h1; exact .inr (.inl h1)
    · split at h
      · rename_i h1; exact .inr (.inr h1)
      · cases h
theorem keyA_inj {a b : Arg} (ha : formedS a = true) (hb : formedS b = true) (h : keyA a = keyA b) : a = b := by
  unfold keyA at h
  injection h with h1 h2
  injection h2 with h2 h3
  obtain ⟨k, t, n⟩ := a
  obtain ⟨k', t', n'⟩ := b
  have g1 := formed_kind ha
  have g2 := formed_kind hb
  simp only at h1 h2 h3 g1 g2
  subst h2 h3
  have : k = k' := by
    rcases g1 with rfl | rfl | rfl <;> rcases g2 with rfl | rfl | rfl <;> first | rfl | exact absurd h1 (by decide)
  rw [this]
theorem map_inj (l : List Arg) : ∀ t : List Arg, (∀ a ∈ l, formedS a = true) → (∀ a ∈ t, formedS a = true) → l.map keyA = t.map keyA → l = t := by
  induction l with
  | nil => intro t _ _ h; cases t with | nil => rfl | cons a b => cases h
  | cons a r ih =>
    intro t h1 h2 h
    cases t with
    | nil => cases h
    | cons b u =>
      rw [List.map_cons, List.map_cons] at h
      injection h with h3 h4
      rw [keyA_inj (h1 a List.mem_cons_self) (h2 b List.mem_cons_self) h3, ih u (fun x hx => h1 x (List.mem_cons_of_mem _ hx)) (fun x hx => h2 x (List.mem_cons_of_mem _ hx)) h4]
theorem atomS_args {a : Atm} (h : atomS a = true) : ∀ x ∈ a.args, formedS x = true := by
  unfold atomS argsS at h
  rw [Bool.and_eq_true, Bool.and_eq_true, List.all_eq_true] at h
  exact h.2
theorem keyT_inj {a b : Atm} (ha : atomS a = true) (hb : atomS b = true) (h : keyT a = keyT b) : a = b := by
  unfold keyT at h
  injection h with h1 h2
  injection h2 with h2 h3
  have := map_inj a.args b.args (atomS_args ha) (atomS_args hb) h3
  cases a; cases b
  simp only at *
  rw [h1, this]
theorem rcmp_eq {a b : Arg} (ha : formedS a = true) (hb : formedS b = true) : rcmpArg a b = cmpArg a b := by
  have h0 : cmpArg a b = 0 ↔ a = b := by
    rw [cmpArg_key, ordK.eq0]
    exact ⟨keyA_inj ha hb, fun e => by rw [e]⟩
  unfold rcmpArg
  by_cases hlt : rankS a.kind < rankS b.kind ∨ (rankS a.kind = rankS b.kind ∧ (a.num < b.num ∨ (a.num = b.num ∧ ltB a.text b.text = true)))
  · rw [if_pos hlt]
    unfold cmpArg orI orI orI orI cmpI cmpB
    rcases hlt with h | ⟨h, h2 | ⟨h2, h3⟩⟩
    · rw [if_pos h]; rfl
    · rw [h, if_pos h2]; simp
    · rw [h, h2, h3]; simp
  · rw [if_neg hlt]
    by_cases he : a = b
    · rw [if_pos he, h0.2 he]
    · rw [if_neg he]
      have hne := fun e => he (h0.1 e)
      rcases (by rw [cmpArg_key]; exact ordK.rng (keyA a) (keyA b) : cmpArg a b = -1 ∨ cmpArg a b = 0 ∨ cmpArg a b = 1) with h | h | h
      · exfalso
        apply hlt
        unfold cmpArg orI orI orI orI cmpI cmpB at h
        by_cases g1 : rankS a.kind < rankS b.kind
        · exact .inl g1
        · rw [if_neg g1] at h
          by_cases g2 : rankS b.kind < rankS a.kind
          · rw [if_pos g2] at h; simp at h
          · rw [if_neg g2] at h
            refine .inr ⟨by omega, ?_⟩
            by_cases g3 : a.num < b.num
            · exact .inl g3
            · rw [if_neg g3] at h
              by_cases g4 : b.num < a.num
              · rw [if_pos g4] at h; simp at h
              · rw [if_neg g4] at h
                refine .inr ⟨by omega, ?_⟩
                cases g5 : ltB a.text b.text
                · rw [g5] at h
                  cases g6 : ltB b.text a.text
                  · rw [g6] at h; simp at h
                  · rw [g6] at h; simp at h
                · rfl
      · exact absurd h hne
      · exact h.symm
theorem rcmps_eq (l : List Arg) : ∀ t : List Arg, l.length = t.length → (∀ a ∈ l, formedS a = true) → (∀ a ∈ t, formedS a = true) → rcmpArgs l t = cmpArgs l t := by
  induction l with
  | nil => intro t h _ _; cases t with | nil => rfl | cons a b => cases h
  | cons a r ih =>
    intro t h h1 h2
    cases t with
    | nil => cases h
    | cons b u =>
      rw [rcmpArgs, cmpArgs, rcmp_eq (h1 a List.mem_cons_self) (h2 b List.mem_cons_self), ih u (by simpa using h) (fun x hx => h1 x (List.mem_cons_of_mem _ hx)) (fun x hx => h2 x (List.mem_cons_of_mem _ hx))]
theorem rord_eq {a b : Atm} (ha : atomS a = true) (hb : atomS b = true) : rordS a b = ordS a b := by
  unfold rordS ordS orI orI orI orI
  by_cases h1 : a.name = b.name
  · have e1 : cmpB a.name b.name = 0 := (ordB.eq0 _ _).2 h1
    rw [if_neg (by rw [Classical.not_not]; exact h1)]
    simp only [e1, ne_eq, not_true_eq_false, if_false]
    by_cases h2 : a.args.length = b.args.length
    · have e2 : cmpI a.args.length b.args.length = 0 := (ordI.eq0 _ _).2 (by omega)
      have hx : ¬ (¬ (a.args.length = b.args.length)) := by rw [Classical.not_not]; exact h2
      have hy : ¬ (¬ (cmpI (a.args.length : Int) (b.args.length : Int) = 0)) := by rw [Classical.not_not]; exact e2
      simp only [if_neg hx, if_neg hy]
      rw [rcmps_eq _ _ h2 (atomS_args ha) (atomS_args hb)]
      split
      · rfl
      · rename_i h; rw [Classical.not_not] at h; exact h
    · have e3 : cmpI (a.args.length : Int) (b.args.length : Int) = if a.args.length < b.args.length then -1 else 1 := by
        unfold cmpI
        by_cases h3 : a.args.length < b.args.length
        · rw [if_pos h3, if_pos (by omega)]
        · rw [if_neg h3, if_neg (by omega), if_pos (by omega)]
      rw [if_pos h2, e3]
      by_cases h3 : a.args.length < b.args.length
      · simp [h3]
      · simp [h3]
  · rw [if_pos h1]
    unfold cmpB
    rcases ltB_tot a.name b.name with h | h | h
    · rw [h]; rfl
    · exact absurd h h1
    · rw [ltB_asym h, h]; rfl
/-- The law of Order. -/
theorem order_law {a b c : Atm} (ha : atomS a = true) (hb : atomS b = true) (hc : atomS c = true) :
    ordS a b = rordS a b ∧ ordS b a = - ordS a b ∧ (ordS a b = 0 ↔ a = b) ∧ ordS a a = 0 ∧ (ordS a b > 0 ∨ ordS b c > 0 ∨ (ordS a c ≤ 0 ∧ ((ordS a b = 0 ∧ ordS b c = 0) ↔ ordS a c = 0))) := by
  refine ⟨(rord_eq ha hb).symm, by rw [ordS_key, ordS_key a b]; exact ordT.neg _ _, ?_, by rw [ordS_key]; exact (ordT.eq0 _ _).2 rfl, ?_⟩
  · rw [ordS_key, ordT.eq0]
    exact ⟨keyT_inj ha hb, fun e => by rw [e]⟩
  · rw [ordS_key, ordS_key b c, ordS_key a c]
    have r1 := ordT.rng (keyT a) (keyT b)
    have r2 := ordT.rng (keyT b) (keyT c)
    have n1 := ordT.eq0 (keyT a) (keyT b)
    have n2 := ordT.eq0 (keyT b) (keyT c)
    have n3 := ordT.eq0 (keyT a) (keyT c)
    have t := ordT.tr (keyT a) (keyT b) (keyT c)
    rcases r1 with h1 | h1 | h1
    · rcases r2 with h2 | h2 | h2
      · have := t h1 h2
        exact .inr (.inr ⟨by omega, ⟨fun h => by omega, fun h => by omega⟩⟩)
      · have e := n2.1 h2
        rw [← e]
        exact .inr (.inr ⟨by omega, ⟨fun h => by omega, fun h => by omega⟩⟩)
      · exact .inr (.inl (by omega))
    · have e := n1.1 h1
      rw [e] at h1 ⊢
      rcases r2 with h2 | h2 | h2
      · exact .inr (.inr ⟨by omega, ⟨fun h => h.2, fun h => ⟨h1, h⟩⟩⟩)
      · exact .inr (.inr ⟨by omega, ⟨fun h => h.2, fun h => ⟨h1, h⟩⟩⟩)
      · exact .inr (.inl (by omega))
    · exact .inl (by omega)
end Go.Proofs.YtjopmgoacncmgaaGreatDoor
