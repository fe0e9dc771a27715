/- Rules: the reference's way of printing is the program's; how long texts are. Plain law. -/
import Derived.Test.YtjopmgoacncmgaaGreatDoorKSpec
set_option linter.unusedVariables false
set_option linter.unusedSimpArgs false
namespace Go.Proofs.YtjopmgoacncmgaaGreatDoor

def rprGo (out : Bs) : List Arg → Bool → Bs
  | [], _ => out
  | a :: r, first => rprGo ((out ++ (if first then [40] else [44, 32])) ++ prArg a) r false
def rprAtom (a : Atm) : Bs := if 0 < a.args.length then rprGo a.name a.args true ++ [41] else rprGo a.name a.args true
theorem rpr_rest (r : List Arg) : ∀ (o : Bs) (a : Arg), rprGo (o ++ prArg a) r false = o ++ joinS ((a :: r).map prArg) := by
  induction r with
  | nil => intro o a; rfl
  | cons b t ih =>
    intro o a
    rw [rprGo, ih]
    simp [joinS]
theorem rpr_atom (a : Atm) : rprAtom a = prAtom a := by
  unfold rprAtom prAtom
  obtain ⟨nm, args⟩ := a
  cases args with
  | nil => rfl
  | cons x r =>
    simp only [List.length_cons]
    rw [if_pos (by omega), if_neg (by omega), rprGo, if_pos rfl, rpr_rest]

/- Lengths. -/
theorem natDig_lenP (f : Nat) : ∀ n, (natDig f n).length ≤ f := by
  induction f with
  | zero => intro n; simp [natDig]
  | succ f ih =>
    intro n
    unfold natDig
    split
    · simp
    · have := ih (n / 10); simp; omega
theorem itoa_len (n : Int) : (itoaS n).length ≤ 21 := by
  unfold itoaS
  split
  · have := natDig_lenP 20 n.natAbs; simp; omega
  · have := natDig_lenP 20 n.natAbs; omega
theorem prArg_len {a : Arg} (h : formedS a = true) : (prArg a).length ≤ 130 := by
  unfold formedS at h
  unfold prArg
  split at h
  · rename_i hk
    rw [hk]
    simp only [varS, eachS, Bool.and_eq_true, decide_eq_true_eq] at h
    rw [if_neg (by decide), if_neg (by decide)]
    omega
  · split at h
    · rename_i _ hk
      rw [hk]
      simp only [conS, Bool.and_eq_true, decide_eq_true_eq] at h
      rw [if_neg (by decide), if_pos rfl]
      simp
      omega
    · split at h
      · rename_i _ _ hk
        rw [if_pos hk]
        have := itoa_len a.num
        omega
      · cases h
theorem join_len (l : List Arg) (h : ∀ a ∈ l, formedS a = true) : (joinS (l.map prArg)).length ≤ 132 * l.length := by
  induction l with
  | nil => simp [joinS]
  | cons a r ih =>
    have h1 := prArg_len (h a List.mem_cons_self)
    have h2 := ih (fun x hx => h x (List.mem_cons_of_mem _ hx))
    cases r with
    | nil => simp [joinS]; omega
    | cons b t =>
      simp only [List.map_cons, joinS] at h2 ⊢
      simp only [List.length_append, List.length_cons, List.length_nil] at h2 ⊢
      omega
theorem atomS_parts {a : Atm} (h : atomS a = true) : a.name.length ≤ 32 ∧ a.args.length ≤ 6 ∧ ∀ x ∈ a.args, formedS x = true := by
  unfold atomS at h
  rw [Bool.and_eq_true, Bool.and_eq_true, decide_eq_true_eq] at h
  obtain ⟨⟨h1, h2⟩, h3⟩ := h
  unfold predS eachS at h1
  simp only [Bool.and_eq_true, decide_eq_true_eq] at h1
  exact ⟨h1.2.1.1.2, h2, List.all_eq_true.1 h3⟩
theorem prAtom_len {a : Atm} (h : atomS a = true) : (prAtom a).length ≤ 830 := by
  obtain ⟨h1, h2, h3⟩ := atomS_parts h
  unfold prAtom
  split
  · omega
  · have := join_len a.args h3
    simp only [List.length_append, List.length_cons, List.length_nil]
    omega
theorem ltl_argsP {l : Ltl} (h : ltlS l = true) (hc : compsS l = true) : l.op.length ≤ 2 ∧ l.atom.args.length = 2 ∧ ∀ x ∈ l.atom.args, formedS x = true := by
  unfold ltlS at h
  rw [hc] at h
  simp only [Bool.not_true, Bool.false_eq_true, if_false, Bool.and_eq_true, beq_iff_eq] at h
  obtain ⟨⟨⟨⟨h1, -⟩, -⟩, h2⟩, h3⟩ := h
  refine ⟨?_, h2, List.all_eq_true.1 h3⟩
  rw [List.contains_iff_mem] at h1
  simp [opsL] at h1
  rcases h1 with e | e | e | e <;> rw [e] <;> decide
theorem prLtl_len {l : Ltl} (h : ltlS l = true) : (prLtl l).length ≤ 840 := by
  unfold prLtl
  cases hc : compsS l with
  | true =>
    obtain ⟨h1, h2, h3⟩ := ltl_argsP h hc
    rw [if_pos rfl]
    match ha : l.atom.args with
    | [x, y] =>
      have hx := prArg_len (h3 x (by rw [ha]; simp))
      have hy := prArg_len (h3 y (by rw [ha]; simp))
      simp [List.getD]
      omega
    | [] => rw [ha] at h2; cases h2
    | [_] => rw [ha] at h2; cases h2
    | _ :: _ :: _ :: _ => rw [ha] at h2; simp at h2
  | false =>
    unfold ltlS at h
    rw [hc] at h
    simp only [Bool.not_false, if_true] at h
    have := prAtom_len h
    simp only [Bool.false_eq_true, if_false]
    split
    · simp [sNot]; omega
    · omega
theorem prBody_len (b : List Ltl) : ∀ (o : Bs) (f : Bool), (∀ x ∈ b, ltlS x = true) → (prBody o b f).length ≤ o.length + 844 * b.length := by
  induction b with
  | nil => intro o f _; simp [prBody]
  | cons x r ih =>
    intro o f h
    have h1 := prLtl_len (h x List.mem_cons_self)
    rw [prBody]
    have := ih (o ++ ((if f then [32, 58, 45, 32] else [44, 32]) ++ prLtl x)) false (fun y hy => h y (List.mem_cons_of_mem _ hy))
    simp only [List.length_append, List.length_cons] at this ⊢
    have h2 : ((if f then [32, 58, 45, 32] else [44, 32] : Bs)).length ≤ 4 := by cases f <;> decide
    omega
theorem rule_parts {r : Rul} (h : ruleS r = true) : atomS r.head = true ∧ r.body.length ≤ 4 ∧ ∀ x ∈ r.body, ltlS x = true := by
  unfold ruleS at h
  rw [Bool.and_eq_true, Bool.and_eq_true, Bool.and_eq_true, decide_eq_true_eq] at h
  exact ⟨h.1.1.1, h.1.1.2, List.all_eq_true.1 h.1.2⟩
theorem prRule_len {r : Rul} (h : ruleS r = true) (o : Bs) : (prBody (o ++ prAtom r.head) r.body true ++ [46, 10]).length ≤ o.length + 5000 := by
  obtain ⟨h1, h2, h3⟩ := rule_parts h
  have h4 := prAtom_len h1
  have h5 := prBody_len r.body (o ++ prAtom r.head) true h3
  simp only [List.length_append, List.length_cons, List.length_nil] at h5 ⊢
  omega
end Go.Proofs.YtjopmgoacncmgaaGreatDoor
