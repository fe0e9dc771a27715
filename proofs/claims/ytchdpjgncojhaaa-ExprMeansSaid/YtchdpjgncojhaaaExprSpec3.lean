/- Expressions: what Print computes, as plain functions; its loop's bounds. -/
import Derived.Test.YtchdpjgncojhaaaG3
set_option linter.unusedVariables false
set_option linter.unusedSimpArgs false
namespace Go.Proofs.Ytchdpjgncojhaaa
open Go.RowKit

def symK (s : Bs) : Tok := ⟨3, s⟩
def atS (t : Txt) (l : Int) : List Tok := if l ≤ t.lev then t.toks else [symK [40]] ++ t.toks ++ [symK [41]]
def argsGo : List Txt → Bool → List Tok
  | [], _ => []
  | a :: r, first => (if first then [] else [symK [44]]) ++ a.toks ++ argsGo r false
def callS (name : Bs) (args : List Txt) : List Tok := [⟨1, name⟩, symK [40]] ++ argsGo args true ++ [symK [41]]
def numTok (n : Int) : Tok := ⟨2, decF 10 n.toNat⟩
def textS (o : Opn) (args : List Txt) : Txt :=
  if o.kind = 1 then ⟨[numTok o.n], 11⟩
  else if o.kind = 2 then ⟨[⟨1, o.text⟩], 11⟩
  else if o.kind = 3 then ⟨callS o.text args, 11⟩
  else if o.kind = 4 then ⟨callS [108, 111, 97, 100] args, 11⟩
  else if o.kind = 5 then ⟨callS [105, 110] args, 11⟩
  else if o.kind = 6 then ⟨[symK o.text] ++ atS (args.getD 0 default) 11, 11⟩
  else ⟨atS (args.getD 0 default) (level o.text) ++ [symK o.text] ++ atS (args.getD 1 default) ((level o.text : Int) + 1), level o.text⟩
def nd (o : Opn) : Nat := (needsS o).toNat
def printGo : List Opn → List Txt → List Txt
  | [], st => st
  | o :: r, st => printGo r (st.take (st.length - nd o) ++ [textS o (st.drop (st.length - nd o))])
def exprPrintS (f : List Opn) : List Tok × Int :=
  if checkS f ≠ 0 then ([], checkS f)
  else if 256 < ((printGo f []).getD 0 default).toks.length then ([], 10)
  else (((printGo f []).getD 0 default).toks, 0)

def tot (st : List Txt) : Nat := (st.map fun x => x.toks.length).sum
theorem tot_append (a b : List Txt) : tot (a ++ b) = tot a + tot b := by simp [tot]
theorem tot_split (st : List Txt) (k : Nat) : tot (st.take k) + tot (st.drop k) = tot st := by rw [← tot_append, List.take_append_drop]
theorem argsGo_len (l : List Txt) (b : Bool) : (argsGo l b).length ≤ tot l + l.length := by
  induction l generalizing b with
  | nil => simp [argsGo, tot]
  | cons a r ih =>
    have := ih false
    cases b <;> simp [argsGo, tot] at * <;> omega
theorem atS_len (t : Txt) (l : Int) : (atS t l).length ≤ t.toks.length + 2 := by
  unfold atS
  split
  · omega
  · simp
theorem getD0_len (st : List Txt) (h : 1 ≤ st.length) : (st.getD 0 default).toks.length ≤ tot st := by
  cases st with
  | nil => simp at h
  | cons a r => simp [tot]
theorem getD1_len (st : List Txt) (h : 2 ≤ st.length) : (st.getD 0 default).toks.length + (st.getD 1 default).toks.length ≤ tot st := by
  match st, h with
  | a :: b :: r, _ => simp [tot]
theorem textS_len (o : Opn) (args : List Txt) (h : args.length = nd o) (h0 : 0 ≤ needsS o) : (textS o args).toks.length ≤ tot args + 11 := by
  have h8 := needsS_le o
  have hal : args.length ≤ 8 := by unfold nd at h; omega
  have hc : ∀ name, (callS name args).length ≤ tot args + 11 := fun name => by
    have := argsGo_len args true
    simp [callS]
    omega
  unfold textS
  split
  · simp
  split
  · simp
  split
  · exact hc _
  split
  · exact hc _
  split
  · exact hc _
  split
  · rename_i hk
    have h1 : args.length = 1 := by
      rw [h]; unfold nd; unfold needsS at h0 ⊢; simp [hk] at h0 ⊢
      split at h0
      · simp_all
      · omega
    have := atS_len (args.getD 0 default) 11
    have := getD0_len args (by omega)
    simp at *
    omega
  · rename_i k1 k2 k3 k4 k5 k6
    have h1 : args.length = 2 := by
      rw [h]; unfold nd; unfold needsS at h0 ⊢; simp [k1, k2, k3, k4, k5, k6] at h0 ⊢
      split at h0
      · split at h0
        · simp_all
        · omega
      · omega
    have := atS_len (args.getD 0 default) (level o.text)
    have := atS_len (args.getD 1 default) ((level o.text : Int) + 1)
    have := getD1_len args (by omega)
    simp at *
    omega

/-- Check's loop says that the stack bears each operation. -/
theorem checkGo_cons {o : Opn} {r : List Opn} {m : Int} (h : checkGo (o :: r) m = 0) : 0 ≤ needsS o ∧ needsS o ≤ m ∧ checkGo r (m + (1 - needsS o)) = 0 := by
  rw [checkGo] at h
  by_cases hb : needsS o < 0 ∨ m < needsS o
  · rw [if_pos hb] at h; cases h
  · rw [if_neg hb] at h
    exact ⟨by omega, by omega, h⟩
theorem checkGo_nil {m : Int} (h : checkGo [] m = 0) : m = 1 := by
  unfold checkGo at h
  split at h
  · assumption
  · cases h
end Go.Proofs.Ytchdpjgncojhaaa
