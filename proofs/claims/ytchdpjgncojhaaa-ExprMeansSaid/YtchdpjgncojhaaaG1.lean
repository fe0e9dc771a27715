/- append of a whole slice to a slice that the call owns; a text's tokens with its level. -/
import Derived.Test.YtchdpjgncojhaaaF4
import Derived.Deep.Upon
set_option linter.unusedVariables false
set_option linter.unusedSimpArgs false
namespace Go.Proofs.Ytchdpjgncojhaaa
open Go.RowKit

section
variable {α : Type} [GoT α] {w w' : World} {T S : Nat → Prop} {base e : Nat} {A B : Option Addr} {c n : Nat} {xs ys : List α}

theorem Sl.cells {ad : Addr} (h : Sl w S (some ad) n c ys) (hz : 0 < GoT.size α) : ∃ news : List Value, news.length = n * GoT.size α ∧ (∀ j u, news[j]? = some u → w.cell? (ad.add j) = some u) ∧ (∀ u ∈ news, u.oneCell' = true) ∧
    ∀ i (_ : i < ys.length), GoT.rd w S (fun j => news.getD (i * GoT.size α + j) undef) ys[i] := by
  have hl := h.1
  have hat : ∀ k, k < n * GoT.size α → ∃ u, w.cell? (ad.add k) = some u ∧ u.oneCell' = true := by
    intro k hk
    have hi : k / GoT.size α < ys.length := by rw [← hl]; exact Nat.div_lt_of_lt_mul (by rwa [Nat.mul_comm])
    obtain ⟨a, hA, hS, g, hc, hr⟩ := h.at_ hi
    injection hA with hA
    subst hA
    have hm := Nat.mod_lt k hz
    have := hc _ hm
    rw [Nat.mul_comm, Nat.div_add_mod] at this
    exact ⟨_, this, GoT.one hr _ hm⟩
  refine ⟨(List.range (n * GoT.size α)).map (fun k => (w.cell? (ad.add k)).getD undef), by simp, fun j u hj => ?_, fun u hu => ?_, fun i hi => ?_⟩
  · rw [List.getElem?_map] at hj
    rcases Nat.lt_or_ge j (n * GoT.size α) with hlt | hge
    · rw [List.getElem?_range hlt] at hj
      obtain ⟨v, hv, _⟩ := hat j hlt
      simp only [Option.map_some, hv, Option.getD_some, Option.some.injEq] at hj
      rw [hv, hj]
    · rw [List.getElem?_eq_none (by simpa using hge)] at hj
      cases hj
  · obtain ⟨k, hk, rfl⟩ := List.mem_map.1 hu
    obtain ⟨v, hv, h1⟩ := hat k (List.mem_range.1 hk)
    rw [hv]
    exact h1
  · obtain ⟨a, hA, hS, g, hc, hr⟩ := h.at_ hi
    injection hA with hA
    subst hA
    refine GoT.same (fun j hj => ?_) hr
    have hlt : i * GoT.size α + j < n * GoT.size α := by
      have : (i + 1) * GoT.size α ≤ n * GoT.size α := Nat.mul_le_mul_right _ (by omega)
      rw [Nat.add_mul, Nat.one_mul] at this
      omega
    rw [List.getD_eq_getElem?_getD, List.getElem?_map, List.getElem?_range hlt]
    simp [hc j hj]

theorem run_appN {t size bytes : Nat} (he : Elt t e size bytes) (hsz : GoT.size α = size) (hz : 0 < size) (ty : TypeId) (hown : Own w T base e A c xs) {m c0 : Nat}
    (hs : Sl w (fun b => T b ∧ A.map Addr.block ≠ some b) B m c0 ys)
    (h63 : xs.length + m ≤ 9223372036854775807) (hbytes : (xs.length + m) * bytes ≤ 140737488355328) (hbase : base ≤ w.heap.size) :
    ∃ A' c' w', (Builtin.append_ #[t, t] ty #[.slice A xs.length c, .slice B m c0]).run Try.prog w = .ok (.slice A' (xs.length + m) c') w' ∧ Own w' T base e A' c' (xs ++ ys) ∧ w.grownBy w' (A.map Addr.block) ∧
      (A'.map Addr.block = A.map Addr.block ∨ A'.map Addr.block = some w.heap.size) := by
  subst hsz
  obtain ⟨i, z, hi, hzr, hsi, hby, hzs⟩ := he.info
  have hm := hs.1
  cases B with
  | none =>
    have hm0 : m = 0 := by
      rcases Nat.eq_zero_or_pos m with h0 | hpos
      · exact h0
      · obtain ⟨a, hA, _⟩ := hs.at_ (k := 0) (by omega)
        cases hA
    subst hm0
    have hy : ys = [] := List.eq_nil_of_length_eq_zero hm.symm
    subst hy
    have hr := run_append_nothing (P := Try.prog) w t t ty e i he.und hi A xs.length c hown.cap.1 (.slice none 0 c0) (Src.ofNil w he.und c0)
    exact ⟨A, c, w, hr, by simpa using hown, ⟨rfl, rfl, rfl, Nat.le_refl _, fun _ _ _ => rfl⟩, .inl rfl⟩
  | some ad =>
    obtain ⟨cs, hcl, hcell, h1, hrd2⟩ := hs.cells hz
    obtain ⟨ks, hrow, hrd⟩ := hown
    obtain ⟨v', w', hr, h2, h3, h4, h5⟩ := run_append_own_at (P := Try.prog) w base t ty e i z (GoT.size α) bytes he.und hi hzr hsi hby hzs hz _ xs.length ks hrow ad m c0 cs hcl hcell h1 (by simpa [maxLen] using h63) hbytes hbase
    rw [ownBlock_slice] at h3 h5
    have hform : ∃ A' c', v' = .slice A' (xs.length + m) c' := by
      rcases h2.2 with ⟨hv, h0⟩ | ⟨g, cap, cur, hv, _⟩
      · exact ⟨none, 0, by rw [hv, h0]⟩
      · exact ⟨_, _, hv⟩
    obtain ⟨A', c', rfl⟩ := hform
    rw [ownBlock_slice] at h5
    refine ⟨A', c', w', hr, ⟨ks ++ cs, by rw [List.length_append, ← hm]; exact h2, ?_⟩, h3, h5⟩
    have hkl : ks.length = xs.length * GoT.size α := hrow.1
    have hkeep : ∀ {g : Nat → Value} {y : α}, GoT.rd w (fun b => T b ∧ A.map Addr.block ≠ some b) g y → GoT.rd w' (fun b => T b ∧ A'.map Addr.block ≠ some b) g y := by
      intro g y hy
      have hy' : GoT.rd w (fun b => (T b ∧ A.map Addr.block ≠ some b) ∧ A'.map Addr.block ≠ some b) g y := by
        refine GoT.wide (fun k hk hT => ⟨hT, ?_⟩) hy
        rcases h5 with h5 | h5
        · rw [h5]; exact hT.2
        · rw [h5]; intro e; injection e; omega
      have hy2 : GoT.rd w' (fun b => (T b ∧ A.map Addr.block ≠ some b) ∧ A'.map Addr.block ≠ some b) g y := GoT.keep (fun k hk hT => h3.block k hk (fun e => hT.1.2 e.symm)) hy'
      exact GoT.wide (fun k _ hk => ⟨hk.1.1, hk.2⟩) hy2
    intro i hi
    rcases Nat.lt_or_ge i xs.length with hlt | hge
    · rw [List.getElem_append_left hlt]
      refine GoT.same (fun j hj => ?_) (hkeep (hrd i hlt))
      have : i * GoT.size α + j < ks.length := by
        rw [hkl]
        have : (i + 1) * GoT.size α ≤ xs.length * GoT.size α := Nat.mul_le_mul_right _ hlt
        rw [Nat.add_mul, Nat.one_mul] at this
        omega
      rw [List.getD_eq_getElem?_getD, List.getD_eq_getElem?_getD, List.getElem?_append_left this]
    · have hi2 : i - xs.length < ys.length := by rw [List.length_append] at hi; omega
      rw [List.getElem_append_right hge]
      refine GoT.same (fun j hj => ?_) (hkeep (hrd2 (i - xs.length) hi2))
      have hmul : (i - xs.length) * GoT.size α = i * GoT.size α - xs.length * GoT.size α := Nat.sub_mul _ _ _
      have hle : xs.length * GoT.size α ≤ i * GoT.size α := Nat.mul_le_mul_right _ hge
      have hidx : i * GoT.size α + j - ks.length = (i - xs.length) * GoT.size α + j := by rw [hkl, hmul]; omega
      rw [List.getD_eq_getElem?_getD, List.getD_eq_getElem?_getD, List.getElem?_append_right (by omega), hidx]

theorem wpList_appN {ops : Array Oper} {rest : List Oper} {o : Oper} {a : Act} {Q : Exit → Act → World → Prop} (hgd : o.guard = none) (s x : Operand) {t size bytes : Nat} (he : Elt t e size bytes) (hsz : GoT.size α = size) (hz : 0 < size)
    (ho : o.op = .call { callee := .builtin .append, args := #[s, x], argTypes := #[t, t] }) {n : Nat} (hs : a.eval s = .slice A n c) (hn : n = xs.length) (hown : Own w T base e A c xs)
    {m c0 : Nat} (hx : a.eval x = .slice B m c0) (hsl : Sl w (fun b => T b ∧ A.map Addr.block ≠ some b) B m c0 ys)
    (h63 : xs.length + m ≤ 9223372036854775807) (hbytes : (xs.length + m) * bytes ≤ 140737488355328) (hbase : base ≤ w.heap.size)
    (h : ∀ A' c' w', Own w' T base e A' c' (xs ++ ys) → w.grownBy w' (A.map Addr.block) → (A'.map Addr.block = A.map Addr.block ∨ A'.map Addr.block = some w.heap.size) → wpList Try.prog ops Q rest (a.put o.dst (.slice A' (n + m) c')) w') :
    wpList Try.prog ops Q (o :: rest) a w := by
  subst hn
  refine wpList_plain hgd fun K hK => ?_
  obtain ⟨A', c', w', hr, h2, h3, h4⟩ := run_appN he hsz hz o.type hown hsl h63 hbytes hbase
  unfold Oper.wp execOp
  simp only [ho, resolve, invoke, builtin, Sem.run_bind, Sem.run_pure, Result.andThen_ok, List.map_toArray, List.map_cons, List.map_nil, hs, hx, hr]
  exact hK _ _ (h A' c' w' h2 h3 h4)
end

/-- expr.text and licitref08.part: tokens with a level. -/
structure Txt where
  toks : List Tok
  lev : Int
  deriving DecidableEq, Repr, Inhabited

instance : GoT Txt where
  size := 2
  rd := fun w S g x => (∃ A n c, g 0 = .slice A n c ∧ Sl w S A n c x.toks) ∧ g 1 = .int .i64 x.lev
  keep := fun hk ⟨⟨A, n, c, e, h⟩, h1⟩ => ⟨⟨A, n, c, e, h.keep hk⟩, h1⟩
  wide := fun hk ⟨⟨A, n, c, e, h⟩, h1⟩ => ⟨⟨A, n, c, e, h.wide hk (by decide)⟩, h1⟩
  same := fun hg ⟨⟨A, n, c, e, h⟩, h1⟩ => ⟨⟨A, n, c, (hg 0 (by omega)).trans e, h⟩, (hg 1 (by omega)).trans h1⟩
  one := fun ⟨⟨A, n, c, e, _⟩, h1⟩ j hj => by match j, hj with
                                             | 0, _ => rw [e]; rfl
                                             | 1, _ => rw [h1]; rfl

theorem eltTxt : Elt 65 69 2 32 := .mk' (z := .agg #[.slice none 0 0, .int .i64 0]) (by kernel_rfl) (by kernel_rfl) rfl
theorem eltPart : Elt 76 78 2 32 := .mk' (z := .agg #[.slice none 0 0, .int .i64 0]) (by kernel_rfl) (by kernel_rfl) rfl

theorem Sl.txt {w : World} {S : Nat → Prop} {A : Option Addr} {n c k : Nat} {xs : List Txt} (h : Sl w S A n c xs) (hk : k < xs.length) : ∃ b o, A = some ⟨b, o, none⟩ ∧ S b ∧ b < w.heap.size ∧
    ∃ A' n' c', w.cell? ⟨b, o + k * 2, none⟩ = some (.slice A' n' c') ∧ w.cell? ⟨b, o + k * 2 + 1, none⟩ = some (.int .i64 xs[k].lev) ∧ Sl w S A' n' c' xs[k].toks := by
  obtain ⟨b, o, hA, hS, hb, g, hc, ⟨A', n', c', h0, hs⟩, h1⟩ := h.plain (by decide) hk
  have c0 := hc 0 (by decide)
  have c1 := hc 1 (by decide)
  rw [h0] at c0; rw [h1] at c1
  exact ⟨b, o, hA, hS, hb, A', n', c', c0, c1, hs⟩
end Go.Proofs.Ytchdpjgncojhaaa
