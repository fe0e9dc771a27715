/- Rules, reference: strata. -/
import Derived.Test.YtjopmgoacncmgaaGreatDoorKW8
import Derived.Test.YtjopmgoacncmgaaGreatDoorKL4
set_option linter.unusedVariables false
set_option linter.unusedSimpArgs false
namespace Go.Proofs.YtjopmgoacncmgaaGreatDoor
open Go.RowKit

def sumL (l : List Int) : Int := l.foldr (· + ·) 0
def InL (lv : List Int) (n : Nat) : Prop := ∀ v ∈ lv, 0 ≤ v ∧ v ≤ n
theorem sumL_set (lv : List Int) : ∀ h v, h < lv.length → sumL (lv.set h v) = sumL lv + (v - lv.getD h 0) := by
  induction lv with
  | nil => intro h v hh; simp at hh
  | cons a r ih =>
    intro h v hh
    cases h with
    | zero => simp [sumL]; omega
    | succ h =>
      have := ih h v (by simpa using hh)
      simp only [sumL, List.set_cons_succ, List.foldr_cons, List.getD_cons_succ] at this ⊢
      omega
theorem InL.sum {lv : List Int} {n : Nat} (h : InL lv n) : 0 ≤ sumL lv ∧ sumL lv ≤ lv.length * n := by
  induction lv with
  | nil => simp [sumL]
  | cons a r ih =>
    have h1 := ih (fun v hv => h v (List.mem_cons_of_mem _ hv))
    have h2 := h a List.mem_cons_self
    simp only [sumL, List.foldr_cons, List.length_cons] at h1 ⊢
    have e : ((r.length + 1 : Nat) : Int) * n = r.length * n + n := by push_cast; rw [Int.add_mul, Int.one_mul]
    rw [e]
    omega
theorem InL.get {lv : List Int} {n : Nat} (h : InL lv n) (i : Nat) : 0 ≤ lv.getD i 0 ∧ lv.getD i 0 ≤ n := by
  rw [List.getD_eq_getElem?_getD]
  rcases Nat.lt_or_ge i lv.length with hl | hg
  · rw [List.getElem?_eq_getElem hl]; exact h _ (List.getElem_mem hl)
  · rw [List.getElem?_eq_none hg]; simp
theorem InL.set {lv : List Int} {n : Nat} (h : InL lv n) (i : Nat) {v : Int} (h0 : 0 ≤ v) (h1 : v ≤ n) : InL (lv.set i v) n := by
  intro x hx
  rcases List.mem_or_eq_of_mem_set hx with hx | hx
  · exact h x hx
  · rw [hx]; exact ⟨h0, h1⟩
theorem rlX_in (names : List Bs) (h : Nat) (body : List Ltl) : ∀ (lv : List Int) (c : Bool) (lv' : List Int) (c' : Bool), lv.length = names.length → h < lv.length → InL lv names.length → rlX names h lv c body = some (lv', c') →
    lv'.length = names.length ∧ InL lv' names.length ∧ sumL lv ≤ sumL lv' ∧ (c = false → c' = true → sumL lv < sumL lv') := by
  induction body with
  | nil =>
    intro lv c lv' c' h1 h2 h3 h4
    simp only [rlX, Option.some.injEq, Prod.mk.injEq] at h4
    obtain ⟨rfl, rfl⟩ := h4
    exact ⟨h1, h3, Int.le_refl _, fun a b => by rw [a] at b; cases b⟩
  | cons x t ih =>
    intro lv c lv' c' h1 h2 h3 h4
    rw [rlX] at h4
    split at h4
    · exact ih lv c lv' c' h1 h2 h3 h4
    · simp only at h4
      have hg := h3.get (atS x.atom.name names 0).toNat
      generalize lv.getD (atS x.atom.name names 0).toNat 0 = g at *
      obtain ⟨z, hz⟩ : ∃ z : Int, z = if x.neg then 1 else 0 := ⟨_, rfl⟩
      rw [← hz] at h4
      have hz0 : 0 ≤ z := by rw [hz]; split <;> omega
      split at h4
      · cases h4
      · rename_i hn
        split at h4
        · rename_i hlt
          have := ih (lv.set h (g + z)) true lv' c' (by simpa using h1) (by simpa using h2) (h3.set h (by omega) (by omega)) h4
          have hs := sumL_set lv h (g + z) h2
          exact ⟨this.1, this.2.1, by omega, fun _ _ => by omega⟩
        · exact ih lv c lv' c' h1 h2 h3 h4
theorem rlR_in (names : List Bs) (l : List Rul) (hk : ∀ r ∈ l, Known names r) : ∀ (lv : List Int) (c : Bool) (lv' : List Int) (c' : Bool), lv.length = names.length → InL lv names.length → rlR names lv c l = some (lv', c') →
    lv'.length = names.length ∧ InL lv' names.length ∧ sumL lv ≤ sumL lv' ∧ (c = false → c' = true → sumL lv < sumL lv') := by
  induction l with
  | nil =>
    intro lv c lv' c' h1 h3 h4
    simp only [rlR, Option.some.injEq, Prod.mk.injEq] at h4
    obtain ⟨rfl, rfl⟩ := h4
    exact ⟨h1, h3, Int.le_refl _, fun a b => by rw [a] at b; cases b⟩
  | cons r t ih =>
    intro lv c lv' c' h1 h3 h4
    rw [rlR] at h4
    obtain ⟨i, hi, -, he⟩ := atS_law r.head.name names 0 (hk r List.mem_cons_self).1
    cases hx : rlX names (atS r.head.name names 0).toNat lv c r.body with
    | none => rw [hx] at h4; cases h4
    | some p =>
      obtain ⟨lv1, c1⟩ := p
      rw [hx] at h4
      simp only at h4
      have g1 := rlX_in names _ r.body lv c lv1 c1 h1 (by rw [he]; simp; omega) h3 hx
      have g2 := ih (fun q hq => hk q (List.mem_cons_of_mem _ hq)) lv1 c1 lv' c' g1.1 g1.2.1 h4
      refine ⟨g2.1, g2.2.1, by omega, fun hc hc' => ?_⟩
      cases c1 with
      | true => have := g1.2.2.2 hc rfl; omega
      | false => have := g2.2.2.2 rfl hc'; omega
theorem rlGo_some (names : List Bs) (l : List Rul) (f : Nat) (lv : List Int) : rlGo names l (f + 1) lv = match rlR names lv false l with
    | none => none
    | some (lv', ch) => if ch then rlGo names l f lv' else some lv' := by rw [rlGo]; rfl
theorem InL.zero (n m : Nat) : InL (List.replicate n 0) m := by
  intro v hv
  rw [List.eq_of_mem_replicate hv]
  omega
theorem sumL_zero (n : Nat) : sumL (List.replicate n 0) = 0 := by
  induction n with
  | zero => rfl
  | succ n ih => rw [List.replicate_succ]; simp only [sumL, List.foldr_cons] at ih ⊢; omega
theorem outL_len (names : List Bs) (lv : List Int) (f : Nat) : ∀ n, (outL names lv f n).length ≤ f := by
  induction f with
  | zero => intro n; exact Nat.le_refl _
  | succ f ih =>
    intro n
    rw [outL]
    have := ih (n + 1)
    split
    · omega
    · simp only [List.length_cons]; omega

/-- The levels of the names, in memory of their own. -/
def LVs (w : World) (g n : Nat) (lv : List Int) : Prop := Own w (fun _ => False) g 3 (some ⟨g, 0, none⟩) n (lv.map fun v => Value.int .i64 v)
theorem LVs.at_ {w : World} {g n : Nat} {lv : List Int} (h : LVs w g n lv) {k : Nat} (hk : k < lv.length) : w.cell? ⟨g, k, none⟩ = some (.int .i64 (lv.getD k 0)) ∧ w.frozen? ⟨g, k, none⟩ = false ∧ g < w.heap.size := by
  obtain ⟨g', hA, -, h3, h4, h5⟩ := Own.at1 h (k := k) (by simpa using hk)
  injection hA with hA
  injection hA with hA
  subst hA
  refine ⟨?_, h5, h3⟩
  rw [h4, List.getElem_map, List.getD_eq_getElem?_getD, List.getElem?_eq_getElem hk]
  rfl
theorem LVs.put {w : World} {g n : Nat} {lv : List Int} (h : LVs w g n lv) {k : Nat} (hk : k < lv.length) (v : Int) : LVs (w.setCell ⟨g, k, none⟩ (.int .i64 v)) g n (lv.set k v) := by
  have := Own.put1 h (k := k) (g := g) (by simpa using hk) rfl (.int .i64 v) rfl
  unfold LVs
  rw [List.map_set]
  exact this

theorem LVs.made {w : World} {g n : Nat} (h : w.ownsRow g 3 1 (.slice (some ⟨g, 0, none⟩) n n) n (madeCells #[.int .i64 0] (n * 1)).toList) : LVs w g n (List.replicate n 0) := by
  unfold LVs
  rw [List.map_replicate]
  rw [toList_madeCells_one, Nat.mul_one] at h
  refine ⟨List.replicate n (.int .i64 0), ?_, fun i hi => ?_⟩
  · rw [List.length_replicate]; exact h
  · show (List.replicate n (Value.int .i64 0)).getD (i * 1 + 0) undef = _ ∧ _
    have hi' : i < n := by simpa using hi
    rw [List.getElem_replicate, List.getD_eq_getElem?_getD, List.getElem?_eq_getElem (by simp; omega), List.getElem_replicate]
    exact ⟨rfl, rfl⟩

def RsPost (w : World) (r : Option (List (List Bs))) (e : Ending) (w' : World) : Prop :=
  Below w.heap.size w w' ∧ ((r = none ∧ e = .returned (.tuple #[.slice none 0 0, .bool false])) ∨ ∃ s A c, r = some s ∧ e = .returned (.tuple #[.slice A s.length c, .bool true]) ∧ Sl w' (fun b => w.heap.size ≤ b) A s.length c s)

set_option maxRecDepth 100000 in
set_option maxHeartbeats 8000000 in
theorem rstrata_any (A : Option Addr) (n c : Nat) (l : List Rul) (w : World) (S : Nat → Prop) (hl : Sl w S A n c l) (hr : ∀ r ∈ l, ruleS r = true) (h64 : l.length ≤ 64) :
    Calls Tryz.prog 62 #[.slice A n c] w (RsPost w (rstrata l)) := by
  have hlen := hl.len
  subst hlen
  have hle := hl.le
  have HL := Lib.hid (hl.wide (S' := fun b => b < w.heap.size) (fun k hk _ => hk) (by decide)); have HALL := Lib.hid hr; clear hl hr
  have Hg : Hid (insNames [] l = insNames [] (l.drop 0)) := rfl
  go_enter Tryz.func62, Tryz.ntmps62
  go_wp2_with fail
  go_loopw [4, 5] (fun nv i wx => ∃ k : Nat, k ≤ l.length ∧ i = .int .i64 k ∧ ∃ (ns : List Bs) (A : Option Addr) (c : Nat), nv = .slice A ns.length c ∧ Sl wx (fun b => w.heap.size ≤ b) A ns.length c ns ∧ ns.length ≤ 5 * k ∧ Below w.heap.size w wx ∧ Hid (insNames [] l = insNames ns (l.drop k))) (fun _ i _ => l.length - (intOf i).toNat)
  case atStart => exact ⟨0, by omega, rfl, [], none, 0, rfl, Sl.nil _ _ _ _ (by decide), by simp, Below.refl _ _, Hg⟩
  case round =>
    obtain ⟨j, hj, rfl, ns, NA, nc, rfl, hns, hnl, hbx, hg⟩ := hrel
    have hwx := hbx.size
    by_cases hlt : j < l.length
    · obtain ⟨b, o, rfl, -, hbs, A1, n1, c1, A2, n2, c2, h1, h2, h3, hs1, hs2⟩ := (HL.out.below hbx).rul hlt
      have hd := hg.out
      rw [drop_get hlt, insNames] at hd
      have hrb := (rule_body (HALL.out _ (List.getElem_mem hlt))).1
      generalize l[j] = x at *
      have hat := ratoms_any x A1 n1 c1 A2 n2 c2 wr _ hs1 hs2 (by omega)
      have hal := atoms_len x
      generalize atomsS x = aa at *
      have HD := Lib.hid hd; have HAT := Lib.hid hat; have HNS := Lib.hid hns
      clear hd hat hs1 hs2 hg hns
      go_wp2_with fail
      refine HAT.out.mono ?_
      rintro e w1 ⟨A3, c3, rfl, hs3, hb3⟩
      have hb30 : Below w.heap.size w w1 := hbx.trans (hb3.mono hwx)
      have hsz3 := hb3.size
      have HB30 := Lib.hid hb30; have HS3 := Lib.hid hs3; have HN1 := Lib.hid (HNS.out.below hb3); clear hb30 hb3 hs3
      obtain ⟨N, hN⟩ : ∃ N, N = aa.foldl (fun n a => insB a.name n) ns := ⟨_, rfl⟩
      have Hk : Hid (N = (aa.drop 0).foldl (fun n a => insB a.name n) ns) := hN
      rw [← hN] at HD
      clear hN
      go_wp2_with fail
      go_loopw [4, 7] (fun nv i wy => ∃ q : Nat, q ≤ aa.length ∧ i = .int .i64 q ∧ ∃ (ms : List Bs) (B : Option Addr) (d : Nat), nv = .slice B ms.length d ∧ Sl wy (fun b => w.heap.size ≤ b) B ms.length d ms ∧ ms.length ≤ ns.length + q ∧ Below w1.heap.size w1 wy ∧ Hid (N = (aa.drop q).foldl (fun n a => insB a.name n) ms)) (fun _ i _ => aa.length - (intOf i).toNat)
      case atStart => exact ⟨0, by omega, rfl, ns, NA, nc, rfl, HN1.out, by omega, Below.refl _ _, Hk⟩
      case round =>
        obtain ⟨q, hq, rfl, ms, B, d, rfl, hms, hml, hby, hgo⟩ := hrel
        have hwy := hby.size
        by_cases hltq : q < aa.length
        · obtain ⟨b2, o2, rfl, -, hbs2, A5, n5, c5, k1, k2, k3⟩ := (HS3.out.below hby).atm hltq
          have hd3 := hgo.out
          rw [drop_get hltq, List.foldl_cons] at hd3
          generalize aa[q] = y at *
          obtain ⟨ynm, yargs⟩ := y
          simp only at k1 k2 k3 hd3
          have hln := insB_le ynm ms
          have hin := insert_any B ms.length d ms ynm wr _ hms (by omega)
          generalize insB ynm ms = ms2 at *
          have HD3 := Lib.hid hd3; have HIN := Lib.hid hin; have HBY := Lib.hid hby
          clear hd3 hin hby hgo k2 k3 hms
          go_wp2_with fail
          refine HIN.out.mono ?_
          rintro e w2 ⟨B2, d2, rfl, hs2, hb2⟩
          go_wp2_with fail
          go_roundw
          case rel => exact ⟨q + 1, by omega, by go_num, _, B2, d2, rfl, hs2.wide (fun z _ hz => hz.elim id (fun h => by omega)) (by decide), by omega, HBY.out.trans (hb2.mono hwy), HD3⟩
          case measure => simp [intOf]; omega
        · have hd3 := hgo.out
          rw [drop_end hltq] at hd3
          have hd3 : N = ms := hd3
          have hdd := HD.out
          rw [hd3] at hdd
          have HDD := Lib.hid hdd
          clear hdd hd3 hgo
          go_wp2_with fail
          go_roundw
          case rel => exact ⟨j + 1, by omega, by go_num, ms, B, d, rfl, hms, by omega, HB30.out.trans (hby.mono HB30.out.size), HDD⟩
          case measure => simp [intOf]; omega
    · have hge := hg.out
      rw [drop_end hlt] at hge
      have hge : insNames [] l = ns := hge
      have hkn := known_all l
      rw [hge] at hkn
      have hns5 : ns.length ≤ 320 := by omega
      have hrs : rstrata l = match rlGo ns l (ns.length * (ns.length + 1) + 2) (List.replicate ns.length 0) with
        | none => none
        | some lv => some (outL ns lv (ns.length + 1) 0) := by unfold rstrata; rw [hge]; rfl
      obtain ⟨FU, hFU⟩ : ∃ FU, FU = ns.length * (ns.length + 1) + 2 := ⟨_, rfl⟩
      rw [← hFU] at hrs
      have hfu : (ns.length * ns.length : Int) + 1 ≤ sumL (List.replicate ns.length 0) + FU := by
        rw [sumL_zero, hFU, Int.natCast_add, Int.natCast_mul, Int.natCast_add, Int.mul_add]
        omega
      obtain ⟨RL, hRL⟩ : ∃ RL, RL = rlGo ns l FU (List.replicate ns.length 0) := ⟨_, rfl⟩
      rw [← hRL] at hrs
      have HRS := Lib.hid hrs; have HKN := Lib.hid hkn; have HFU := Lib.hid hfu; have HNS := Lib.hid hns
      clear hge hg hkn hrs hFU hfu hns
      obtain ⟨i0, hi0, hi1, hi2, hi3⟩ := info_parts (show (Tryz.prog.info? 3).map (fun i => (i.zero, i.size, i.bytes)) = some (some (.int .i64 0), 1, 8) by kernel_rfl)
      have hb2 : i0.bytes * ns.length ≤ 281474976710656 := by rw [hi3]; omega
      have hb3 : ns.length ≤ maxLen := by simp [maxLen]; omega
      go_wp2_with (refine wpList_make_full _ rfl (.tmp 44) (.tmp 44) 142 rfl wr.heap.size 3 i0 (.int .i64 0) 1 Tryz.underlying142 hi0 hi1 hi2 .i64 .i64 _ _ ns.length rfl rfl rfl rfl hb2 hb3 (Nat.le_refl _) ?_; intro wm hrow hgm)
      clear hi0 hi1 hi2 hi3 hb2 hb3
      obtain ⟨gl, hgl⟩ : ∃ gl, gl = wr.heap.size := ⟨_, rfl⟩
      rw [← hgl] at hrow
      have hlv0 := LVs.made hrow
      have hszm : gl < wm.heap.size := (hlv0.lt gl rfl).2
      have hbm : Below w.heap.size w wm := hbx.grown hgm hwx (fun k e => by cases e)
      have hnm : Sl wm (fun b => w.heap.size ≤ b ∧ b < gl) NA ns.length nc ns := (HNS.out.wide (S' := fun b => w.heap.size ≤ b ∧ b < gl) (fun k hk hs => ⟨hs, by omega⟩) (by decide)).keep (fun z hz hs => hgm.block z hz (fun e => by cases e))
      have HLV0 := Lib.hid hlv0; have HBM := Lib.hid hbm; have HNM := Lib.hid hnm
      have hglw : w.heap.size ≤ gl := by omega
      have hnle := hnm.le
      try rw [← hgl]
      clear hrow hgm hlv0 hbm hnm HNS hbx hgl
      have HRL0 : Hid (RL = if true then rlGo ns l FU (List.replicate ns.length 0) else some (List.replicate ns.length 0)) := hRL
      have HFU0 : Hid (true = true → (ns.length * ns.length : Int) + 1 ≤ sumL (List.replicate ns.length 0) + FU) := Lib.hid (fun _ => HFU.out)
      clear hRL
      go_loopg [9] FU (fun gk av wx => ∃ ch lv, av = .bool ch ∧ LVs wx gl ns.length lv ∧ Below w.heap.size w wx ∧ wm.heap.size ≤ wx.heap.size ∧ (∀ z, z < gl → wx.heap[z]? = wm.heap[z]?) ∧ lv.length = ns.length ∧ Hid (InL lv ns.length) ∧ Hid (RL = if ch then rlGo ns l gk lv else some lv) ∧ Hid (ch = true → (ns.length * ns.length : Int) + 1 ≤ sumL lv + gk))
      case atStart => exact ⟨true, _, rfl, HLV0.out, HBM.out, Nat.le_refl _, fun _ _ => rfl, by simp, Lib.hid (InL.zero _ _), HRL0, HFU0⟩
      case round =>
        obtain ⟨ch, lv1, rfl, hlv1, hb1, hsz1, hkp1, hll1, HI1, HL1, HF1⟩ := hrel
        cases ch
        · have hrl := HL1.out
          rw [if_neg (by simp)] at hrl
          have hrs := HRS.out
          rw [hrl] at hrs
          have hrs : rstrata l = some (outL ns lv1 (ns.length + 1) 0) := hrs
          have hol := outL_len ns lv1 (ns.length + 1) 0
          obtain ⟨RS, hRS⟩ : ∃ RS, RS = outL ns lv1 (ns.length + 1) 0 := ⟨_, rfl⟩
          rw [← hRS] at hrs hol
          have HRS2 := Lib.hid hrs
          have HO0 : Hid (RS = [] ++ outL ns lv1 (ns.length + 1 - 0) 0) := hRS
          have hns1 := (HNM.out.keep (w' := wr) (fun z hz hs => hkp1 z hs.2))
          have HN1 := Lib.hid (hns1.wide (S' := fun b => b < wr.heap.size) (fun k hk _ => hk) (by decide)); have HLV1 := Lib.hid hlv1; have HB1 := Lib.hid hb1
          have hw1 := hb1.size
          clear hrl hrs hRS hns1 hlv1 hb1 hkp1 HL1 HF1 HRS HI1 HRL0 HFU0 HLV0
          go_wp2_with fail
          obtain ⟨W3, rfl⟩ : ∃ W3, W3 = wr := ⟨_, rfl⟩
          go_loopw [15, 16] (fun ov i wx => ∃ k : Nat, k ≤ ns.length + 1 ∧ i = .int .i64 k ∧ ∃ (acc : List (List Bs)) (OA : Option Addr) (oc : Nat), ov = .slice OA acc.length oc ∧ Own wx (fun b => W3.heap.size ≤ b) W3.heap.size 42 OA oc acc ∧ acc.length ≤ k ∧ Below W3.heap.size W3 wx ∧ Hid (RS = acc ++ outL ns lv1 (ns.length + 1 - k) k)) (fun _ i _ => ns.length + 1 - (intOf i).toNat)
          case atStart => exact ⟨0, by omega, rfl, [], none, 0, rfl, Own.nil _ _ _ _, by simp, Below.refl _ _, HO0⟩
          case round =>
            obtain ⟨k, hk, rfl, acc, OA, oc, rfl, hown, hal, hb, hf⟩ := hrel
            have hwr := hb.size
            by_cases hkn : k ≤ ns.length
            · have hd := hf.out
              obtain ⟨f, hff⟩ : ∃ f, ns.length + 1 - k = f + 1 := ⟨ns.length - k, by omega⟩
              have hff2 : f = ns.length + 1 - (k + 1) := by omega
              rw [hff, outL] at hd
              obtain ⟨ONE, hONE⟩ : ∃ ONE, ONE = oneL lv1 (k : Int) ns 0 := ⟨_, rfl⟩
              rw [← hONE, hff2] at hd
              have HD := Lib.hid hd
              have HON : Hid (ONE = [] ++ oneL lv1 (k : Int) (ns.drop 0) 0) := hONE
              have HOW := Lib.hid hown; have HB := Lib.hid hb
              have hkI : (k : Int) ≤ (ns.length : Int) := by omega
              clear hd hONE hf hown hb hff hff2
              go_wp2_with fail
              obtain ⟨wo, rfl⟩ : ∃ wo, wo = wr := ⟨_, rfl⟩
              go_loopw [17, 18] (fun ov i wy => ∃ q : Nat, q ≤ ns.length ∧ i = .int .i64 q ∧ ∃ (on : List Bs) (B : Option Addr) (d : Nat), ov = .slice B on.length d ∧ Own wy (fun _ => False) wo.heap.size 9 B d on ∧ on.length ≤ q ∧ Below wo.heap.size wo wy ∧ Hid (ONE = on ++ oneL lv1 (k : Int) (ns.drop q) q)) (fun _ i _ => ns.length - (intOf i).toNat)
              case atStart => exact ⟨0, by omega, rfl, [], none, 0, rfl, Own.nil _ _ _ _, by simp, Below.refl _ _, HON⟩
              case round =>
                obtain ⟨q, hq, rfl, on, B, d, rfl, hon, hnl2, hby, hg⟩ := hrel
                have hwy := hby.size
                have hbw := HB.out.trans (hby.mono hwr)
                by_cases hltq : q < ns.length
                · obtain ⟨b2, o2, rfl, -, hbs2, g1⟩ := (HN1.out.below hbw).str hltq
                  have hd := hg.out
                  rw [drop_get hltq, oneL] at hd
                  have hlc := (show LVs wr gl ns.length lv1 from HLV1.out.below hbw).at_ (k := q) (by omega)
                  have hlc1 := hlc.1
                  generalize ns[q] = nm at *
                  generalize lv1.getD q 0 = lvq at *
                  have HBY := Lib.hid hby; have HON2 := Lib.hid hon
                  clear hg hby hon hlc hbw
                  have hq0 : (0 : Int) ≤ (q : Int) := by omega
                  have hqn : (q : Int) < (ns.length : Int) := by omega
                  by_cases he : lvq = (k : Int)
                  · have heb : (lvq == (k : Int)) = true := by simpa using he
                    rw [if_pos he] at hd
                    have HD2 := Lib.hid (show ONE = (on ++ [nm]) ++ oneL lv1 (k : Int) (ns.drop (q + 1)) (q + 1) by rw [hd]; simp)
                    clear hd
                    subst he
                    go_wp2_with (at_builtin; refine wpList_app1 rfl _ _ eltStr rfl (by decide) rfl rfl rfl (HON2.out.alloc _) rfl [.string ⟨nm.toArray⟩] nm (blkAt _ _ rfl) rfl rfl (by omega) (by omega) (by simp; omega) ?_; intro B2 d2 w5 hown5 hg5 hat5)
                    go_roundw
                    case rel => exact ⟨q + 1, by omega, by go_num, on ++ [nm], B2, d2, by simp, hown5, by simp; omega, (HBY.out.alloc hwy _).grown hg5 (by simp; omega) (fun z hz => (HON2.out.lt z hz).1), HD2⟩
                    case measure => simp [intOf]; omega
                  · have heb : (lvq == (k : Int)) = false := by simpa using he
                    rw [if_neg he] at hd
                    have HD2 := Lib.hid hd
                    clear hd
                    go_wp2_with fail
                    go_roundw
                    case rel => exact ⟨q + 1, by omega, by go_num, on, B, d, rfl, HON2.out, by omega, HBY.out, HD2⟩
                    case measure => simp [intOf]; omega
                · have hd := hg.out
                  rw [drop_end hltq, oneL, List.append_nil] at hd
                  have hdd := HD.out
                  rw [hd] at hdd
                  have howy := HOW.out.below hby
                  have HON2 := Lib.hid hon; have HBY := Lib.hid hby; have HOWY := Lib.hid howy; have HBW := Lib.hid hbw
                  clear hg hd hby hon howy hbw
                  by_cases h0 : 0 < on.length
                  · have h0I : (0 : Int) < (on.length : Int) := by omega
                    have hne : on.isEmpty = false := by cases on with
                      | nil => simp at h0
                      | cons a r => rfl
                    rw [hne, if_neg (by simp)] at hdd
                    have HD2 := Lib.hid (show RS = (acc ++ [on]) ++ outL ns lv1 (ns.length + 1 - (k + 1)) (k + 1) by rw [hdd]; simp)
                    clear hdd hne
                    go_wp2_with (at_builtin; refine wpList_app1 rfl _ _ eltRow rfl (by decide) rfl rfl rfl (HOWY.out.alloc _) rfl [.slice B on.length d] on (blkAt _ _ rfl) rfl ⟨B, on.length, d, rfl, ((HON2.out.alloc _).sl (by decide)).wide (fun z hz hs => by
                      rcases hs with hs | hs
                      · exact False.elim hs
                      · have := (HON2.out.lt z hs).1
                        exact ⟨by omega, HOW.out.ne (by omega)⟩) (by decide), by decide⟩ (by omega) (by omega) (by simp; omega) ?_; intro B2 d2 w5 hown5 hg5 hat5)
                    go_roundw
                    case rel => exact ⟨k + 1, by omega, by go_num, acc ++ [on], B2, d2, by simp, hown5, by simp; omega, (HBW.out.alloc (by omega) _).grown hg5 (by simp; omega) (fun z hz => (HOWY.out.lt z hz).1), HD2⟩
                    case measure => simp [intOf]; omega
                  · have h0I : ¬ (0 : Int) < (on.length : Int) := by omega
                    have hne : on = [] := List.eq_nil_of_length_eq_zero (by omega)
                    subst hne
                    rw [List.isEmpty_nil, if_pos rfl] at hdd
                    have HD2 := Lib.hid hdd
                    clear hdd
                    go_wp2_with fail
                    go_roundw
                    case rel => exact ⟨k + 1, by omega, by go_num, acc, OA, oc, rfl, HOWY.out, by omega, HBW.out, HD2⟩
                    case measure => simp [intOf]; omega
            · have hd := hf.out
              rw [show ns.length + 1 - k = 0 by omega, outL, List.append_nil] at hd
              have hkI : ¬ (k : Int) ≤ (ns.length : Int) := by omega
              have HOW := Lib.hid hown; have HB := Lib.hid hb; have HD := Lib.hid hd
              clear hown hb hd hf
              go_wp2_with fail
              go_ret2
              refine ⟨HB1.out.trans (HB.out.mono hw1), .inr ⟨acc, OA, oc, (by first | (rw [HRS2.out, HD.out]; done) | (have h0 : RS = outL ns lv1 (ns.length + 1) 0 := HO0.out; rw [← h0, HD.out])), rfl, (HOW.out.res).wide (fun z _ hz => by omega) (by decide)⟩⟩
        · have hg1 : 1 ≤ gk := by
            have h1 := HF1.out rfl
            have h2 := (HI1.out.sum).2
            rw [hll1] at h2
            omega
          obtain ⟨f, rfl⟩ : ∃ f, gk = f + 1 := ⟨gk - 1, by omega⟩
          have hl1 := HL1.out
          rw [if_pos rfl, rlGo_some] at hl1
          have HLR := Lib.hid hl1; clear hl1
          have HC0 : Hid (rlR ns lv1 false l = rlR ns lv1 false (l.drop 0)) := rfl
          have HLV1 := Lib.hid hlv1; have HB1 := Lib.hid hb1; have HKP1 := Lib.hid hkp1
          clear hlv1 hb1 hkp1
          go_wp2_with fail
          go_loopw [9, 10] (fun av i wx => ∃ k : Nat, k ≤ l.length ∧ i = .int .i64 k ∧ ∃ ag lvC, av = .bool ag ∧ LVs wx gl ns.length lvC ∧ Below w.heap.size w wx ∧ wm.heap.size ≤ wx.heap.size ∧ (∀ z, z < gl → wx.heap[z]? = wm.heap[z]?) ∧ lvC.length = ns.length ∧ Hid (InL lvC ns.length) ∧ Hid (rlR ns lv1 false l = rlR ns lvC ag (l.drop k))) (fun _ i _ => l.length - (intOf i).toNat)
          case atStart => exact ⟨0, by omega, rfl, false, lv1, rfl, HLV1.out, HB1.out, hsz1, HKP1.out, hll1, HI1, HC0⟩
          case round =>
            obtain ⟨k, hk, rfl, ag, lvC, rfl, hlvC, hbC, hszC, hkpC, hllC, HIC, HCC⟩ := hrel
            have hwC := hbC.size
            by_cases hlt3 : k < l.length
            · obtain ⟨b, o, rfl, -, hbs, A1, n1, c1, A2, n2, c2, h1, h2, h3, hs1, hs2⟩ := HL.out.rul hlt3
              have hd := HCC.out
              rw [drop_get hlt3, rlR] at hd
              obtain ⟨hkh, hkb⟩ := HKN.out _ (List.getElem_mem hlt3)
              generalize l[k] = x at *
              have hn2 := hs2.len
              subst hn2
              have hle2 := hs2.le
              obtain ⟨⟨xnm, xargs⟩, body⟩ := x
              simp only at h1 h2 h3 hs1 hs2 hd hkh hkb hle2
              obtain ⟨hI, hIl, -, hIe⟩ := atS_law xnm ns 0 hkh
              rw [Nat.zero_add] at hIe
              rw [hIe, Int.toNat_natCast] at hd
              have hra := rat_any NA ns.length nc ns xnm wr _ (HNM.out.keep (w' := wr) (fun z hz hs => hkpC z hs.2))
              rw [hIe] at hra
              have HX4 := Lib.hid (fun (z : World) (hz : Below w.heap.size w z) => And.intro (cell_later hz h1) (cell_later hz h3))
              have HS2 := Lib.hid (hs2.wide (S' := fun b => b < w.heap.size) (fun k hk _ => hk) (by decide)); have HD := Lib.hid hd; have HRA := Lib.hid hra; have HKB := Lib.hid hkb; have HLVC := Lib.hid hlvC; have HBC := Lib.hid hbC; have HKPC := Lib.hid hkpC
              obtain ⟨e1, e3⟩ := HX4.out _ hbC
              clear hd hs1 hs2 h1 h2 h3 hra hkb hkh hIe hlvC hbC hkpC
              go_wp2_with fail
              refine HRA.out.mono ?_
              rintro e w' ⟨rfl, rfl⟩
              have HX0 : Hid (rlX ns hI lvC ag body = rlX ns hI lvC ag (body.drop 0)) := rfl
              clear e1 e3
              go_wp2_with fail
              go_loopw [9, 12] (fun av i wy => ∃ q : Nat, q ≤ body.length ∧ i = .int .i64 q ∧ ∃ ag2 lv2, av = .bool ag2 ∧ LVs wy gl ns.length lv2 ∧ Below w.heap.size w wy ∧ wm.heap.size ≤ wy.heap.size ∧ (∀ z, z < gl → wy.heap[z]? = wm.heap[z]?) ∧ lv2.length = ns.length ∧ Hid (InL lv2 ns.length) ∧ Hid (rlX ns hI lvC ag body = rlX ns hI lv2 ag2 (body.drop q))) (fun _ i _ => body.length - (intOf i).toNat)
              case atStart => exact ⟨0, by omega, rfl, ag, lvC, rfl, HLVC.out, HBC.out, hszC, HKPC.out, hllC, HIC, HX0⟩
              case round =>
                obtain ⟨q, hq, rfl, ag2, lv2, rfl, hlv2, hb2, hsz2, hkp2, hll2, HI2, HX⟩ := hrel
                have hw2 := hb2.size
                obtain ⟨e1, e3⟩ := HX4.out _ hb2
                by_cases hltq : q < body.length
                · obtain ⟨b3, o3, rfl, -, hbs3, A5, n5, c5, k0, k1, k2, k3, -⟩ := (HS2.out.below hb2).ltl hltq
                  have hd3 := HX.out
                  rw [drop_get hltq, rlX] at hd3
                  have hkx := HKB.out _ (List.getElem_mem hltq)
                  generalize body[q] = y at *
                  obtain ⟨neg, op, ⟨ynm, yargs⟩⟩ := y
                  simp only [compsS] at k0 k1 k2 k3 hd3 hkx
                  have HKP2 := Lib.hid hkp2; have HB2 := Lib.hid hb2; have HLV2 := Lib.hid hlv2
                  clear HX hkp2 hb2 hlv2
                  cases op with
                  | cons c1 c2 =>
                    have hob : ((c1 :: c2 : Bs) == []) = false := rfl
                    have HD3 := Lib.hid (show rlX ns hI lvC ag body = rlX ns hI lv2 ag2 (body.drop (q + 1)) by rw [hd3]; simp)
                    clear hd3 hkx
                    go_wp2_with fail
                    go_roundw
                    case rel => exact ⟨q + 1, by omega, by go_num, ag2, lv2, rfl, HLV2.out.alloc _, HB2.out.alloc hw2 _, by simp; omega, fun z hz => (Below.heap_alloc _ _ z (by omega)).trans (HKP2.out z hz), hll2, HI2, HD3⟩
                    case measure => simp [intOf]; omega
                  | nil =>
                    simp only [List.isEmpty_nil, Bool.not_true, Bool.false_eq_true, if_false] at hd3
                    obtain ⟨jI, jIl, -, jIe⟩ := atS_law ynm ns 0 (hkx rfl)
                    rw [Nat.zero_add] at jIe
                    rw [jIe, Int.toNat_natCast] at hd3
                    have hgj := HI2.out.get jI
                    have hgh := HI2.out.get hI
                    have C := fun (z : World) (hz : LVs z gl ns.length lv2) => And.intro (hz.at_ (k := jI) (by omega)).1 (hz.at_ (k := hI) (by omega))
                    have hra := rat_any NA ns.length nc ns ynm (wr.alloc (.cells #[.bool neg, .string ⟨#[]⟩, .string ⟨ynm.toArray⟩, .slice A5 n5 c5] 54)) _ ((HNM.out.keep (w' := wr) (fun z hz hs => HKP2.out z hs.2)).alloc _)
                    rw [jIe] at hra
                    obtain ⟨Cj, Ch, Cf, -⟩ := C _ (HLV2.out.alloc (.cells #[.bool neg, .string ⟨#[]⟩, .string ⟨ynm.toArray⟩, .slice A5 n5 c5] 54))
                    have hset := fun v => (show LVs (wr.alloc (.cells #[.bool neg, .string ⟨#[]⟩, .string ⟨ynm.toArray⟩, .slice A5 n5 c5] 54)) gl ns.length lv2 from HLV2.out.alloc _).put (k := hI) (by omega) v
                    have y0 := (cell_blk (blkAt wr (.cells #[.bool neg, .string ⟨#[]⟩, .string ⟨ynm.toArray⟩, .slice A5 n5 c5] 54) rfl) 0).trans rfl
                    have j0 : (0 : Int) ≤ (jI : Int) := by omega
                    have j1 : (jI : Int) < (ns.length : Int) := by omega
                    have i0 : (0 : Int) ≤ (hI : Int) := by omega
                    have i1 : (hI : Int) < (ns.length : Int) := by omega
                    generalize lv2.getD jI 0 = vj at *
                    generalize lv2.getD hI 0 = vh at *
                    have HRA := Lib.hid hra; have HSET := Lib.hid hset
                    clear C hra hset hkx jIe
                    cases neg
                    · replace hd3 : rlX ns hI lvC ag body = if vj > (ns.length : Int) then none else if vh < vj then rlX ns hI (lv2.set hI (vj)) true (body.drop (q + 1)) else rlX ns hI lv2 ag2 (body.drop (q + 1)) := by rw [hd3]; simp
                      have hgt : ¬ (vj > (ns.length : Int)) := by omega
                      rw [if_neg hgt] at hd3
                      by_cases hvl : vh < vj
                      · rw [if_pos hvl] at hd3
                        have HD3 := Lib.hid hd3; clear hd3
                        go_wp2_with fail
                        refine HRA.out.mono ?_
                        rintro e w' ⟨rfl, rfl⟩
                        go_wp2_with fail
                        go_roundw
                        case rel => exact ⟨q + 1, by omega, by go_num, true, lv2.set hI (vj), rfl, HSET.out _, (HB2.out.alloc hw2 _).setCell (p := ⟨gl, hI, none⟩) hglw _, by simp [World.setCell]; omega, fun z hz => (set_other _ _ _ _ _ (by omega)).trans ((Below.heap_alloc _ _ z (by omega)).trans (HKP2.out z hz)), by simpa using hll2, Lib.hid (HI2.out.set hI (by omega) (by omega)), HD3⟩
                        case measure => simp [intOf]; omega
                      · rw [if_neg hvl] at hd3
                        have HD3 := Lib.hid hd3; clear hd3
                        go_wp2_with fail
                        refine HRA.out.mono ?_
                        rintro e w' ⟨rfl, rfl⟩
                        go_wp2_with fail
                        go_roundw
                        case rel => exact ⟨q + 1, by omega, by go_num, ag2, lv2, rfl, HLV2.out.alloc _, HB2.out.alloc hw2 _, by simp; omega, fun z hz => (Below.heap_alloc _ _ z (by omega)).trans (HKP2.out z hz), hll2, HI2, HD3⟩
                        case measure => simp [intOf]; omega
                    · replace hd3 : rlX ns hI lvC ag body = if vj + 1 > (ns.length : Int) then none else if vh < vj + 1 then rlX ns hI (lv2.set hI (vj + 1)) true (body.drop (q + 1)) else rlX ns hI lv2 ag2 (body.drop (q + 1)) := by rw [hd3]; simp
                      have hwv : IntKind.i64.wrap (vj + 1) = vj + 1 := by simp [IntKind.wrap, IntKind.signed, IntKind.bits]; omega
                      by_cases hgt : vj + 1 > (ns.length : Int)
                      · rw [if_pos hgt] at hd3
                        have hd := HD.out
                        rw [hd3] at hd
                        have hlr := HLR.out
                        rw [hd] at hlr
                        have hlr : RL = none := hlr
                        have hrs := HRS.out
                        rw [hlr] at hrs
                        have HRN : Hid (rstrata l = none) := hrs
                        clear hd3 hd hlr hrs
                        go_wp2_with fail
                        refine HRA.out.mono ?_
                        rintro e w' ⟨rfl, rfl⟩
                        go_wp2_with fail
                        go_ret2
                        exact ⟨HB2.out.alloc hw2 _, .inl ⟨HRN.out, rfl⟩⟩
                      · rw [if_neg hgt] at hd3
                        by_cases hvl : vh < vj + 1
                        · rw [if_pos hvl] at hd3
                          have HD3 := Lib.hid hd3; clear hd3
                          go_wp2_with fail
                          refine HRA.out.mono ?_
                          rintro e w' ⟨rfl, rfl⟩
                          go_wp2_with fail
                          go_roundw
                          case rel => exact ⟨q + 1, by omega, by go_num, true, lv2.set hI (vj + 1), rfl, HSET.out _, (HB2.out.alloc hw2 _).setCell (p := ⟨gl, hI, none⟩) hglw _, by simp [World.setCell]; omega, fun z hz => (set_other _ _ _ _ _ (by omega)).trans ((Below.heap_alloc _ _ z (by omega)).trans (HKP2.out z hz)), by simpa using hll2, Lib.hid (HI2.out.set hI (by omega) (by omega)), HD3⟩
                          case measure => simp [intOf]; omega
                        · rw [if_neg hvl] at hd3
                          have HD3 := Lib.hid hd3; clear hd3
                          go_wp2_with fail
                          refine HRA.out.mono ?_
                          rintro e w' ⟨rfl, rfl⟩
                          go_wp2_with fail
                          go_roundw
                          case rel => exact ⟨q + 1, by omega, by go_num, ag2, lv2, rfl, HLV2.out.alloc _, HB2.out.alloc hw2 _, by simp; omega, fun z hz => (Below.heap_alloc _ _ z (by omega)).trans (HKP2.out z hz), hll2, HI2, HD3⟩
                          case measure => simp [intOf]; omega
                · have hx := HX.out
                  rw [drop_end hltq] at hx
                  have hx : rlX ns hI lvC ag body = some (lv2, ag2) := hx
                  have hd := HD.out
                  rw [hx] at hd
                  have HD4 := Lib.hid hd
                  clear hd hx
                  go_wp2_with fail
                  go_roundw
                  case rel => exact ⟨k + 1, by omega, by go_num, ag2, lv2, rfl, hlv2, hb2, by omega, hkp2, hll2, HI2, HD4⟩
                  case measure => simp [intOf]; omega
            · have hd := HCC.out
              rw [drop_end hlt3] at hd
              have hd : rlR ns lv1 false l = some (lvC, ag) := hd
              have hli := rlR_in ns l HKN.out lv1 false lvC ag hll1 HI1.out hd
              have hlr := HLR.out
              rw [hd] at hlr
              have hlr : RL = if ag then rlGo ns l f lvC else some lvC := hlr
              have hsum : ag = true → (ns.length * ns.length : Int) + 1 ≤ sumL lvC + f := by
                intro ha
                have h1 := HF1.out trivial
                have h2 := hli.2.2.2 rfl ha
                omega
              have HLR2 := Lib.hid hlr; have HSUM := Lib.hid hsum
              clear hd hli hlr hsum
              go_wp2_with fail
              go_roundg f
              case measure => omega
              case rel => exact ⟨ag, lvC, rfl, hlvC, hbC, hszC, hkpC, hllC, HIC, HLR2, HSUM⟩
end Go.Proofs.YtjopmgoacncmgaaGreatDoor
