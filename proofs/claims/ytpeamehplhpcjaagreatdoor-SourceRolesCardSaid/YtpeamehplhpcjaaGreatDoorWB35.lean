/- A part of the proofs of the laws of one package; see the law's own text, which comes last in 'order'. No conditions of its own. -/
import Derived.Test.YtpeamehplhpcjaaGreatDoorWB28
import Derived.Test.YtpeamehplhpcjaaGreatDoorWB34
set_option linter.unusedVariables false
set_option linter.unusedSimpArgs false
namespace Go.Proofs.YtpeamehplhpcjaaGreatDoor
open Go.RowKit
theorem sizeS_take {l : List Bs} {k : Nat} (h : k < l.length) : sizeS (l.take (k + 1)) = sizeS (l.take k) + l[k].length := by
  have key : ∀ (a : List Bs) (x : Bs), sizeS (a ++ [x]) = sizeS a + x.length := by
    intro a x
    induction a with
    | nil => simp [sizeS]
    | cons y r ih => simp only [List.cons_append, sizeS, ih]; omega
  rw [List.take_succ_eq_append_getElem h, key]
theorem sizeS_le (m : Nat) : ∀ (l : List Bs), (∀ s ∈ l, s.length ≤ m) → sizeS l ≤ l.length * m := by
  intro l
  induction l with
  | nil => intro _; exact Nat.zero_le _
  | cons x r ih =>
    intro h
    have h1 := h x (by simp)
    have h2 := ih fun s hs => h s (List.mem_cons_of_mem _ hs)
    simp only [sizeS, List.length_cons, Nat.add_mul, Nat.one_mul]
    omega
theorem joinGo_snoc (o : Bs) : ∀ (r : List Bs) (x : Bs), joinGo o (r ++ [x]) = joinGo o r ++ 10 :: x := by
  intro r
  induction r generalizing o with
  | nil => intro x; rfl
  | cons y t ih => intro x; exact ih _ x
theorem joinGo_len (o : Bs) : ∀ (r : List Bs), (joinGo o r).length = o.length + r.length + sizeS r := by
  intro r
  induction r generalizing o with
  | nil => simp [joinGo, sizeS]
  | cons y t ih => simp only [joinGo, ih, sizeS, List.length_append, List.length_cons]; omega
theorem rjoin_cons (a : Bs) (r : List Bs) : rjoinS (a :: r) = if (a :: r).any (fun s => decide ((splitS 10 s).length ≠ 1)) then ([], 1) else if 1024 < (a :: r).length ∨ 65536 < (a :: r).length - 1 + sizeS (a :: r) then ([], 10) else (joinGo a r, 0) := rfl
theorem sliceS1 (A : Option Addr) (n c : Nat) (h1 : 1 ≤ n) (w : World) : (Instr.slice 29 (.slice A n c) (some (.int .i64 1)) none none).run Tryz.prog w = .ok (.slice (cutA A c 1 1) (n - 1) (c - 1)) w := by
  have h1' : (1 : Int) ≤ (n : Int) := by omega
  simp [go_sem, h1', cutA]
set_option maxHeartbeats 4000000 in
theorem rjoin_any (A : Option Addr) (n c : Nat) (w : World) (S : Nat → Prop) (l : List Bs) (hl : Sl w S A n c l) (hlen : l.length ≤ 1024) (hs : ∀ s ∈ l, s.length ≤ 70000) :
    Calls Tryz.prog 67 #[.slice A n c] w fun e w' => e = .returned (.tuple #[.string ⟨(rjoinS l).1.toArray⟩, .int .i64 (rjoinS l).2]) ∧ Below w.heap.size w w' := by
  have hn := hl.len
  have hnc := hl.2.1
  subst hn
  obtain ⟨R, hR⟩ : ∃ R, R = rjoinS l := ⟨_, rfl⟩
  rw [← hR]
  cases l with
  | nil =>
    have HR := Lib.hid (show R = ([], 1) from hR)
    clear hR
    go_enter Tryz.func67, Tryz.ntmps67
    go_wp2_with fail
    go_ret2
    exact ⟨by rw [HR.out]; rfl, Below.refl _ _⟩
  | cons a r =>
    rw [rjoin_cons] at hR
    obtain ⟨b, o, rfl, -, -, h0⟩ := hl.str (k := 0) (by simp)
    have hcut := hl.cut (k := 1) (by simp)
    have hcut2 : Sl w S (cutA (some ⟨b, o, none⟩) c 1 1) r.length (c - 1) r := hcut
    replace h0 : w.cell? ⟨b, o, none⟩ = some (.string ⟨a.toArray⟩) := by simpa using h0
    obtain ⟨l, hle⟩ : ∃ l, l = a :: r := ⟨_, rfl⟩
    obtain ⟨V2, hV2⟩ : ∃ V2 : Bs × Int, V2 = if 1024 < l.length ∨ 65536 < l.length - 1 + sizeS l then ([], 10) else (joinGo a r, 0) := ⟨_, rfl⟩
    rw [← hle, ← hV2] at hR
    rw [← hle] at hl hlen hs
    have hrl : l.length = r.length + 1 := by rw [hle]; rfl
    have hrs : ∀ s ∈ a :: r, s.length ≤ 70000 := by rw [← hle]; exact hs
    have HRS := Lib.hid hrs
    clear hrs
    have hsz := sizeS_le 70000 l hs
    have har : sizeS l = a.length + sizeS r := by rw [hle]; rfl
    have Hf : Hid (R = if (l.drop 0).any (fun s => decide ((splitS 10 s).length ≠ 1)) then ([], 1) else V2) := Lib.hid hR
    have HV2 := Lib.hid hV2; have HSL := Lib.hid hl; have HCUT := Lib.hid hcut2; have HS := Lib.hid hs; have H0 := Lib.hid h0; have HAR := Lib.hid har; have HSZ := Lib.hid hsz
    have hrc : 1 ≤ c := by simp only [List.length_cons] at hnc; omega
    rw [List.length_cons]
    rw [← hrl]
    rw [List.length_cons, ← hrl] at hnc
    have HRL := Lib.hid hrl
    have hl0 : ((l.length : Int) == 0) = false := by rw [beq_eq_false_iff_ne]; omega
    clear hR hV2 hl hcut hcut2 hs h0 hle hsz har hrl
    go_enter Tryz.func67, Tryz.ntmps67
    go_wp2_with fail
    go_loopw [4, 18] (fun m i wr => ∃ k : Nat, k ≤ l.length ∧ i = .int .i64 k ∧ m = .int .i64 ((l.length : Int) - 1 + (sizeS (l.take k) : Nat)) ∧ Below w.heap.size w wr ∧ Hid (R = if (l.drop k).any (fun s => decide ((splitS 10 s).length ≠ 1)) then ([], 1) else V2)) (fun _ i _ => l.length - (intOf i).toNat)
    case atStart => exact ⟨0, by omega, rfl, by simp [sizeS], Below.refl _ _, Hf⟩
    case round =>
      obtain ⟨k, hk, rfl, rfl, hb, hf⟩ := hrel
      by_cases hlt : k < l.length
      · obtain ⟨b', o', he, -, -, h1⟩ := (HSL.out.below hb).str hlt
        cases he
        have hd := hf.out
        rw [drop_get hlt, List.any_cons] at hd
        have hsk := HS.out _ (List.getElem_mem hlt)
        have hst := sizeS_take hlt
        have hsz2 := sizeS_le 70000 (l.take k) (fun s hs => HS.out s (List.mem_of_mem_take hs))
        have hsz3 : sizeS (l.take k) ≤ 71680000 := by rw [List.length_take] at hsz2; have : min k l.length ≤ 1024 := by omega
                                                      have := Nat.mul_le_mul_right 70000 this; omega
        generalize sizeS (l.take k) = z at *
        have HST := Lib.hid hst
        clear hst
        have hsp := fun w => rsplit_any 10 10 rfl l[k] w (by omega)
        generalize hx : l[k] = x at *
        generalize splitS 10 x = ls at *
        have HSP := Lib.hid hsp; have HD := Lib.hid hd; have HB := Lib.hid hb
        clear hsp hd hb hf hsz2 Hf
        go_wp2_with fail
        refine (HSP.out _).mono ?_
        rintro e w1 ⟨A1, c1, rfl, ho, hb1⟩
        have HB1 := Lib.hid (HB.out.trans (hb1.mono HB.out.size))
        clear ho hb1
        by_cases h1n : ls.length = 1
        · have hq : ((ls.length : Int) != 1) = false := by rw [h1n]; rfl
          have hd2 : R = if (l.drop (k + 1)).any (fun s => decide ((splitS 10 s).length ≠ 1)) then ([], 1) else V2 := by rw [HD.out]; simp [h1n]
          have HD2 := Lib.hid hd2
          clear hd2 h1n
          go_wp2_with fail
          go_roundw
          case rel => exact ⟨k + 1, by omega, by go_num, by rw [HST.out]; go_num, HB1.out, HD2⟩
          case measure => simp [intOf]; omega
        · have hq : ((ls.length : Int) != 1) = true := by rw [bne_iff_ne]; omega
          have HD2 := Lib.hid (show R = ([], 1) by rw [HD.out]; simp [h1n])
          clear h1n
          go_wp2_with fail
          go_ret2
          exact ⟨by rw [HD2.out]; rfl, HB1.out⟩
      · obtain rfl : k = l.length := by omega
        have hd := hf.out
        rw [drop_end hlt] at hd
        have hd2 : R = V2 := hd
        have h2 := HV2.out
        have HB := Lib.hid hb
        have har := HAR.out; have hsz := HSZ.out
        have hsz3 : sizeS l ≤ 71680000 := by have := Nat.mul_le_mul_right 70000 hlen; omega
        rw [List.take_length]
        clear hf hd hb Hf
        obtain ⟨z, hz⟩ : ∃ z, z = sizeS l := ⟨_, rfl⟩
        rw [← hz] at h2 hsz3 har ⊢
        have h1024 : ¬ (1024 < l.length) := by omega
        have hrl := HRL.out
        by_cases hbig : (65536 : Int) < (l.length : Int) - 1 + (z : Nat)
        · rw [if_pos (by omega)] at h2
          have HD := Lib.hid (hd2.trans h2)
          clear hd2 h2
          clear hrl
          go_wp2_with fail
          go_ret2
          exact ⟨by rw [HD.out]; rfl, HB.out⟩
        · rw [if_neg (by omega)] at h2
          have HD := Lib.hid (hd2.trans h2)
          clear hd2 h2
          have h0 := HB.out.cell (World.block_lt_of_cell? w _ H0.out) |>.trans H0.out
          have HC2 := Lib.hid (HCUT.out.below HB.out)
          have hjl := joinGo_len a r
          have HJ := Lib.hid (show (joinGo a r).length ≤ 71680000 * 2 by omega)
          have hp0 : 0 < l.length := by omega
          have hp1 : (0 : Int) < (l.length : Int) := by omega
          have hp2 : (1 : Int) ≤ (l.length : Int) := by omega
          have hdl : ((l.length : Int) - 1) = (r.length : Int) := by omega
          have hdn : l.length - 1 = r.length := by omega
          have HDL := Lib.hid hdl; have HDN := Lib.hid hdn
          have Hj : Hid (joinGo a r = joinGo (joinGo a (r.take 0)) (r.drop 0)) := Lib.hid rfl
          clear hz hjl hrl hdl hdn har
          have hs1 := sliceS1 (some ⟨b, o, none⟩) l.length c hp0
          generalize cutA (some (⟨b, o, none⟩ : Addr)) c 1 1 = A2 at *
          go_wp2_with fail
          rw [HDN.out]
          have hrc2 : r.length ≤ l.length := by have := HDN.out; omega
          go_loopw [7, 44] (fun s i wx => ∃ k : Nat, k ≤ r.length ∧ i = .int .i64 k ∧ s = .string ⟨(joinGo a (r.take k)).toArray⟩ ∧ wx = wr) (fun _ i _ => r.length - (intOf i).toNat)
          case atStart => exact ⟨0, by omega, rfl, rfl, rfl⟩
          case round =>
            obtain ⟨k, hk2, rfl, rfl, rfl⟩ := hrel
            by_cases hlr : k < r.length
            · obtain ⟨b', o', rfl, -, -, h1⟩ := HC2.out.str hlr
              have hst := joinGo_snoc a (r.take k) r[k]
              rw [← List.take_succ_eq_append_getElem hlr] at hst
              have hjl := joinGo_len a (r.take k)
              have hs2 := sizeS_le 70000 (r.take k) (fun s hs => HRS.out s (List.mem_cons_of_mem _ (List.mem_of_mem_take hs)))
              have hs3 := HRS.out a (by simp)
              have hs4 := HRS.out r[k] (List.mem_cons_of_mem _ (List.getElem_mem hlr))
              have hs5 : (r.take k).length ≤ 1024 := by rw [List.length_take]; omega
              have hs6 := Nat.mul_le_mul_right 70000 hs5
              have hl1 : ¬ (9223372036854775807 < (joinGo a (r.take k)).length + 1) := by omega
              have hl2 : ¬ (9223372036854775807 < (joinGo a (r.take k)).length + 1 + (r[k]).length) := by omega
              have HST := Lib.hid hst
              clear hst hjl hs2 hs3 hs4 hs5 hs6
              generalize joinGo a (r.take k) = J at *
              generalize r[k] = x at *
              go_wp2_with fail
              go_roundw
              case rel => exact ⟨k + 1, by omega, by go_num, by first | trivial | (rw [HST.out]; done) | (rw [HST.out]; simp), by first | rfl | trivial⟩
              case measure => simp [intOf]; omega
            · obtain rfl : k = r.length := by omega
              rw [List.take_length]
              go_wp2_with fail
              go_ret2
              exact ⟨by rw [HD.out]; first | rfl | simp, HB.out⟩
end Go.Proofs.YtpeamehplhpcjaaGreatDoor
