/- A part of the proofs of the laws of one package; see the law's own text, which comes last in 'order'. No conditions of its own. -/
import Derived.Test.YtpeamehplhpcjaaGreatDoorZ08
import Derived.Test.YtpeamehplhpcjaaGreatDoorZ16
set_option linter.unusedVariables false
set_option linter.unusedSimpArgs false
namespace Go.Proofs.YtpeamehplhpcjaaGreatDoor
open Go.RowKit
def TOk (t : List Fil) : Prop := ∀ f ∈ t, f.path.length ≤ 128 ∧ f.data.length ≤ 65536
def LOk (l : List Bs) : Prop := l.length ≤ 1024 ∧ ∀ x ∈ l, x.length ≤ 65536
def nestS (t : List Fil) : Nat → Option Grp
  | 0 => none
  | d + 1 => some (groupS t d)
theorem group_nest (t : List Fil) (d : Nat) (p : Bs) (l : List Bs) (fr tq : Nat) (s : Sst) : groupS t d p l fr tq s = loopS t (nestS t d) p l tq (tq - fr) fr s := by cases d <;> rfl
def gMx : Nat := 0
theorem LS.out {W W1 : World} {M M1 : Nat → Prop} {B : Nat} (h : LS W) (hB : gMx < B) (ho : ∀ k, M k → B ≤ k) (o : ScOut W M W1 M1) : LS W1 := by
  obtain ⟨m, hm⟩ := h.mxl
  have hlt := World.block_lt_of_cell? W _ hm
  exact ⟨m, (World.cell?_of_block (o.2.block gMx hlt (fun hk => by have := ho _ hk; omega))).trans hm⟩
def FileOk (d : Nat) (t : List Fil) (B : Nat) : Prop := ∀ (W : World) (M : Nat → Prop) (g : Nat) (s : Sst) (p : Bs) (A : Option Addr) (n c : Nat) (l : List Bs), ScW W M B g t s → StI s → s.opn.length + d ≤ 24 → LS W → p.length ≤ 1000 → Sl W (fun k => ¬ M k) A n c l → LOk l →
  Calls Tryz.prog 47 #[.pointer (some ⟨g, 0, none⟩), .string ⟨p.toArray⟩, .slice A n c, .int .i64 (24 - (d : Int))] W (ScR W M B g t (fileS (groupS t d) p l s))
def GrpOk (d : Nat) (t : List Fil) (B : Nat) : Prop := ∀ (W : World) (M : Nat → Prop) (g : Nat) (s : Sst) (p : Bs) (A : Option Addr) (n c : Nat) (l : List Bs) (fr tq : Nat), ScW W M B g t s → StI s → s.opn.length + d ≤ 25 → LS W → p.length ≤ 1000 → Sl W (fun k => ¬ M k) A n c l → LOk l → fr ≤ tq → tq ≤ l.length →
  Calls Tryz.prog 87 #[.pointer (some ⟨g, 0, none⟩), .string ⟨p.toArray⟩, .slice A n c, .int .i64 fr, .int .i64 tq, .int .i64 (24 - (d : Int))] W (ScR W M B g t (groupS t d p l fr tq s))
theorem cut_head (c : UInt8) (s : Bs) : (Lib.cut s [c]).1 = (splitS c s).headD [] := by
  unfold Lib.cut
  rw [Lib.index_one]
  rcases ixb c s with ⟨h1, h2⟩ | ⟨a, b, h1, h2, h3⟩
  · rw [h1, split_no c s (by rw [← Bool.not_eq_true, List.contains_iff_mem]; exact fun hm => h2 c hm rfl)]
    simp
  · rw [h2, h1, split_line c a b h3]
    simp
theorem cut47_any (s : Bs) (w : World) (hL : LS w) (hs : s.length ≤ 4294967000) :
    Calls Tryz.prog 195 #[.string ⟨s.toArray⟩, .string ⟨#[47]⟩] w fun e w' => (∃ (b : Bs) (c : Bool), e = .returned (.tuple #[.string ⟨((splitS 47 s).headD []).toArray⟩, .string ⟨b.toArray⟩, .bool c])) ∧ Below w.heap.size w w' := by
  obtain ⟨m, hm⟩ := hL.mxl
  refine (Tryz.strings_Cut ⟨s.toArray⟩ ⟨#[47]⟩ m w (by simp [ByteArray.size]; omega) hm).mono ?_
  rintro e w' ⟨rfl, n, rfl⟩
  refine ⟨⟨(Lib.cut s [47]).2.1, (Lib.cut s [47]).2.2, ?_⟩, dN (Below.refl _ _) n⟩
  rw [← cut_head 47 s]
theorem head_len (c : UInt8) (s : Bs) : ((splitS c s).headD []).length ≤ s.length := by
  have h := (split_lens c s).1
  cases hs : splitS c s with
  | nil => simp
  | cons a r => rw [hs] at h; exact h a (by simp)
theorem find_ok {t : List Fil} (hT : TOk t) {q d : Bs} (h : findT t q = some d) : q.length ≤ 128 ∧ d.length ≤ 65536 := by
  unfold findT at h
  cases hx : t.find? (fun f => f.path == q) with
  | none => rw [hx] at h; cases h
  | some f =>
    rw [hx] at h
    injection h with h
    have hq := List.find?_some hx
    have := hT f (List.mem_of_find?_eq_some hx)
    have e : f.path = q := by simpa using hq
    exact ⟨by rw [← e]; exact this.1, by rw [← h]; exact this.2⟩
theorem lines_ok {d : Bs} (h : (linesS d).2 = 0) (hd : d.length ≤ 65536) : LOk (linesS d).1 := by
  unfold linesS at h ⊢
  split
  · omega
  · rename_i h1
    rw [if_neg h1] at h
    split
    · exact ⟨by simp, fun x hx => by cases hx⟩
    · rename_i h2
      refine ⟨?_, fun x hx => ?_⟩
      · show (splitS 10 d).length ≤ 1024
        rw [split_len]; omega
      · have := (split_lens 10 d).1 x hx; omega
set_option maxHeartbeats 4000000 in
theorem incl_any (d : Nat) (t : List Fil) (B : Nat) (hf : ∀ e, d = e + 1 → FileOk e t B) (hT : TOk t) (hB : gMx < B) (hd : d ≤ 24) (W : World) (M : Nat → Prop) (g : Nat) (s : Sst) (p : Bs) (n : Int) (ref : Bs) (H : ScW W M B g t s) (hst : StI s) (hop : s.opn.length + d ≤ 25) (hL : LS W) (hp : p.length ≤ 1000) (hr : ref.length ≤ 65536) :
    Calls Tryz.prog 155 #[.pointer (some ⟨g, 0, none⟩), .agg #[.string ⟨p.toArray⟩, .int .i64 n], .string ⟨ref.toArray⟩, .int .i64 (24 - (d : Int))] W (ScR W M B g t (inclS t (nestS t d) p n ref s)) := by
  obtain ⟨R, hR⟩ : ∃ R, R = inclS t (nestS t d) p n ref s := ⟨_, rfl⟩
  rw [← hR]
  unfold inclS at hR
  simp only at hR
  have hcut := fun w h => cut47_any p w h (by omega)
  have hhl := head_len 47 p
  generalize (splitS 47 p).headD [] = nm at *
  have href := fun w h => ref_any nm ref w h (by omega) (by omega)
  generalize refS nm ref = q at *
  obtain ⟨qp, qe⟩ := q
  simp only at hR href
  obtain ⟨D, hD⟩ : ∃ D : Int, D = 24 - (d : Int) := ⟨_, rfl⟩
  rw [← hD]
  have HCUT := Lib.hid hcut; have HREF := Lib.hid href; have HR0 := Lib.hid hR; have HH := Lib.hid H; have HL := Lib.hid hL; have HF := Lib.hid hf; have HDD := Lib.hid hD
  clear hcut href hR H hL hf hD hhl
  go_enter Tryz.func155, Tryz.ntmps155
  go_upto_region 1 with fail
  have hb0 : Below W.heap.size W (W.alloc (.cells #[.string ⟨p.toArray⟩, .int .i64 n] 38)) := by ((repeat (first | (with_reducible exact Below.refl _ _) | (with_reducible refine belowA ?_ _) | (with_reducible refine belowD ?_) | (with_reducible refine belowS ?_ (Nat.le_refl _) _ _) | (with_reducible refine next ?_ (by assumption) (Nat.le_refl _)))); done)
  have hq0 := blkAt W (.cells #[.string ⟨p.toArray⟩, .int .i64 n] 38) rfl
  generalize (W.alloc (.cells #[.string ⟨p.toArray⟩, .int .i64 n] 38)) = W1 at *
  have a0 := (cell_blk hq0 0).trans rfl
  have HB1 := Lib.hid hb0; have HQ1 := Lib.hid hq0
  clear hb0 hq0
  go_wp2_with fail
  refine (HCUT.out W1 (HL.out.below HB1.out)).mono ?_
  rintro e w2 ⟨⟨b2, c2, rfl⟩, hb2⟩
  have HB2 := Lib.hid (HB1.out.trans (hb2.mono HB1.out.size)); have HQ2 := Lib.hid (keptBlk hb2 HQ1.out)
  clear hb2 a0 HCUT HB1 HQ1
  go_wp2_with fail
  refine (HREF.out w2 (HL.out.below HB2.out)).mono ?_
  rintro e w3 ⟨rfl, hb3⟩
  have HB3 := Lib.hid (HB2.out.trans (hb3.mono HB2.out.size)); have HQ3 := Lib.hid (keptBlk hb3 HQ2.out)
  clear hb3 HREF HB2 HQ2
  have a0 := (cell_blk HQ3.out 0).trans rfl
  have a1 := (cell_blk HQ3.out 1).trans rfl
  have H3 := HH.out.below HB3.out
  by_cases hqe : qe ≠ 0
  · have HR := Lib.hid (HR0.out.trans (if_pos hqe))
    have hE : (qe != 0) = true := by rw [bne_iff_ne]; exact hqe
    have HH3 := Lib.hid H3
    clear H3 hqe
    go_wp2_with fail
    (refine (fail_any w3 M B g t s HH3.out p n qe).mono ?_; rintro e w9 ⟨rfl, M', hs9, ho9⟩; go_wp2_with fail; go_ret; exact ⟨by rw [HR.out]; rfl, M', by rw [HR.out]; exact hs9, (ScOut.below M HB3.out).trans ho9⟩)
  · have hqe0 : qe = 0 := by omega
    subst hqe0
    have HR1 := Lib.hid (HR0.out.trans (if_neg hqe))
    clear hqe HR0
    obtain ⟨tA, tn, tc, mf, mm, mh, ml, iA, ic, oA, oc, mv, H3⟩ := H3
    have hcs := H3.cells
    unfold scC at hcs
    have hol := H3.opn.sl (by decide)
    have hcon := contains_any _ _ _ w3 _ s.opn qp hol
    have htr := findT_any _ _ _ w3 _ t H3.tree qp
    have c6 := (cell_blk hcs 6).trans rfl
    have c00 := (cell_blk hcs 0).trans rfl
    have HH3 := Lib.hid (show ScW w3 M B g t s from ⟨tA, tn, tc, mf, mm, mh, ml, iA, ic, oA, oc, mv, H3⟩)
    have HCON := Lib.hid hcon; have HTR := Lib.hid htr
    clear hcs hol hcon htr H3
    generalize s.opn.contains qp = qc at *
    cases qc with
    | true =>
      have HR := Lib.hid (HR1.out.trans (if_pos rfl))
      go_wp2_with fail
      refine HCON.out.mono ?_
      rintro e w4 ⟨rfl, rfl⟩
      go_wp2_with fail
      (refine (fail_any w3 M B g t s HH3.out p n 12).mono ?_; rintro e w9 ⟨rfl, M', hs9, ho9⟩; go_wp2_with fail; go_ret; exact ⟨by rw [HR.out]; rfl, M', by rw [HR.out]; exact hs9, (ScOut.below M HB3.out).trans ho9⟩)
    | false =>
      have HR2 := Lib.hid (HR1.out.trans (if_neg (by simp)))
      clear HR1
      have hfo := fun d' h => find_ok (d := d') hT (q := qp) h
      generalize findT t qp = o at *
      go_wp2_with fail
      refine HCON.out.mono ?_
      rintro e w4 ⟨rfl, rfl⟩
      go_wp2_with fail
      refine HTR.out.mono ?_
      rintro e w5 ⟨rfl, hb5⟩
      have HB5 := Lib.hid (HB3.out.trans (hb5.mono HB3.out.size)); have HQ5 := Lib.hid (keptBlk hb5 HQ3.out)
      have HH5 := Lib.hid (HH3.out.below hb5)
      clear hb5 HCON HTR a0 a1 c6 c00 HB3 HQ3 HH3
      have a0 := (cell_blk HQ5.out 0).trans rfl
      have a1 := (cell_blk HQ5.out 1).trans rfl
      unfold findV
      cases o with
      | none =>
        have HR := Lib.hid HR2.out
        go_wp2_with fail
        (refine (fail_any w5 M B g t s HH5.out p n 7).mono ?_; rintro e w9 ⟨rfl, M', hs9, ho9⟩; go_wp2_with fail; go_ret; exact ⟨by rw [HR.out]; rfl, M', by rw [HR.out]; exact hs9, (ScOut.below M HB5.out).trans ho9⟩)
      | some dd =>
        obtain ⟨hq1, hd1⟩ := hfo dd rfl
        have HR3 := Lib.hid HR2.out
        have hli := fun w h => linesT_any dd w h (by omega)
        have hlo := fun h => lines_ok (d := dd) h hd1
        simp only at HR3
        generalize linesS dd = X at *
        obtain ⟨ls, ec⟩ := X
        simp only at HR3 hlo hli
        have HLI := Lib.hid hli; have HLO := Lib.hid hlo
        clear hli hlo HR2 hfo
        go_wp2_with fail
        refine (HLI.out w5 (HL.out.below HB5.out)).mono ?_
        rintro e w6 ⟨A6, n6, c6, rfl, hs6, hb6⟩
        have HB6 := Lib.hid (HB5.out.trans (hb6.mono HB5.out.size)); have HQ6 := Lib.hid (keptBlk hb6 HQ5.out)
        have HH6 := Lib.hid (HH5.out.below hb6)
        have hs6' : Sl w6 (fun k => ¬ M k) A6 n6 c6 ls := hs6.wide (fun k _ hk hm => by have := (HH5.out.old k hm).2; omega) (by decide)
        have HS6 := Lib.hid hs6'
        clear hb6 hs6 hs6' a0 a1 HLI HB5 HQ5 HH5
        have a0 := (cell_blk HQ6.out 0).trans rfl
        have a1 := (cell_blk HQ6.out 1).trans rfl
        by_cases hec : ec ≠ 0
        · have HR := Lib.hid (HR3.out.trans (if_pos hec))
          have hE : (ec != 0) = true := by rw [bne_iff_ne]; exact hec
          clear hec
          go_wp2_with fail
          (refine (fail_any w6 M B g t s HH6.out p n ec).mono ?_; rintro e w9 ⟨rfl, M', hs9, ho9⟩; go_wp2_with fail; go_ret; exact ⟨by rw [HR.out]; rfl, M', by rw [HR.out]; exact hs9, (ScOut.below M HB6.out).trans ho9⟩)
        · have hec0 : ec = 0 := by omega
          subst hec0
          have HR4 := Lib.hid (HR3.out.trans (if_neg hec))
          clear HR3 hec
          cases d with
          | zero =>
            have hD24 : D = 24 := by have := HDD.out; omega
            subst hD24
            have HR := Lib.hid HR4.out
            go_wp2_with fail
            (refine (fail_any w6 M B g t s HH6.out p n 11).mono ?_; rintro e w9 ⟨rfl, M', hs9, ho9⟩; go_wp2_with fail; go_ret; exact ⟨by rw [HR.out]; rfl, M', by rw [HR.out]; exact hs9, (ScOut.below M HB6.out).trans ho9⟩)
          | succ e =>
            have hD1 : (D == 24) = false := by have := HDD.out; rw [beq_eq_false_iff_ne]; omega
            have hD2 : D + 1 = 24 - (e : Int) := by have := HDD.out; omega
            have hDr : -1 ≤ D ∧ D ≤ 24 := by have := HDD.out; omega
            have HR := Lib.hid (show R = fileS (groupS t e) qp ls s from HR4.out)
            have hfile := HF.out e rfl w6 M g s qp A6 n6 c6 ls HH6.out hst (by omega) (HL.out.below HB6.out) (by omega) HS6.out (HLO.out rfl)
            rw [← hD2] at hfile
            have HFI := Lib.hid hfile
            clear hfile hD2
            go_wp2_with fail
            refine HFI.out.mono ?_
            rintro e9 w9 ⟨rfl, M', hs9, ho9⟩
            go_wp2_with fail
            go_ret
            exact ⟨by rw [HR.out]; rfl, M', by rw [HR.out]; exact hs9, (ScOut.below M HB6.out).trans ho9⟩
end Go.Proofs.YtpeamehplhpcjaaGreatDoor
namespace Go.Proofs.YtpeamehplhpcjaaGreatDoor
open Go.RowKit Go.ChangeShapes Go.WideShapes
section
variable {κ : Type} [DecidableEq κ] {T : KeyT κ} {ops : Array Oper} {o : Oper} {a : Act} {K : Act → World → Prop} {Q : Exit → Act → World → Prop} {E : Prop} {w : World} {b : Nat} {m : List (κ × Value)} {t e : TypeId}
theorem step_delV (hgd : o.guard = none) (hdst : o.dst = none) (x y : Operand) (kt : TypeId) (hop : o.op = Op.call { callee := Callee.builtin Builtin.delete, args := #[x, y], argTypes := #[t, kt] }) (hkt : kt = T.K) (ht : Tryz.prog.underlying t = some (.map T.K e)) (hx : a.eval x = .map (some b)) (k : κ) (hy : a.eval y = T.kv k) (hm : MapV T w b m) (hk : T.ok k)
    (h : ∀ w', MapV T w' b (delM m k) → w.grownBy w' (some b) → K a w') : if Region.wanted o (yielded ops a.tmps) = true then Oper.wp Tryz.prog o a w K Q else E := by
  have hw : Region.wanted o (yielded ops a.tmps) = true := by simp [Region.wanted, hgd]
  rw [if_pos hw]
  subst hkt
  obtain ⟨w', hrun, r1, r2⟩ := hm.del ht hk o.type
  unfold Oper.wp
  simp [execOp, hop, resolve, invoke, builtin, hx, hy, hrun, Result.andThen]
  have e : a.put o.dst (.tuple #[]) = a := by rw [hdst]; rfl
  have h2 := h w' r1 r2
  rw [← e] at h2
  exact h2
end
section
variable {W W' : World} {M : Nat → Prop} {B g : Nat} {tA : Option Addr} {tn tc mf mm mh ml : Nat} {iA : Option Addr} {ic : Nat} {oA : Option Addr} {oc : Nat} {mv mv' : List (Bs × Value)} {t : List Fil} {s s' : Sst}
theorem ScB.one (H : ScB W M B g tA tn tc mf mm mh ml iA ic oA oc mv t s) {b : Nat} (hb : b = mf ∨ b = mm ∨ b = mh ∨ b = ml) (hg : W.grownBy W' (some b)) (hit : s'.items = s.items) (hop : s'.opn = s.opn) (hcnt : s'.count = s.count) (hflt : s'.fault = s.fault)
    (hfl : MapV TS W' mf (vFlags s'.flags)) (hmv : MapV TS W' mm mv') (hma : VMacs W' M mv' s'.macros) (hhd : MapV TLn W' mh (vHeads s'.heads)) (hfi : MapV TS W' ml (vFlags s'.files)) :
    ScB W' M B g tA tn tc mf mm mh ml iA ic oA oc mv' t s' ∧ ScOut W M W' M := by
  have hM : M b := H.own b (by rcases hb with h | h | h | h <;> simp [h])
  have hbg : b ≠ g := by
    rcases hb with h | h | h | h
    · exact fun e => H.dif.1 (e.symm.trans h)
    · exact fun e => H.dif.2.1 (e.symm.trans h)
    · exact fun e => H.dif.2.2.1 (e.symm.trans h)
    · exact fun e => H.dif.2.2.2.1 (e.symm.trans h)
  have hbi : iA.map Addr.block ≠ some b := fun e => by
    obtain ⟨a1, a2, a3, a4, a5, a6⟩ := H.difi b e
    rcases hb with h | h | h | h
    · exact a2 h
    · exact a3 h
    · exact a4 h
    · exact a5 h
  have hbo : oA.map Addr.block ≠ some b := fun e => by
    obtain ⟨a1, a2, a3, a4, a5⟩ := H.difo b e
    rcases hb with h | h | h | h
    · exact a2 h
    · exact a3 h
    · exact a4 h
    · exact a5 h
  have hk : ∀ k, k < W.heap.size → k ≠ b → W'.heap[k]? = W.heap[k]? := fun k hk hne => hg.block k hk (fun e => hne (by injection e))
  refine ⟨H.maps hit hop ?_ hfl hmv hma hhd hfi (fun k hk' h => hk k hk' (fun e => ?_)) hg.size, fun _ h => .inl h, (Frm.refl M W).grown hg (fun k e _ => by injection e with e; exact e ▸ hM)⟩
  · rw [hk g (H.lt g (H.own g (.inl rfl))) (Ne.symm hbg), H.cells]
    unfold scC
    rw [hit, hop, hcnt, hflt]
  · subst e
    rcases h with h | h | h
    · exact h hM
    · exact hbi h
    · exact hbo h
theorem ScB.kp {mb : Nat} (hg : W.grownBy W' (some mb)) {κ : Type} {T : KeyT κ} {b : Nat} {m : List (κ × Value)} (h : MapV T W b m) (hne : b ≠ mb) : MapV T W' b m := h.keep (hg.block b h.lt (fun e => hne (by injection e)))
theorem ScB.kpM (H : ScB W M B g tA tn tc mf mm mh ml iA ic oA oc mv t s) {b : Nat} (hM : M b) (hg : W.grownBy W' (some b)) {mv' : List (Bs × Value)} {ms : List (Bs × Mac)} (h : VMacs W M mv' ms) : VMacs W' M mv' ms :=
  h.keep fun k hk hn => hg.block k hk (fun e => by injection e with e; exact hn (e ▸ hM))
theorem ScB.define (H : ScB W M B g tA tn tc mf mm mh ml iA ic oA oc mv t s) {k : Bs} {v : Value} {x : Mac} (hm : MapV TS W' mm (setM mv k v)) (hg : W.grownBy W' (some mm)) (hv : VMac W M v x) :
    ScW W' M B g t { s with macros := setM s.macros k x } ∧ ScOut W M W' M := by
  have hM := H.own mm (.inr (.inr (.inl rfl)))
  obtain ⟨h1, h2⟩ := H.one (s' := { s with macros := setM s.macros k x }) (.inr (.inl rfl)) hg rfl rfl rfl rfl (ScB.kp hg H.flags H.dif.2.2.2.2.1) hm (H.kpM hM hg (VMacs.set k hv H.macs)) (ScB.kp hg H.heads (Ne.symm H.dif.2.2.2.2.2.2.2.1)) (ScB.kp hg H.files (Ne.symm H.dif.2.2.2.2.2.2.2.2.1))
  exact ⟨⟨_, _, _, _, _, _, _, _, _, _, _, _, h1⟩, h2⟩
theorem ScB.undefM (H : ScB W M B g tA tn tc mf mm mh ml iA ic oA oc mv t s) {k : Bs} (hm : MapV TS W' mm (delM mv k)) (hg : W.grownBy W' (some mm)) :
    ScB W' M B g tA tn tc mf mm mh ml iA ic oA oc (delM mv k) t { s with macros := delM s.macros k } ∧ ScOut W M W' M := by
  have hM := H.own mm (.inr (.inr (.inl rfl)))
  exact H.one (s' := { s with macros := delM s.macros k }) (.inr (.inl rfl)) hg rfl rfl rfl rfl (ScB.kp hg H.flags H.dif.2.2.2.2.1) hm (H.kpM hM hg (VMacs.del k H.macs)) (ScB.kp hg H.heads (Ne.symm H.dif.2.2.2.2.2.2.2.1)) (ScB.kp hg H.files (Ne.symm H.dif.2.2.2.2.2.2.2.2.1))
theorem ScB.undefF (H : ScB W M B g tA tn tc mf mm mh ml iA ic oA oc mv t s) {k : Bs} (hm : MapV TS W' mf (delM (vFlags s.flags) k)) (hg : W.grownBy W' (some mf)) :
    ScB W' M B g tA tn tc mf mm mh ml iA ic oA oc mv t { s with flags := delM s.flags k } ∧ ScOut W M W' M := by
  have hM := H.own mf (.inr (.inl rfl))
  rw [vFlags_eq, vB_del] at hm
  exact H.one (s' := { s with flags := delM s.flags k }) (.inl rfl) hg rfl rfl rfl rfl hm (ScB.kp hg H.mval (Ne.symm H.dif.2.2.2.2.1)) (H.kpM hM hg H.macs) (ScB.kp hg H.heads (Ne.symm H.dif.2.2.2.2.2.1)) (ScB.kp hg H.files (Ne.symm H.dif.2.2.2.2.2.2.1))
theorem ScB.read (H : ScB W M B g tA tn tc mf mm mh ml iA ic oA oc mv t s) {k : Ln} (hm : MapV TLn W' mh (setM (vHeads s.heads) k (.bool true))) (hg : W.grownBy W' (some mh)) :
    ScB W' M B g tA tn tc mf mm mh ml iA ic oA oc mv t { s with heads := setM s.heads k true } ∧ ScOut W M W' M := by
  have hM := H.own mh (.inr (.inr (.inr (.inl rfl))))
  rw [vHeads_eq, vB_set] at hm
  exact H.one (s' := { s with heads := setM s.heads k true }) (.inr (.inr (.inl rfl))) hg rfl rfl rfl rfl (ScB.kp hg H.flags H.dif.2.2.2.2.2.1) (ScB.kp hg H.mval H.dif.2.2.2.2.2.2.2.1) (H.kpM hM hg H.macs) hm (ScB.kp hg H.files (Ne.symm H.dif.2.2.2.2.2.2.2.2.2))
theorem ScB.opens (H : ScB W M B g tA tn tc mf mm mh ml iA ic oA oc mv t s) {k : Bs} (hm : MapV TS W' ml (setM (vFlags s.files) k (.bool true))) (hg : W.grownBy W' (some ml)) :
    ScB W' M B g tA tn tc mf mm mh ml iA ic oA oc mv t { s with files := setM s.files k true } ∧ ScOut W M W' M := by
  have hM := H.own ml (.inr (.inr (.inr (.inr (.inl rfl)))))
  rw [vFlags_eq, vB_set] at hm
  exact H.one (s' := { s with files := setM s.files k true }) (.inr (.inr (.inr rfl))) hg rfl rfl rfl rfl (ScB.kp hg H.flags H.dif.2.2.2.2.2.2.1) (ScB.kp hg H.mval H.dif.2.2.2.2.2.2.2.2.1) (H.kpM hM hg H.macs) (ScB.kp hg H.heads H.dif.2.2.2.2.2.2.2.2.2) hm
end
end Go.Proofs.YtpeamehplhpcjaaGreatDoor
