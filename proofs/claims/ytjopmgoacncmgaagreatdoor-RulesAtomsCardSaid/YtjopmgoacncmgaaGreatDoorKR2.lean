/- Rules: Print. -/
import Derived.Test.YtjopmgoacncmgaaGreatDoorShelf
import Derived.Test.YtjopmgoacncmgaaGreatDoorKR1
import Derived.Test.YtjopmgoacncmgaaGreatDoorK13
set_option linter.unusedVariables false
set_option linter.unusedSimpArgs false
namespace Go.Proofs.YtjopmgoacncmgaaGreatDoor
open Go.RowKit

def lays166_ren : Go.Shelf.Ren := ⟨fun | 166 => 51 | 240 => 100 | 276 => 144 | n => n, fun | 0 => 0 | 3 => 3 | 4 => 4 | 5 => 5 | 9 => 9 | 20 => 20 | 37 => 83 | 70 => 82 | 72 => 85 | 75 => 87 | 80 => 92 | 164 => 156 | n => n, fun | n => n⟩
theorem lays166 : Go.Proofs.Lays.n166 Tryz.prog lays166_ren := {
  mixed := by kernel_rfl
  f166 := Tryz.func51.trans (congrArg some (by kernel_rfl))
  f240 := Tryz.func100.trans (congrArg some (by kernel_rfl))
  f276 := Tryz.func144.trans (congrArg some (by kernel_rfl))
  t0 := Tryz.underlying0
  a0 := Tryz.isAgg0
  z0 := Tryz.sizeOf0
  v0 := Tryz.zeroValue0
  t3 := Tryz.underlying3
  a3 := Tryz.isAgg3
  z3 := Tryz.sizeOf3
  v3 := Tryz.zeroValue3
  t4 := Tryz.underlying4
  a4 := Tryz.isAgg4
  z4 := Tryz.sizeOf4
  v4 := Tryz.zeroValue4
  t9 := Tryz.underlying9
  a9 := Tryz.isAgg9
  z9 := Tryz.sizeOf9
  v9 := Tryz.zeroValue9
  t20 := Tryz.underlying20
  a20 := Tryz.isAgg20
  z20 := Tryz.sizeOf20
  v20 := Tryz.zeroValue20
  t37 := Tryz.underlying83
  a37 := Tryz.isAgg83
  z37 := Tryz.sizeOf83
  v37 := Tryz.zeroValue83
  t70 := Tryz.underlying82
  a70 := Tryz.isAgg82
  z70 := Tryz.sizeOf82
  v70 := Tryz.zeroValue82
  t72 := Tryz.underlying85
  a72 := Tryz.isAgg85
  z72 := Tryz.sizeOf85
  v72 := Tryz.zeroValue85
  t75 := Tryz.underlying87
  a75 := Tryz.isAgg87
  z75 := Tryz.sizeOf87
  v75 := Tryz.zeroValue87
  t164 := Tryz.underlying156
  a164 := Tryz.isAgg156
  z164 := Tryz.sizeOf156
  v164 := Tryz.zeroValue156 }
theorem extra166 : Builder.Extra Tryz.prog lays166_ren := {
  sizeBuilder := by kernel_rfl
  liesBuilder := by kernel_rfl
  t5 := Tryz.underlying5
  a5 := Tryz.isAgg5
  z5 := Tryz.sizeOf5
  v5 := Tryz.zeroValue5
  infoByte := by kernel_rfl
  cellsByte := by kernel_rfl
  sizeByte := by kernel_rfl
  neB5 := by decide }
theorem wStr_any (B b : Nat) (bs : List Value) (s : ByteArray) (w : World) (h : Lib.IsBuilderF 85 5 B b bs w) (hlen : bs.length + s.size ≤ 140737488355328) (hBw : B ≤ w.heap.size) :
    Calls Tryz.prog 51 #[.pointer (some ⟨b, 0, none⟩), .string s] w fun e w' => e = .returned (.tuple #[.int .i64 s.size, .nilIface]) ∧ (Lib.BuilderAtF 85 5 B b (.pointer (some ⟨b, 0, none⟩)) (bs ++ Lib.strCells s) w' ∧ Below B w w' ∧ Lib.OthersKept 5 (some b) w w') :=
  Any.Builder_WriteString_k lays166 extra166 B b bs s w h hlen hBw
end Go.Proofs.YtjopmgoacncmgaaGreatDoor

namespace Go.Proofs.YtjopmgoacncmgaaGreatDoor
open Go.RowKit

/-- Block b is a strings.Builder that holds the bytes out; its memory lies from B on. -/
def BW (w : World) (B b : Nat) (out : Bs) : Prop := Lib.IsBuilderF 85 5 B b (Lib.byteCells out) w
theorem BW.new (w : World) : BW (w.alloc (.cells #[.pointer none, .slice none 0 0] 85)) w.heap.size w.heap.size [] := Lib.IsBuilderF.of (Lib.fresh_isBuilder _ _ w)
theorem BW.below {w w' : World} {B b : Nat} {out : Bs} (h : BW w B b out) (hb : Below w.heap.size w w') : BW w' B b out := by
  have hg : w.grownBy w' none := ⟨hb.os, hb.tape, hb.output, hb.size, fun k hk _ => hb.block k hk⟩
  have key : ∀ p, Lib.BuilderAtF 85 5 B b p (Lib.byteCells out) w → Lib.BuilderAtF 85 5 B b p (Lib.byteCells out) w' := by
    intro p hp
    obtain ⟨h1, v, h2, h3, h4⟩ := hp
    exact ⟨h1, v, (hb.block b (Array.getElem?_eq_some_iff.1 h2).1).trans h2, h3.kept hg (by cases v.ownBlock <;> simp), h4⟩
  exact h.elim (fun x => .inl (key _ x)) (fun x => .inr (key _ x))
theorem BW.alloc {w : World} {B b : Nat} {out : Bs} (h : BW w B b out) (o : Obj) : BW (w.alloc o) B b out := h.below ((Below.refl _ _).alloc (Nat.le_refl _) _)
theorem BW.lt {w : World} {B b : Nat} {out : Bs} (h : BW w B b out) : B ≤ b ∧ b < w.heap.size := by
  rcases h with h | h
  · exact ⟨h.1, h.lt⟩
  · exact ⟨h.1, h.lt⟩
theorem write_any (B b : Nat) (out s : Bs) (w : World) (h : BW w B b out) (hlen : out.length + s.length ≤ 100000000) (hBw : B ≤ w.heap.size) :
    Calls Tryz.prog 51 #[.pointer (some ⟨b, 0, none⟩), .string ⟨s.toArray⟩] w fun e w' => (∃ v, e = .returned v) ∧ BW w' B b (out ++ s) ∧ Below B w w' ∧ Lib.OthersKept 5 (some b) w w' := by
  refine (wStr_any B b (Lib.byteCells out) ⟨s.toArray⟩ w h (by rw [Lib.byteCells_length]; simp [ByteArray.size]; omega) hBw).mono ?_
  rintro e w' ⟨rfl, h1, h2, h3⟩
  refine ⟨⟨_, rfl⟩, .inr ?_, h2, h3⟩
  have : Lib.byteCells (out ++ s) = Lib.byteCells out ++ Lib.strCells ⟨s.toArray⟩ := by
    rw [Lib.strCells_toArray]
    simp [Lib.byteCells]
  rw [this]
  exact h1
theorem bstr_any (B b : Nat) (out : Bs) (w : World) (h : BW w B b out) (hBw : B ≤ w.heap.size) :
    Calls Tryz.prog 54 #[.pointer (some ⟨b, 0, none⟩)] w fun e w' => e = .returned (.string ⟨out.toArray⟩) ∧ Below B w w' := by
  refine (Tryz.Builder_String_any_f B b out w h hBw).mono ?_
  rintro e w' ⟨rfl, -, h2⟩
  exact ⟨rfl, h2⟩
/-- A box that is neither the builder nor bytes is kept. -/
theorem okept {w w' : World} {b k : Nat} {cs : Array Value} {t : TypeId} {fz : Nat × Nat} (h : Lib.OthersKept 5 (some b) w w') (hb : w.heap[k]? = some (.cells cs t fz)) (hk : k ≠ b) (ht : t ≠ 5) : w'.heap[k]? = some (.cells cs t fz) :=
  h k _ hb (fun e => hk (by injection e)) (fun c fz' e => by injection e with _ e; exact ht e)
theorem prn1_any (r : Rul) (v : Value) (w : World) (S : Nat → Prop) (hv : VRul w S v r) (ho : OkR r) (hL : LD w) :
    Calls Tryz.prog 49 #[v] w fun e w' => e = .returned (.bool (!ruleS r)) ∧ Below w.heap.size w w' := by
  obtain ⟨A1, n1, c1, A2, n2, c2, rfl, h1, h2⟩ := hv
  have h := fun w S h1 h2 hL => formedRule_any r A1 n1 c1 A2 n2 c2 w S h1 h2 ho hL
  generalize ruleS r = b at *
  have H := Lib.hid h; have HS1 := Lib.hid h1; have HS2 := Lib.hid h2; have HL := Lib.hid hL; clear h h1 h2 hL
  go_enter Tryz.func49, Tryz.ntmps49
  go_wp2_with fail
  refine (H.out _ _ (HS1.out.alloc _) (HS2.out.alloc _) (HL.out.alloc _)).mono ?_
  rintro e w' ⟨rfl, hb⟩
  go_wp2_with fail
  go_ret
  exact ⟨rfl, next boxed hb (Nat.le_refl _)⟩

set_option maxRecDepth 100000 in
set_option maxHeartbeats 4000000 in
theorem Print_any (A : Option Addr) (n c : Nat) (l : List Rul) (w : World) (S : Nat → Prop) (hl : Sl w S A n c l) (ho : ∀ r ∈ l, OkR r) (hL : LD w) :
    Calls Tryz.prog 17 #[.slice A n c] w fun e w' => e = .returned (.tuple #[.string ⟨(printS l).1.toArray⟩, .int .i64 (printS l).2]) ∧ Below w.heap.size w w' := by
  obtain ⟨V, hV⟩ : ∃ V, V = printS l := ⟨_, rfl⟩
  rw [← hV]
  unfold printS at hV
  have hn := hl.len
  subst hn
  have hle := hl.le
  by_cases h64 : 64 < l.length
  · replace hV : V = ([], 1) := by rw [hV]; simp [h64]
    have h64I : (64 : Int) < (l.length : Int) := by omega
    have HV := Lib.hid hV; clear hV hl ho hL h64
    go_enter Tryz.func17, Tryz.ntmps17
    go_wp2_with fail
    go_ret2
    exact ⟨by rw [HV.out]; rfl, Below.refl _ _⟩
  · have h64I : ¬ (64 : Int) < (l.length : Int) := by omega
    have hcr := fun w S (h : Sl w S A l.length c l) (hL : LD w) => conR_any A l.length c w S l h 49 #[] (fun _ _ => by kernel_rfl) (fun r => !ruleS r) (fun x hx w1 hb v hv => by
      have := prn1_any x v w1 S hv (ho x hx) (hL.below hb)
      simpa using this)
    have hany : (l.any fun r => !ruleS r) = !l.all ruleS := by rw [← any_not]; simp
    rw [hany] at hcr
    cases hall : l.all ruleS
    · replace hV : V = ([], 1) := by rw [hV, hall]; simp
      rw [hall] at hcr
      have HCR := Lib.hid (hcr w S hl hL); have HV := Lib.hid hV
      clear hcr hV hl ho hL hany hall h64
      go_enter Tryz.func17, Tryz.ntmps17
      go_wp2_with fail
      refine HCR.out.mono ?_
      rintro e w1 ⟨rfl, hb1⟩
      go_wp2_with fail
      go_ret2
      exact ⟨by rw [HV.out]; rfl, hb1⟩
    · replace hV : V = (prRules [] l, 0) := by rw [hV, hall]; simp [h64]
      rw [hall] at hcr
      have hrs : ∀ r ∈ l, ruleS r = true := fun r hr => (List.all_eq_true.1 hall) r hr
      have HCR := Lib.hid (hcr w S hl hL); have HV := Lib.hid hV; have HRS := Lib.hid hrs; have HO := Lib.hid ho; have HL := Lib.hid hL
      have HSL := Lib.hid (hl.wide (S' := fun b => b < w.heap.size) (fun k hk _ => hk) (by decide))
      clear hcr hV hl ho hL hany hall hrs
      go_enter Tryz.func17, Tryz.ntmps17
      go_wp2_with fail
      refine HCR.out.mono ?_
      rintro e w1 ⟨rfl, hb1⟩
      have hbw0 := BW.new w1
      have hsz1 := hb1.size
      have HB1 := Lib.hid hb1; clear hb1 HCR
      have Hf : Hid (prRules [] l = prRules [] (l.drop 0)) := rfl
      go_wp2_with fail
      have hld : ∀ x, Below w1.heap.size w1 x → LD x := fun x hx => (HL.out.below HB1.out).below hx
      have hslx : ∀ x, Below w1.heap.size w1 x → Sl x (fun b => b < w1.heap.size) A l.length c l := fun x hx => ((HSL.out.below HB1.out).below hx).wide (fun k _ hk => by omega) (by decide)
      have HLD := Lib.hid hld; have HSLX := Lib.hid hslx; clear hld hslx
      generalize hB : w1.heap.size = B at *
      have hbB : Below B w1 (w1.alloc (.cells #[.pointer none, .slice none 0 0] 85)) := (Below.refl _ _).alloc (by omega) _
      clear hB
      go_loopw [18] (fun i wr => ∃ k : Nat, k ≤ l.length ∧ i = .int .i64 k ∧ ∃ out, BW wr B B out ∧ Below B w1 wr ∧ out.length ≤ 5000 * k ∧ Hid (prRules [] l = prRules out (l.drop k))) (fun i _ => l.length - (intOf i).toNat)
      case atStart => exact ⟨0, by omega, rfl, [], hbw0, hbB, by simp, Hf⟩
      case round =>
        obtain ⟨k, hk, rfl, out, hbw, hb, hol, hf⟩ := hrel
        have hwr := hbw.lt.2
        by_cases hlt : k < l.length
        · obtain ⟨b, o, rfl, -, hbs, A1, n1, c1, A2, n2, c2, h1, h2, h3, hs1, hs2⟩ := (HSLX.out _ hb).rul hlt
          have hd := hf.out
          rw [drop_get hlt, prRules] at hd
          have hrx := HRS.out _ (List.getElem_mem hlt)
          have hox := HO.out _ (List.getElem_mem hlt)
          generalize l[k] = x at *
          obtain ⟨hah, hbl4, hbf⟩ := rule_parts hrx
          have hpl := prAtom_len hah
          have hrl := prRule_len hrx out
          have hpa := fun w S h hL => printAtom_any x.head A1 n1 c1 w S h hox.1 hL hah
          have hob := hox.2
          have hn2 := hs2.len
          have hle2 := hs2.le
          obtain ⟨⟨nm, args⟩, body⟩ := x
          simp only at h1 h2 h3 hs1 hs2 hd hpl hrl hpa hob hn2 hbf hbl4
          generalize prAtom ⟨nm, args⟩ = pa at *
          subst hn2
          have HD := Lib.hid hd; have HPA := Lib.hid hpa; have HBW := Lib.hid hbw; have HB := Lib.hid hb; have HS1 := Lib.hid hs1; have HS2 := Lib.hid hs2; have HOB := Lib.hid hob; have HBF := Lib.hid hbf; have HRL := Lib.hid hrl
          clear hd hpa hbw hb hs1 hs2 hob hbf hf hox hrx hah hrl
          have hk64 : k ≤ 64 := by omega
          go_wp2_with fail
          refine (HPA.out _ _ (HS1.out.alloc _) (HLD.out _ (HB.out.alloc (by omega) _))).mono ?_
          rintro e w2 ⟨rfl, hb2⟩
          have hX := keptBlk hb2 (blkAt wr (.cells #[.string ⟨nm.toArray⟩, .slice A1 n1 c1, .slice A2 body.length c2] 48) rfl)
          have hbw2 := (HBW.out.alloc (.cells #[.string ⟨nm.toArray⟩, .slice A1 n1 c1, .slice A2 body.length c2] 48)).below hb2
          have hsz2 := hb2.size
          simp at hsz2
          have hB2 : Below B w1 w2 := (HB.out.alloc (by omega) _).trans (hb2.mono (by simp; omega))
          have HX := Lib.hid hX; have HBW2 := Lib.hid hbw2; have HB2 := Lib.hid hB2
          clear hX hbw2 hB2 hb2
          go_wp2_with fail
          refine (write_any B B out pa w2 HBW2.out (by omega) (by omega)).mono ?_
          rintro e w3 ⟨⟨v3, rfl⟩, hbw3, hb3, hk3⟩
          have hX3 := okept hk3 HX.out (by omega) (by decide)
          have k0 := (cell_blk hX3 0).trans rfl; have k1 := (cell_blk hX3 1).trans rfl; have k2 := (cell_blk hX3 2).trans rfl
          have HBW3 := Lib.hid hbw3; have HB3 := Lib.hid (HB2.out.trans hb3)
          clear hX3 hbw3 hb3 hk3
          have Hg : Hid (prBody (out ++ pa) body true = prBody (out ++ pa) (body.drop 0) (decide (0 = 0))) := rfl
          go_wp2_with fail
          go_loopw [29] (fun i wx => ∃ j : Nat, j ≤ body.length ∧ i = .int .i64 j ∧ ∃ outj, BW wx B B outj ∧ Below B w1 wx ∧ outj.length ≤ 5000 * k + 830 + 844 * j ∧ Hid (prBody (out ++ pa) body true = prBody outj (body.drop j) (decide (j = 0)))) (fun i _ => body.length - (intOf i).toNat)
          case atStart => exact ⟨0, by omega, rfl, out ++ pa, HBW3.out, HB3.out, by simp; omega, Hg⟩
          case round =>
            obtain ⟨j, hj, rfl, outj, hbwj, hbj, hoj, hg⟩ := hrel
            have hwj := hbwj.lt.2
            by_cases hltj : j < body.length
            · obtain ⟨b3, o3, rfl, -, hbs3, A3, n3, c3, g0, g1, g2, g3, hs3⟩ := (HS2.out.keep (w' := wr) (fun z hz hs => (hbj.block z hs).trans (HB.out.block z hs).symm)).ltl hltj
              have hd2 := hg.out
              rw [drop_get hltj, prBody] at hd2
              have hyf := HBF.out _ (List.getElem_mem hltj)
              have hyo := HOB.out _ (List.getElem_mem hltj)
              generalize body[j] = y at *
              have hpl := fun w S h hL => printLiteral_any y A3 n3 c3 w S h hyo hL hyf
              have hpll := prLtl_len hyf
              obtain ⟨neg, op, ⟨ynm, yargs⟩⟩ := y
              simp only at g0 g1 g2 g3 hs3 hd2 hpl hpll
              generalize prLtl ⟨neg, op, ⟨ynm, yargs⟩⟩ = pl at *
              have hsy : ∀ x, Below B w1 x → Sl x (fun b => b < B) A3 n3 c3 yargs := fun x hx => hs3.keep (fun z hz hs => (hx.block z hs).trans (hbj.block z hs).symm)
              have hbj2 : Below B w1 (wr.alloc (.cells #[.bool neg, .string ⟨op.toArray⟩, .string ⟨ynm.toArray⟩, .slice A3 n3 c3] 54)) := hbj.alloc (by omega) _
              have hbwj2 := hbwj.alloc (.cells #[.bool neg, .string ⟨op.toArray⟩, .string ⟨ynm.toArray⟩, .slice A3 n3 c3] 54)
              have hS0 : (wr.alloc (.cells #[.bool neg, .string ⟨op.toArray⟩, .string ⟨ynm.toArray⟩, .slice A3 n3 c3] 54)).heap[wr.heap.size]? = some (.cells #[.bool neg, .string ⟨op.toArray⟩, .string ⟨ynm.toArray⟩, .slice A3 n3 c3] 54 (0, 0)) := blkAt wr _ rfl
              have hszW : (wr.alloc (.cells #[.bool neg, .string ⟨op.toArray⟩, .string ⟨ynm.toArray⟩, .slice A3 n3 c3] 54)).heap.size = wr.heap.size + 1 := by simp
              have HD2 := Lib.hid hd2; have HPL := Lib.hid hpl; have HSY := Lib.hid hsy; have HBJ := Lib.hid hbj2; have HBWJ := Lib.hid hbwj2; have HS0 := Lib.hid hS0
              clear hd2 hpl hsy hbj2 hbwj2 hS0 hs3 hbj hbwj hg hyf hyo
              have hcc1 : ¬ 9223372036854775807 < 4 + pl.length := by omega
              have hcc2 : ¬ 9223372036854775807 < 2 + pl.length := by omega
              go_upto_block 3 with fail
              go_cut [] from 31 to 43 (fun wx => BW wx B B (outj ++ ((if j = 0 then [32, 58, 45, 32] else [44, 32]) ++ pl)) ∧ Below B w1 wx)
              case first =>
                go_upto_region 11 with fail
                clear g0 g1 g2 g3
                generalize hbl : wr.heap.size = bl at *
                generalize hW0 : wr.alloc (.cells #[.bool neg, .string ⟨op.toArray⟩, .string ⟨ynm.toArray⟩, .slice A3 n3 c3] 54) = W0 at *
                clear hbl hW0
                have HX := Lib.hid (fun (x : World) (hx : x.heap[bl]? = some (.cells #[.bool neg, .string ⟨op.toArray⟩, .string ⟨ynm.toArray⟩, .slice A3 n3 c3] 54 (0, 0))) => And.intro ((cell_blk hx 0).trans rfl) (And.intro ((cell_blk hx 1).trans rfl) (And.intro ((cell_blk hx 2).trans rfl) ((cell_blk hx 3).trans rfl))))
                have hS : W0.drew.heap[bl]? = some (.cells #[.bool neg, .string ⟨op.toArray⟩, .string ⟨ynm.toArray⟩, .slice A3 n3 c3] 54 (0, 0)) := HS0.out
                by_cases hj0 : j = 0
                · subst hj0
                  have hmin : min (0 : Int) 1 = 0 := rfl
                  refine wpH_region (fun x => x.heap[bl]? = some (.cells #[.bool neg, .string ⟨op.toArray⟩, .string ⟨ynm.toArray⟩, .slice A3 n3 c3] 54 (0, 0))) (by kernel_rfl) ?_
                  (refine wpAnyH_takeW 1 rfl rfl (by kernel_rfl) (by kernel_rfl) (by kernel_rfl) (fun _ _ _ h => h) (v := ?_) (by kernel_rfl) hS ?_ ?_; rotate_left; (focus (intro x hx; have fx := HX.out x hx; go_simp; (try with_reducible rfl); done)); (try simp only [Act.put, List.setIfInBounds_toArray, List.set_cons_zero, List.set_cons_succ]))
                  (refine wpAnyH_takeW 2 rfl rfl (by kernel_rfl) (by kernel_rfl) (by kernel_rfl) (fun _ _ _ h => h) (v := ?_) (by kernel_rfl) hS ?_ ?_; rotate_left; (focus (intro x hx; have fx := HX.out x hx; go_simp; (try with_reducible rfl); done)); (try simp only [Act.put, List.setIfInBounds_toArray, List.set_cons_zero, List.set_cons_succ]))
                  (refine wpAnyH_takeW 5 rfl rfl (by kernel_rfl) (by kernel_rfl) (by kernel_rfl) (fun _ _ _ h => h) (v := ?_) (by kernel_rfl) hS ?_ ?_; rotate_left; (focus (intro x hx; have fx := HX.out x hx; go_simp; (try with_reducible rfl); done)); (try simp only [Act.put, List.setIfInBounds_toArray, List.set_cons_zero, List.set_cons_succ]))
                  refine wpAnyH_two 0 6 (by kernel_rfl) rfl rfl ?_ ?_
                  · intro K' hK'
                    go_simp
                    refine hK'.out _ _ (blkOld hS _) ?_
                    clear hK' K'
                    have hS := blkOld hS (.cells #[.string ⟨#[32, 58, 45, 32]⟩, .string ⟨#[44, 32]⟩] 9)
                    have hbA : Below B w1 (W0.drew.alloc (.cells #[.string ⟨#[32, 58, 45, 32]⟩, .string ⟨#[44, 32]⟩] 9)) := HBJ.out.drew.alloc (by simp; omega) _
                    have hbwA := (HBWJ.out.below (w' := W0.drew) (Below.refl _ _).drew).alloc (.cells #[.string ⟨#[32, 58, 45, 32]⟩, .string ⟨#[44, 32]⟩] 9)
                    (refine wpAnyH_takeW 3 rfl rfl (by kernel_rfl) (by kernel_rfl) (by kernel_rfl) (fun _ _ _ h => h) (v := ?_) (by kernel_rfl) hS ?_ ?_; rotate_left; (focus (intro x hx; have fx := HX.out x hx; go_simp; (try with_reducible rfl); done)); (try simp only [Act.put, List.setIfInBounds_toArray, List.set_cons_zero, List.set_cons_succ]))
                    refine wpAnyH_two 4 6 (by kernel_rfl) rfl rfl ?_ ?_
                    · intro K' hK'
                      go_simp
                      refine hK'.out _ _ hS ?_
                      clear hK' K'
                      refine wpAnyH_one 6 (by kernel_rfl) rfl ?_
                      intro K' hK'
                      go_simp
                      refine (HPL.out _ _ (HSY.out _ hbA) (HLD.out _ hbA)).mono ?_
                      rintro e w5 ⟨rfl, hb5⟩
                      have hS := keptBlk hb5 hS
                      have hsz5 := hb5.size
                      simp at hsz5
                      refine hK'.out _ _ hS ?_
                      clear hK' K'
                      have hWBW := hbwA.below hb5
                      have hWBL := hbA.trans (hb5.mono (by simp; omega))
                      (refine wpAnyH_takeW 7 rfl rfl (by kernel_rfl) (by kernel_rfl) (by kernel_rfl) (fun _ _ _ h => h) (v := ?_) (by kernel_rfl) hS ?_ ?_; rotate_left; (focus (intro x hx; have fx := HX.out x hx; go_simp; (try with_reducible rfl); done)); (try simp only [Act.put, List.setIfInBounds_toArray, List.set_cons_zero, List.set_cons_succ]))
                      refine wpAnyH_one 8 (by kernel_rfl) rfl ?_
                      intro K' hK'
                      go_simp
                      refine (write_any B B outj (32 :: 58 :: 45 :: 32 :: pl) _ hWBW (by simp only [List.length_cons]; omega) (by (try simp only [World.size_alloc]); omega)).mono ?_
                      rintro e w9 ⟨⟨v9, rfl⟩, hbw9, hb9, hk9⟩
                      refine hK'.out _ _ (okept hk9 hS (by omega) (by decide)) ?_
                      clear hK' K'
                      refine wpAnyH_done (by kernel_rfl) ?_ _
                      go_wp2_with fail
                      go_meet
                      exact ⟨by first | exact hbw9 | (rw [if_neg hj0]; exact hbw9), hWBL.trans hb9⟩
                    · intro K' hK'
                      go_simp
                      refine (HPL.out _ _ (HSY.out _ hbA) (HLD.out _ hbA)).mono ?_
                      rintro e w5 ⟨rfl, hb5⟩
                      have hAr : w5.heap[bl + 1]? = some (.cells #[.string ⟨#[32, 58, 45, 32]⟩, .string ⟨#[44, 32]⟩] 9 (0, 0)) := keptBlk hb5 (blkAt2 (by simp; omega) rfl)
                      have a0 := (cell_blk hAr 0).trans rfl
                      have hS := keptBlk hb5 hS
                      have hsz5 := hb5.size
                      simp at hsz5
                      refine hK'.out _ _ hS ?_
                      clear hK' K'
                      have hWBW := hbwA.below hb5
                      have hWBL := hbA.trans (hb5.mono (by simp; omega))
                      refine wpAnyH_one 4 (by kernel_rfl) rfl ?_
                      intro K' hK'
                      go_simp
                      refine hK'.out _ _ hS ?_
                      clear hK' K'
                      (refine wpAnyH_takeW 7 rfl rfl (by kernel_rfl) (by kernel_rfl) (by kernel_rfl) (fun _ _ _ h => h) (v := ?_) (by kernel_rfl) hS ?_ ?_; rotate_left; (focus (intro x hx; have fx := HX.out x hx; go_simp; (try with_reducible rfl); done)); (try simp only [Act.put, List.setIfInBounds_toArray, List.set_cons_zero, List.set_cons_succ]))
                      refine wpAnyH_one 8 (by kernel_rfl) rfl ?_
                      intro K' hK'
                      go_simp
                      refine (write_any B B outj (32 :: 58 :: 45 :: 32 :: pl) _ hWBW (by simp only [List.length_cons]; omega) (by (try simp only [World.size_alloc]); omega)).mono ?_
                      rintro e w9 ⟨⟨v9, rfl⟩, hbw9, hb9, hk9⟩
                      refine hK'.out _ _ (okept hk9 hS (by omega) (by decide)) ?_
                      clear hK' K'
                      refine wpAnyH_done (by kernel_rfl) ?_ _
                      go_wp2_with fail
                      go_meet
                      exact ⟨by first | exact hbw9 | (rw [if_neg hj0]; exact hbw9), hWBL.trans hb9⟩
                  · intro K' hK'
                    go_simp
                    have hbA : Below B w1 W0.drew := HBJ.out.drew
                    refine (HPL.out _ _ (HSY.out _ hbA) (HLD.out _ hbA)).mono ?_
                    rintro e w5 ⟨rfl, hb5⟩
                    have hS := keptBlk hb5 hS
                    have hsz5 := hb5.size
                    simp at hsz5
                    refine hK'.out _ _ hS ?_
                    clear hK' K'
                    refine wpAnyH_one 0 (by kernel_rfl) rfl ?_
                    intro K' hK'
                    go_simp
                    refine hK'.out _ _ (blkOld hS _) ?_
                    clear hK' K'
                    have hS := blkOld hS (.cells #[.string ⟨#[32, 58, 45, 32]⟩, .string ⟨#[44, 32]⟩] 9)
                    have hWBW := ((HBWJ.out.below (w' := W0.drew) (Below.refl _ _).drew).below hb5).alloc (.cells #[.string ⟨#[32, 58, 45, 32]⟩, .string ⟨#[44, 32]⟩] 9)
                    have hWBL : Below B w1 (w5.alloc (.cells #[.string ⟨#[32, 58, 45, 32]⟩, .string ⟨#[44, 32]⟩] 9)) := (hbA.trans (hb5.mono (by simp; omega))).alloc (by omega) _
                    (refine wpAnyH_takeW 3 rfl rfl (by kernel_rfl) (by kernel_rfl) (by kernel_rfl) (fun _ _ _ h => h) (v := ?_) (by kernel_rfl) hS ?_ ?_; rotate_left; (focus (intro x hx; have fx := HX.out x hx; go_simp; (try with_reducible rfl); done)); (try simp only [Act.put, List.setIfInBounds_toArray, List.set_cons_zero, List.set_cons_succ]))
                    refine wpAnyH_one 4 (by kernel_rfl) rfl ?_
                    intro K' hK'
                    go_simp
                    refine hK'.out _ _ hS ?_
                    clear hK' K'
                    (refine wpAnyH_takeW 7 rfl rfl (by kernel_rfl) (by kernel_rfl) (by kernel_rfl) (fun _ _ _ h => h) (v := ?_) (by kernel_rfl) hS ?_ ?_; rotate_left; (focus (intro x hx; have fx := HX.out x hx; go_simp; (try with_reducible rfl); done)); (try simp only [Act.put, List.setIfInBounds_toArray, List.set_cons_zero, List.set_cons_succ]))
                    refine wpAnyH_one 8 (by kernel_rfl) rfl ?_
                    intro K' hK'
                    go_simp
                    refine (write_any B B outj (32 :: 58 :: 45 :: 32 :: pl) _ hWBW (by simp only [List.length_cons]; omega) (by (try simp only [World.size_alloc]); omega)).mono ?_
                    rintro e w9 ⟨⟨v9, rfl⟩, hbw9, hb9, hk9⟩
                    refine hK'.out _ _ (okept hk9 hS (by omega) (by decide)) ?_
                    clear hK' K'
                    refine wpAnyH_done (by kernel_rfl) ?_ _
                    go_wp2_with fail
                    go_meet
                    exact ⟨by first | exact hbw9 | (rw [if_neg hj0]; exact hbw9), hWBL.trans hb9⟩
                · have hj1 : 1 ≤ j := by omega
                  have hmin : min (j : Int) 1 = 1 := by omega
                  have hj1I : (1 : Int) ≤ (j : Int) := by omega
                  have hj1n : ¬ (j : Int) < 1 := by omega
                  refine wpH_region (fun x => x.heap[bl]? = some (.cells #[.bool neg, .string ⟨op.toArray⟩, .string ⟨ynm.toArray⟩, .slice A3 n3 c3] 54 (0, 0))) (by kernel_rfl) ?_
                  (refine wpAnyH_takeW 1 rfl rfl (by kernel_rfl) (by kernel_rfl) (by kernel_rfl) (fun _ _ _ h => h) (v := ?_) (by kernel_rfl) hS ?_ ?_; rotate_left; (focus (intro x hx; have fx := HX.out x hx; go_simp; (try with_reducible rfl); done)); (try simp only [Act.put, List.setIfInBounds_toArray, List.set_cons_zero, List.set_cons_succ]))
                  (refine wpAnyH_takeW 2 rfl rfl (by kernel_rfl) (by kernel_rfl) (by kernel_rfl) (fun _ _ _ h => h) (v := ?_) (by kernel_rfl) hS ?_ ?_; rotate_left; (focus (intro x hx; have fx := HX.out x hx; go_simp; (try with_reducible rfl); done)); (try simp only [Act.put, List.setIfInBounds_toArray, List.set_cons_zero, List.set_cons_succ]))
                  (refine wpAnyH_takeW 5 rfl rfl (by kernel_rfl) (by kernel_rfl) (by kernel_rfl) (fun _ _ _ h => h) (v := ?_) (by kernel_rfl) hS ?_ ?_; rotate_left; (focus (intro x hx; have fx := HX.out x hx; go_simp; (try with_reducible rfl); done)); (try simp only [Act.put, List.setIfInBounds_toArray, List.set_cons_zero, List.set_cons_succ]))
                  refine wpAnyH_two 0 6 (by kernel_rfl) rfl rfl ?_ ?_
                  · intro K' hK'
                    go_simp
                    refine hK'.out _ _ (blkOld hS _) ?_
                    clear hK' K'
                    have hS := blkOld hS (.cells #[.string ⟨#[32, 58, 45, 32]⟩, .string ⟨#[44, 32]⟩] 9)
                    have hbA : Below B w1 (W0.drew.alloc (.cells #[.string ⟨#[32, 58, 45, 32]⟩, .string ⟨#[44, 32]⟩] 9)) := HBJ.out.drew.alloc (by simp; omega) _
                    have hbwA := (HBWJ.out.below (w' := W0.drew) (Below.refl _ _).drew).alloc (.cells #[.string ⟨#[32, 58, 45, 32]⟩, .string ⟨#[44, 32]⟩] 9)
                    (refine wpAnyH_takeW 3 rfl rfl (by kernel_rfl) (by kernel_rfl) (by kernel_rfl) (fun _ _ _ h => h) (v := ?_) (by kernel_rfl) hS ?_ ?_; rotate_left; (focus (intro x hx; have fx := HX.out x hx; go_simp; (try with_reducible rfl); done)); (try simp only [Act.put, List.setIfInBounds_toArray, List.set_cons_zero, List.set_cons_succ]))
                    refine wpAnyH_two 4 6 (by kernel_rfl) rfl rfl ?_ ?_
                    · intro K' hK'
                      go_simp
                      refine hK'.out _ _ hS ?_
                      clear hK' K'
                      refine wpAnyH_one 6 (by kernel_rfl) rfl ?_
                      intro K' hK'
                      go_simp
                      refine (HPL.out _ _ (HSY.out _ hbA) (HLD.out _ hbA)).mono ?_
                      rintro e w5 ⟨rfl, hb5⟩
                      have hS := keptBlk hb5 hS
                      have hsz5 := hb5.size
                      simp at hsz5
                      refine hK'.out _ _ hS ?_
                      clear hK' K'
                      have hWBW := hbwA.below hb5
                      have hWBL := hbA.trans (hb5.mono (by simp; omega))
                      (refine wpAnyH_takeW 7 rfl rfl (by kernel_rfl) (by kernel_rfl) (by kernel_rfl) (fun _ _ _ h => h) (v := ?_) (by kernel_rfl) hS ?_ ?_; rotate_left; (focus (intro x hx; have fx := HX.out x hx; go_simp; (try with_reducible rfl); done)); (try simp only [Act.put, List.setIfInBounds_toArray, List.set_cons_zero, List.set_cons_succ]))
                      refine wpAnyH_one 8 (by kernel_rfl) rfl ?_
                      intro K' hK'
                      go_simp
                      refine (write_any B B outj (44 :: 32 :: pl) _ hWBW (by simp only [List.length_cons]; omega) (by (try simp only [World.size_alloc]); omega)).mono ?_
                      rintro e w9 ⟨⟨v9, rfl⟩, hbw9, hb9, hk9⟩
                      refine hK'.out _ _ (okept hk9 hS (by omega) (by decide)) ?_
                      clear hK' K'
                      refine wpAnyH_done (by kernel_rfl) ?_ _
                      go_wp2_with fail
                      go_meet
                      exact ⟨by first | exact hbw9 | (rw [if_neg hj0]; exact hbw9), hWBL.trans hb9⟩
                    · intro K' hK'
                      go_simp
                      refine (HPL.out _ _ (HSY.out _ hbA) (HLD.out _ hbA)).mono ?_
                      rintro e w5 ⟨rfl, hb5⟩
                      have hAr : w5.heap[bl + 1]? = some (.cells #[.string ⟨#[32, 58, 45, 32]⟩, .string ⟨#[44, 32]⟩] 9 (0, 0)) := keptBlk hb5 (blkAt2 (by simp; omega) rfl)
                      have a0 := (cell_blk hAr 1).trans rfl
                      have hS := keptBlk hb5 hS
                      have hsz5 := hb5.size
                      simp at hsz5
                      refine hK'.out _ _ hS ?_
                      clear hK' K'
                      have hWBW := hbwA.below hb5
                      have hWBL := hbA.trans (hb5.mono (by simp; omega))
                      refine wpAnyH_one 4 (by kernel_rfl) rfl ?_
                      intro K' hK'
                      go_simp
                      refine hK'.out _ _ hS ?_
                      clear hK' K'
                      (refine wpAnyH_takeW 7 rfl rfl (by kernel_rfl) (by kernel_rfl) (by kernel_rfl) (fun _ _ _ h => h) (v := ?_) (by kernel_rfl) hS ?_ ?_; rotate_left; (focus (intro x hx; have fx := HX.out x hx; go_simp; (try with_reducible rfl); done)); (try simp only [Act.put, List.setIfInBounds_toArray, List.set_cons_zero, List.set_cons_succ]))
                      refine wpAnyH_one 8 (by kernel_rfl) rfl ?_
                      intro K' hK'
                      go_simp
                      refine (write_any B B outj (44 :: 32 :: pl) _ hWBW (by simp only [List.length_cons]; omega) (by (try simp only [World.size_alloc]); omega)).mono ?_
                      rintro e w9 ⟨⟨v9, rfl⟩, hbw9, hb9, hk9⟩
                      refine hK'.out _ _ (okept hk9 hS (by omega) (by decide)) ?_
                      clear hK' K'
                      refine wpAnyH_done (by kernel_rfl) ?_ _
                      go_wp2_with fail
                      go_meet
                      exact ⟨by first | exact hbw9 | (rw [if_neg hj0]; exact hbw9), hWBL.trans hb9⟩
                  · intro K' hK'
                    go_simp
                    have hbA : Below B w1 W0.drew := HBJ.out.drew
                    refine (HPL.out _ _ (HSY.out _ hbA) (HLD.out _ hbA)).mono ?_
                    rintro e w5 ⟨rfl, hb5⟩
                    have hS := keptBlk hb5 hS
                    have hsz5 := hb5.size
                    simp at hsz5
                    refine hK'.out _ _ hS ?_
                    clear hK' K'
                    refine wpAnyH_one 0 (by kernel_rfl) rfl ?_
                    intro K' hK'
                    go_simp
                    refine hK'.out _ _ (blkOld hS _) ?_
                    clear hK' K'
                    have hS := blkOld hS (.cells #[.string ⟨#[32, 58, 45, 32]⟩, .string ⟨#[44, 32]⟩] 9)
                    have hWBW := ((HBWJ.out.below (w' := W0.drew) (Below.refl _ _).drew).below hb5).alloc (.cells #[.string ⟨#[32, 58, 45, 32]⟩, .string ⟨#[44, 32]⟩] 9)
                    have hWBL : Below B w1 (w5.alloc (.cells #[.string ⟨#[32, 58, 45, 32]⟩, .string ⟨#[44, 32]⟩] 9)) := (hbA.trans (hb5.mono (by simp; omega))).alloc (by omega) _
                    (refine wpAnyH_takeW 3 rfl rfl (by kernel_rfl) (by kernel_rfl) (by kernel_rfl) (fun _ _ _ h => h) (v := ?_) (by kernel_rfl) hS ?_ ?_; rotate_left; (focus (intro x hx; have fx := HX.out x hx; go_simp; (try with_reducible rfl); done)); (try simp only [Act.put, List.setIfInBounds_toArray, List.set_cons_zero, List.set_cons_succ]))
                    refine wpAnyH_one 4 (by kernel_rfl) rfl ?_
                    intro K' hK'
                    go_simp
                    refine hK'.out _ _ hS ?_
                    clear hK' K'
                    (refine wpAnyH_takeW 7 rfl rfl (by kernel_rfl) (by kernel_rfl) (by kernel_rfl) (fun _ _ _ h => h) (v := ?_) (by kernel_rfl) hS ?_ ?_; rotate_left; (focus (intro x hx; have fx := HX.out x hx; go_simp; (try with_reducible rfl); done)); (try simp only [Act.put, List.setIfInBounds_toArray, List.set_cons_zero, List.set_cons_succ]))
                    refine wpAnyH_one 8 (by kernel_rfl) rfl ?_
                    intro K' hK'
                    go_simp
                    refine (write_any B B outj (44 :: 32 :: pl) _ hWBW (by simp only [List.length_cons]; omega) (by (try simp only [World.size_alloc]); omega)).mono ?_
                    rintro e w9 ⟨⟨v9, rfl⟩, hbw9, hb9, hk9⟩
                    refine hK'.out _ _ (okept hk9 hS (by omega) (by decide)) ?_
                    clear hK' K'
                    refine wpAnyH_done (by kernel_rfl) ?_ _
                    go_wp2_with fail
                    go_meet
                    exact ⟨by first | exact hbw9 | (rw [if_neg hj0]; exact hbw9), hWBL.trans hb9⟩
              case rest =>
                obtain ⟨hbw9, hbl9⟩ := hcut
                have hd2 := HD2.out
                have e9 : (if decide (j = 0) = true then ([32, 58, 45, 32] : Bs) else [44, 32]) = if j = 0 then [32, 58, 45, 32] else [44, 32] := by by_cases h : j = 0 <;> simp [h]
                rw [e9] at hd2
                have hl9 : (outj ++ ((if j = 0 then ([32, 58, 45, 32] : Bs) else [44, 32]) ++ pl)).length ≤ 5000 * k + 830 + 844 * (j + 1) := by
                  have : (if j = 0 then ([32, 58, 45, 32] : Bs) else [44, 32]).length ≤ 4 := by split <;> simp
                  simp only [List.length_append]
                  omega
                generalize (outj ++ ((if j = 0 then ([32, 58, 45, 32] : Bs) else [44, 32]) ++ pl)) = o9 at *
                have HB9 := Lib.hid hbw9; have HL9 := Lib.hid hbl9; have HD9 := Lib.hid hd2; clear hbw9 hbl9 hd2 e9
                go_wp2_with fail
                go_roundw
                case rel => exact ⟨j + 1, by omega, by go_num, o9, HB9.out, HL9.out, hl9, HD9.out⟩
                case measure => simp [intOf]; omega
            · have hg2 := hg.out
              rw [drop_end hltj] at hg2
              have hg2 : prBody (out ++ pa) body true = outj := hg2
              have hd := HD.out
              rw [hg2] at hd
              have hrl := HRL.out
              rw [hg2] at hrl
              simp only [List.length_append, List.length_cons, List.length_nil] at hrl
              have HD3 := Lib.hid hd; have HBWJ := Lib.hid hbwj; have HBJ := Lib.hid hbj
              clear hg2 hd hg hbwj hbj
              go_wp2_with fail
              refine (write_any B B outj [46, 10] _ HBWJ.out (by simp; omega) (by omega)).mono ?_
              rintro e w9 ⟨⟨v9, rfl⟩, hbw9, hb9, -⟩
              have HB9 := Lib.hid hbw9; have HL9 := Lib.hid (HBJ.out.trans hb9); clear hbw9 hb9
              go_wp2_with fail
              go_roundw
              case rel => exact ⟨k + 1, by omega, by go_num, outj ++ [46, 10], HB9.out, HL9.out, by simp; omega, HD3.out⟩
              case measure => simp [intOf]; omega
        · have hd := hf.out
          rw [drop_end hlt] at hd
          have hd : prRules [] l = out := hd
          have hv := HV.out
          rw [hd] at hv
          have HV2 := Lib.hid hv; have HBW := Lib.hid hbw; have HB := Lib.hid hb
          clear hd hv hbw hb hf
          go_wp2_with fail
          refine (bstr_any B B out _ HBW.out (by omega)).mono ?_
          rintro e w9 ⟨rfl, hb9⟩
          go_wp2_with fail
          go_ret2
          exact ⟨by rw [HV2.out]; rfl, (HB1.out.trans ((HB.out.trans hb9).mono (by omega)))⟩
end Go.Proofs.YtjopmgoacncmgaaGreatDoor
