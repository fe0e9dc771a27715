/- Query (package licitlaw54): a part of the proofs of its laws; see the law's own text, which comes last in 'order'. No conditions of its own. -/
import Derived.Test.YtkjoaodoioicpaaGreatDoorWC27
set_option linter.unusedVariables false
set_option linter.unusedSimpArgs false
namespace Go.Proofs.YtkjoaodoioicpaaGreatDoor
open Go.RowKit
instance : GoT Int where
  size := 1
  rd := fun _ _ g x => g 0 = .int .i64 x
  keep := fun _ h => h
  wide := fun _ h => h
  same := fun hg h => (hg 0 (by omega)).trans h
  one := fun h j hj => by obtain rfl : j = 0 := by omega
                          rw [h]; rfl
theorem eltInt : Elt 53 3 1 8 := .mk' (z := .int .i64 0) (by kernel_rfl) (by kernel_rfl) rfl
set_option maxRecDepth 100000 in
set_option maxHeartbeats 16000000 in
theorem RanksQ_any (A : Option Addr) (n c : Nat) (l : List Rul) (B : Option Addr) (m d : Nat) (facts : List Atm) (w : World) (S T : Nat → Prop) (hl : Sl w S A n c l) (hf : Sl w T B m d facts) (ho : ∀ r ∈ l, OkR r) (hof : ∀ a ∈ facts, OkT a) (hL : LD w)
    (V : List Int × Int × Int) (hV : ranksS l facts = some V) (hB : ∀ known : List Atm, known.length < (modelS l facts).1.length → ∀ r ∈ l, (eachQ r.body known (modelS l facts).1).length ≤ 1000) :
    Calls Tryz.prog 19 #[.slice A n c, .slice B m d] w fun e w' => ∃ A' n' c', e = .returned (.tuple #[.slice A' n' c', .int .i64 V.2.1, .int .i64 V.2.2]) ∧ Sl w' (fun k => w.heap.size ≤ k) A' n' c' V.1 ∧ Below w.heap.size w w' := by
  have hn := hl.len; have hm := hf.len
  subst hn hm
  have hle := hl.le
  have hmd := modelQ_any A l.length c l B facts.length d facts w S T hl hf ho hof hL
  unfold ranksS at hV
  have hmo := @modelS_ok l facts
  have hmlen := @model_len l facts
  by_cases he : (modelS l facts).2.2 = 0
  · obtain ⟨hmc, -⟩ := hmo he
    obtain ⟨hck, hfl, hgf⟩ := checkQ_zero hmc
    obtain ⟨h64, hrs, -⟩ := (checkS_ok l).1 hck
    rw [if_neg (by simpa using he), Option.map_eq_some_iff] at hV
    obtain ⟨rks, hrk, rfl⟩ := hV
    have hl2048 := hmlen he
    have hgv := fun w' (hb' : Below w.heap.size w w') => givenQ_any B facts.length d facts w' T (hf.below hb') hgf (by omega) (hL.below hb')
    have hgl : (givenS facts).length ≤ 1024 := by have := given_len facts; omega
    generalize givenS facts = gf at *
    generalize modelS l facts = M at *
    obtain ⟨all, mi, me⟩ := M
    simp only at he hrk hl2048 hB hmd ⊢
    subst he
    have hmm := @run_makeMap Tryz.prog
    have HMD := Lib.hid hmd; have HGV := Lib.hid hgv; have HRS := Lib.hid hrs; have HL := Lib.hid hL; have HRK := Lib.hid hrk; have HBN := Lib.hid hB; have HSL := Lib.hid (hl.wide (S' := fun k => k < w.heap.size) (fun k hk _ => hk) (by decide))
    clear hmd hgv hrs hL hrk hB hl hf ho hof hmo hmlen hck hfl hgf hmc
    go_enter Tryz.func19, Tryz.ntmps19
    go_wp2_with fail
    refine HMD.out.mono ?_
    rintro e w1 ⟨hb1, h1⟩
    rw [if_neg (by simp)] at h1
    obtain ⟨pa, F1, I1, rfl, hba, hbda, hpa⟩ := h1
    have HB1 := Lib.hid hb1; have HBA := Lib.hid hba; have HBDA := Lib.hid hbda
    clear hb1 hba hbda HMD
    go_wp2_with fail
    refine (HGV.out w1 HB1.out).mono ?_
    rintro e w2 ⟨pk, F0, I0, rfl, hbk, hbdk, hpk, hb2⟩
    have HB2 := Lib.hid hb2; have HBK := Lib.hid hbk; have HBDK := Lib.hid hbdk
    clear hb2 hbk hbdk HGV
    go_wp2_with fail
    have hbW : Below w2.heap.size w2 ((w2.alloc (.map #[] 0)).alloc (.cells #[.pointer (some ⟨pk, 0, none⟩)] 65)) := belowA (belowA (Below.refl _ _) _) _
    have hmap : MapR ((w2.alloc (.map #[] 0)).alloc (.cells #[.pointer (some ⟨pk, 0, none⟩)] 65)) w2.heap.size [] := (MapR.made w2).alloc _
    have hkk : ((w2.alloc (.map #[] 0)).alloc (.cells #[.pointer (some ⟨pk, 0, none⟩)] 65)).heap[w2.heap.size + 1]? = some (.cells #[.pointer (some ⟨pk, 0, none⟩)] 65 (0, 0)) := blkAt _ _ (by simp)
    have hsW : ((w2.alloc (.map #[] 0)).alloc (.cells #[.pointer (some ⟨pk, 0, none⟩)] 65)).heap.size = w2.heap.size + 2 := by simp
    generalize ((w2.alloc (.map #[] 0)).alloc (.cells #[.pointer (some ⟨pk, 0, none⟩)] 65)) = W0 at *
    have hw1 := HB1.out.size
    have hw2 := HB2.out.size
    have hplt := HBK.out.lt
    have hrki : RkI W0 W0 F0 I0 F0 I0 pk w2.heap.size gf [] :=
      ⟨HBK.out.below hbW, hmap, fun _ h => .inl h, fun _ h => .inl h, fun k hk => by have := (HBDK.out k hk).2; omega, Frm.refl _ _, ⟨fun h => by have := (HBDK.out _ (.inl h)).2; omega, fun h => by have := (HBDK.out _ (.inr h)).2; omega, by omega⟩, fun p hp => (by cases hp), Nat.zero_le _⟩
    have hpal := HBA.out.lt
    -- what stays
    have hkeep : ∀ wx, Frm (fun k => F0 k ∨ k = w2.heap.size) W0 wx → Sl wx (fun k => k < w.heap.size) A l.length c l ∧ BaseR wx F1 I1 pa all ∧ wx.heap[w2.heap.size + 1]? = some (.cells #[.pointer (some ⟨pk, 0, none⟩)] 65 (0, 0)) ∧ Below w.heap.size w wx := fun wx hfx => by
      have hlow : ∀ k, k < w1.heap.size → wx.heap[k]? = w1.heap[k]? := fun k hk => by
        rw [hfx.block k (by omega) (fun h => by rcases h with h | h; have := (HBDK.out k (.inl h)).1; omega; omega), hbW.block k (by omega), HB2.out.block k hk]
      have hbx : Below w.heap.size w wx := ((HB1.out.trans (HB2.out.mono hw1)).trans (hbW.mono (by omega))).trans (hfx.below (by omega) fun k hk h => by rcases h with h | h; have := (HBDK.out k (.inl h)).1; omega; omega)
      refine ⟨HSL.out.keep fun k hk _ => (hlow k (by omega)).trans (HB1.out.block k hk), HBA.out.keep fun k hk h => hlow k ?_, (hfx.block _ (by omega) (fun h => by rcases h with h | h; have := (HBDK.out _ (.inl h)).2; omega; omega)).trans hkk, hbx⟩
      rcases h with h | h | h
      · exact (HBDA.out k (.inl h)).2
      · exact (HBDA.out k (.inr h)).2
      · omega
    have HKEEP := Lib.hid hkeep; have HRKI := Lib.hid hrki; have HS0 := Lib.hid hsW
    have hF1 : ∀ k, F1 k ∨ I1 k ∨ k = pa → k < W0.heap.size := fun k hk => by
      rcases hk with h | h | h
      · have := (HBDA.out k (.inl h)).2; omega
      · have := (HBDA.out k (.inr h)).2; omega
      · omega
    have HF1 := Lib.hid hF1
    clear hbW hmap hkk hsW hrki hkeep hpal hF1
    go_loopg [12] (all.length + 1) (fun g av wr => ∃ nn : Nat, av = .int .i64 nn ∧ nn + g = all.length + 2 ∧ Hid (∃ known rk Fk Ik, RkI W0 wr F0 I0 Fk Ik pk w2.heap.size known rk ∧ some rks = rankGo l all g nn known rk ∧ known.length ≤ 100000))
    case atStart => exact ⟨1, rfl, by omega, Lib.hid ⟨gf, [], F0, I0, HRKI.out, HRK.out.symm, by omega⟩⟩
    case round =>
      obtain ⟨nn, rfl, hgn, hq⟩ := hrel
      obtain ⟨known, rk, Fk, Ik, h1, h2, h3⟩ := hq.out
      clear hq
      cases gk with
      | zero => rw [rankGo] at h2; cases h2
      | succ g' =>
        rw [rankGo_succ] at h2
        obtain ⟨hk1, hk2, hk3, hk4⟩ := HKEEP.out wr h1.frm
        obtain ⟨fa, fma, qa, -, hma, hfa⟩ := hk2.len
        obtain ⟨fb, fm, qb, -, hmb, hfb⟩ := h1.base.len
        have HX := Lib.hid (fun (z : World) (hz : Below wr.heap.size wr z) => And.intro ((cell_blk (keptBlk hz hk3) 0).trans rfl) (And.intro (cell_later hz qa) (And.intro (cell_later hz qb) (And.intro ((hma.below hz).len Tryz.underlying88 3) ((hmb.below hz).len Tryz.underlying88 3)))))
        have HFA := Lib.hid hfa; have HFB := Lib.hid hfb
        have H1 := Lib.hid h1; have H2 := Lib.hid h2
        have hwW := h1.frm.size
        clear h1 h2 hk1 hk2 hk3 hk4 qa hma hfa qb hmb hfb
        go_wp2_with fail
        refine wpH_region (fun z => Below wr.heap.size wr z) (by kernel_rfl) ?_
        have hS : Below wr.heap.size wr wr.drew := (Below.refl _ _).drew
        (refine tkW 0 (v := ?_) hS ?_ ?_; rotate_left; (focus (intro x hx; have fx := HX.out x hx; go_simp; (try with_reducible rfl); done)); (try simp only [Act.put, lsa, lsz, lss]))
        (refine tkW 1 (v := ?_) hS ?_ ?_; rotate_left; (focus (intro x hx; have fx := HX.out x hx; go_simp; (try with_reducible rfl); done)); (try simp only [Act.put, lsa, lsz, lss]))
        (refine tkW 2 (v := ?_) hS ?_ ?_; rotate_left; (focus (intro x hx; have fx := HX.out x hx; go_simp; (try with_reducible rfl); done)); (try simp only [Act.put, lsa, lsz, lss]))
        (refine tkW 3 (v := ?_) hS ?_ ?_; rotate_left; (focus (intro x hx; have fx := HX.out x hx; go_simp; (try with_reducible rfl); done)); (try simp only [Act.put, lsa, lsz, lss]))
        (refine tkW 4 (v := ?_) hS ?_ ?_; rotate_left; (focus (intro x hx; have fx := HX.out x hx; go_simp; (try with_reducible rfl); done)); (try simp only [Act.put, lsa, lsz, lss]))
        (refine tkW 5 (v := ?_) hS ?_ ?_; rotate_left; (focus (intro x hx; have fx := HX.out x hx; go_simp; (try with_reducible rfl); done)); (try simp only [Act.put, lsa, lsz, lss]))
        (refine tkW 6 (v := ?_) hS ?_ ?_; rotate_left; (focus (intro x hx; have fx := HX.out x hx; go_simp; (try with_reducible rfl); done)); (try simp only [Act.put, lsa, lsz, lss]))
        (refine tkW 7 (v := ?_) hS ?_ ?_; rotate_left; (focus (intro x hx; have fx := HX.out x hx; go_simp; (try with_reducible rfl); done)); (try simp only [Act.put, lsa, lsz, lss]))
        (refine tkW 8 (v := ?_) hS ?_ ?_; rotate_left; (focus (intro x hx; have fx := HX.out x hx; go_simp; (try with_reducible rfl); done)); (try simp only [Act.put, lsa, lsz, lss]))
        (refine tkW 9 (v := ?_) hS ?_ ?_; rotate_left; (focus (intro x hx; have fx := HX.out x hx; go_simp; (try with_reducible rfl); done)); (try simp only [Act.put, lsa, lsz, lss]))
        have hfa := HFA.out; have hfb := HFB.out
        by_cases hlt : known.length < all.length
        · have hltI : (fm.length : Int) < (fma.length : Int) := by omega
          refine wpAnyH_takeW 10 rfl rfl (by kernel_rfl) (by kernel_rfl) (by kernel_rfl) (fun _ _ _ h => h) (v := .bool true) (by kernel_rfl) hS (fun x hx => by have fx := HX.out x hx; go_simp; try omega) ?_
          simp only [Act.put, lsa, lsz, lss]
          refine wpAnyH_done (by kernel_rfl) ?_ _
          have h6 := H1.out.below hS
          generalize wr.drew = W6 at *
          have H6 := Lib.hid h6
          have hw6 := hS.size
          clear HX h6 hS H1
          have h2 := H2.out
          rw [if_pos hlt] at h2
          have HR2 := Lib.hid h2
          have hbnd := HBN.out known hlt
          have HBND := Lib.hid hbnd
          clear h2 H2 hfa hfb hbnd HFA HFB
          go_wp2_with fail
          have HLT := Lib.hid hlt
          clear hltI hlt
          have hkh0 := blkAt W6 (.cells #[.slice none 0 0] 23) rfl
          have hbA : Below W6.heap.size W6 (W6.alloc (.cells #[.slice none 0 0] 23)) := boxed
          generalize W6.alloc (.cells #[.slice none 0 0] 23) = WA at *
          have HKH0 := Lib.hid hkh0; have HBA0 := Lib.hid hbA
          clear hkh0 hbA
          obtain ⟨hs0, hhs0⟩ : ∃ hs0, hs0 = rankH known all l [] := ⟨_, rfl⟩
          rw [← hhs0] at HR2
          have HHS0 : Hid (hs0 = rankH known all (l.drop 0) []) := Lib.hid hhs0
          clear hhs0
          have hFk : ∀ k, Fk k ∨ Ik k → k < W6.heap.size := H6.out.b
          have hpkl := H6.out.base.lt
          have HFK := Lib.hid hFk; clear hFk
          obtain ⟨wz, rfl⟩ : ∃ wz, wz = wr := ⟨_, rfl⟩
          go_loopw [50] (fun i wx => ∃ k : Nat, k ≤ l.length ∧ i = .int .i64 k ∧ Hid (∃ (s : List Atm) (Th : Nat → Prop) (Ah : Option Addr) (ch : Nat), wx.heap[W6.heap.size]? = some (.cells #[.slice Ah s.length ch] 23 (0, 0)) ∧ Own wx Th W6.heap.size 31 Ah ch s ∧ (∀ q, Th q → q < wx.heap.size ∧ q ≠ W6.heap.size ∧ Ah.map Addr.block ≠ some q ∧ W6.heap.size ≤ q) ∧ Ah.map Addr.block ≠ some W6.heap.size ∧ Below W6.heap.size W6 wx ∧ hs0 = rankH known all (l.drop k) s ∧ s.length ≤ k * 1000 ∧ ∀ h ∈ s, groundP h = true)) (fun i _ => l.length - (intOf i).toNat)
          case atStart => exact ⟨0, by omega, rfl, Lib.hid ⟨[], fun _ => False, none, 0, HKH0.out, Own.nil _ _ _ _, fun _ h => h.elim, (fun e => by cases e), HBA0.out, HHS0.out, Nat.le_refl _, fun _ h => by cases h⟩⟩
          case round =>
            obtain ⟨k, hk, rfl, hq⟩ := hrel
            obtain ⟨s, Th, Ah, ch, r1, r2, r3, r4, r5, r6, r7, r8⟩ := hq.out
            clear hq
            obtain ⟨hk1, hk2, hk3, hk4⟩ := HKEEP.out wr (H6.out.frm.trans (Frm.any r5))
            have hkhl := (Array.getElem?_eq_some_iff.1 r1).1
            by_cases hlt : k < l.length
            · obtain ⟨b1, o1, hA1, -, hbs1, A1, n1, c1, A2, n2, c2, g1, g2, g3, hs1, hs2⟩ := hk1.rul hlt
              subst hA1
              obtain ⟨hrr, hrs2⟩ := HRS.out _ (List.getElem_mem hlt)
              have hbd := HBND.out _ (List.getElem_mem hlt)
              rw [drop_get hlt, rankH_cons] at r6
              generalize l[k] = r at *
              obtain ⟨hok, hbo, hkd, hh6, hhd⟩ := ruleS_ok hrr
              have hrok : RuleOk r := ⟨safe_safe hrs2, hhd⟩
              have hpr := heads_ground hrok (b := known) (nb := all) H6.out.base.gr
              have hln := rank_len known r.head (eachQ r.body known all) s
              have hgs := rank_ground known r.head (eachQ r.body known all) s r8 hpr
              obtain rfl : n1 = r.head.args.length := hs1.len
              have kk0 := (cell_blk hk3 0).trans rfl
              have hkkl : w2.heap.size + 1 < wr.heap.size := (Array.getElem?_eq_some_iff.1 hk3).1
              have R1 := Lib.hid r1; have R2 := Lib.hid r2; have R3 := Lib.hid r3; have R4 := Lib.hid r4; have R5 := Lib.hid r5; have R6 := Lib.hid r6; have HK2 := Lib.hid hk2; have HK3 := Lib.hid hk3; have HK4 := Lib.hid hk4; have HS1 := Lib.hid hs1; have HS2 := Lib.hid hs2; have HOK := Lib.hid hok; have HBO := Lib.hid hbo; have HKD := Lib.hid hkd; have HPR := Lib.hid hpr; have HLN := Lib.hid hln; have HGS := Lib.hid hgs; have HBD := Lib.hid hbd
              clear r1 r2 r3 r4 r5 r6 r8 hk1 hk2 hk3 hk4 hs1 hs2 hok hbo hkd hpr hln hgs hbd hrr hrs2 hhd hrok
              go_wp2_with fail
              have hb7 : Below wr.heap.size wr (wr.alloc (.cells #[.string ⟨r.head.name.toArray⟩, .slice A1 r.head.args.length c1, .slice A2 n2 c2] 34)) := boxed
              have hkr := blkAt wr (.cells #[.string ⟨r.head.name.toArray⟩, .slice A1 r.head.args.length c1, .slice A2 n2 c2] 34) rfl
              have hs7 : (wr.alloc (.cells #[.string ⟨r.head.name.toArray⟩, .slice A1 r.head.args.length c1, .slice A2 n2 c2] 34)).heap.size = wr.heap.size + 1 := by simp
              generalize wr.alloc (.cells #[.string ⟨r.head.name.toArray⟩, .slice A1 r.head.args.length c1, .slice A2 n2 c2] 34) = W7 at *
              clear kk0 g1 g2 g3 hkkl
              have hw6s := R5.out.size
              have hwW0 := H6.out.frm.size
              have hs0' := HS0.out
              have hw67 : w.heap.size ≤ W6.heap.size := by omega
              have hAl := R2.out.lt
              have hL6 := HL.out.below (HKEEP.out W6 H6.out.frm).2.2.2
              have hrx : RkX W6 pk wr.heap.size (w2.heap.size + 1) W6.heap.size A1 r.head.args.length c1 A2 n2 c2 r.head Fk Ik known (fun k => k < w.heap.size) W7 s Th Ah ch :=
                ⟨keptBlk hb7 R1.out, R2.out.below hb7, fun q hq => ⟨by have := (R3.out q hq).1; omega, (R3.out q hq).2⟩, ⟨R4.out, Nat.le_refl _⟩, (H6.out.base.below R5.out).below hb7, hkr, keptBlk hb7 HK3.out, HS1.out.below hb7, fun q hq => ?_, R5.out.trans (hb7.mono hw6s)⟩
              rotate_left
              · have hq6 : q = wr.heap.size ∨ q < W6.heap.size := by
                  rcases hq with h | h | h | h | h | h
                  · exact .inl h
                  · exact .inr (by omega)
                  · exact .inr (by omega)
                  · exact .inr (HFK.out q (.inl h))
                  · exact .inr (HFK.out q (.inr h))
                  · exact .inr (by omega)
                rcases hq6 with h | h
                · exact ⟨by omega, by omega, fun e => by have := (hAl q e).2; omega⟩
                · exact ⟨by omega, by omega, fun e => by have := (hAl q e).1; omega⟩
              have hea := eachQ_any (rank1_ok W6 hL6 pk wr.heap.size (w2.heap.size + 1) W6.heap.size A1 r.head.args.length c1 A2 n2 c2 r.head Fk Ik known (fun k => k < w.heap.size) HOK.out.1 (by omega)) (R := fun k => k < w.heap.size ∨ Fk k ∨ Ik k ∨ k = pk ∨ F1 k ∨ I1 k ∨ k = pa) (A := A2) (n := n2) (c := c2) (ps := pk) (pa := pa) (Fs := Fk) (Is := Ik) (Fa := F1) (Ia := I1) HBO.out HKD.out W7 s (fun k => k = W6.heap.size ∨ Ah.map Addr.block = some k)
                ((HS2.out.below hb7).wide (fun k _ h => .inl h) (by decide)) ((H6.out.base.below R5.out).below hb7) (HK2.out.below hb7) ⟨Th, Ah, ch, hrx, fun k => Iff.rfl⟩ (by have := HBD.out; show s.length + _ ≤ 100000; have : k * 1000 ≤ 64 * 1000 := Nat.mul_le_mul_right _ (by omega); omega) (fun k hk => by
                  rcases hk with h | h | h | h | h | h
                  · exact .inr (.inl h)
                  · exact .inr (.inr (.inl h))
                  · exact .inr (.inr (.inr (.inl h)))
                  · exact .inr (.inr (.inr (.inr (.inl h))))
                  · exact .inr (.inr (.inr (.inr (.inr (.inl h)))))
                  · exact .inr (.inr (.inr (.inr (.inr (.inr h)))))) (fun q hq => by
                  have hq6 : q < W6.heap.size := by
                    rcases hq with h | h | h | h | h | h | h
                    · omega
                    · exact HFK.out q (.inl h)
                    · exact HFK.out q (.inr h)
                    · omega
                    · have := HF1.out q (.inl h); omega
                    · have := HF1.out q (.inr (.inl h)); omega
                    · have := HF1.out q (.inr (.inr h)); omega
                  refine ⟨by omega, fun h => ?_⟩
                  rcases h with h | h
                  · omega
                  · have := (hAl q h).1; omega) HPR.out
              have HEA := Lib.hid hea
              clear hea hrx hb7 hkr hs7 hL6 hAl hw67
              refine HEA.out.mono ?_
              rintro e w8 ⟨rfl, G8, ⟨Th8, Ah8, ch8, hx8, hG8⟩, -, -⟩
              have HQ := Lib.hid (show ∃ (s : List Atm) (Th : Nat → Prop) (Ah : Option Addr) (ch : Nat), w8.heap[W6.heap.size]? = some (.cells #[.slice Ah s.length ch] 23 (0, 0)) ∧ Own w8 Th W6.heap.size 31 Ah ch s ∧ (∀ q, Th q → q < w8.heap.size ∧ q ≠ W6.heap.size ∧ Ah.map Addr.block ≠ some q ∧ W6.heap.size ≤ q) ∧ Ah.map Addr.block ≠ some W6.heap.size ∧ Below W6.heap.size W6 w8 ∧ hs0 = rankH known all (l.drop (k + 1)) s ∧ s.length ≤ (k + 1) * 1000 ∧ ∀ h ∈ s, groundP h = true from
                ⟨_, Th8, Ah8, ch8, hx8.hb, hx8.ho, hx8.d3, hx8.d4.1, hx8.bel, R6.out, by have := HLN.out; have := HBD.out; omega, HGS.out⟩)
              clear hx8 hG8 HEA
              go_wp2_with fail
              go_roundw
              case rel => exact ⟨k + 1, by omega, by go_num, HQ⟩
              case measure => simp [intOf]; omega
            · have hke : k = l.length := by omega
              subst hke
              rw [List.drop_length, rankH] at r6
              subst r6
              have kh0 := (cell_blk r1 0).trans rfl
              have hslh := (r2.sl (by decide)).wide (S' := fun q => W6.heap.size ≤ q ∧ q < wr.heap.size) (fun q hq1 hq => ⟨by rcases hq with h | h; exact (r3 q h).2.2.2; exact (r2.lt q h).1, hq1⟩) (by decide)
              have hrkB := H6.out.below r5
              have hs64 : hs0.length ≤ 64000 := by have : l.length * 1000 ≤ 64 * 1000 := Nat.mul_le_mul_right _ h64; omega
              have HSLH := Lib.hid hslh; have HRKB := Lib.hid hrkB; have HGS := Lib.hid r8; have HB5 := Lib.hid r5
              clear r1 r2 r3 r4 r5 r7 r8 hk1 hk2 hk3 hk4 hslh hrkB
              go_wp2_with fail
              clear kh0
              obtain ⟨wB, rfl⟩ : ∃ wB, wB = wr := ⟨_, rfl⟩
              go_loopw [63] (fun i wx => ∃ q : Nat, q ≤ hs0.length ∧ i = .int .i64 q ∧ Hid (∃ kn rk' F' I', RkI W0 wx F0 I0 F' I' pk w2.heap.size kn rk' ∧ (∀ k, F' k → Fk k ∨ wB.heap.size ≤ k) ∧ (∀ k, W6.heap.size ≤ k → k < wB.heap.size → wx.heap[k]? = wB.heap[k]?) ∧ rankAdd nn hs0 known rk = rankAdd nn (hs0.drop q) kn rk' ∧ kn.length ≤ known.length + q ∧ wB.heap.size ≤ wx.heap.size)) (fun i _ => hs0.length - (intOf i).toNat)
              case atStart => exact ⟨0, by omega, rfl, Lib.hid ⟨known, rk, Fk, Ik, HRKB.out, fun _ h => .inl h, fun _ _ _ => rfl, rfl, Nat.le_refl _, Nat.le_refl _⟩⟩
              case round =>
                obtain ⟨q, hq, rfl, hqq⟩ := hrel
                obtain ⟨kn, rk', F', I', s1, s2, s3, s4, s5, s6⟩ := hqq.out
                clear hqq
                obtain ⟨-, -, hk3, hk4⟩ := HKEEP.out wr s1.frm
                by_cases hlt : q < hs0.length
                · obtain ⟨b2, o2, hAh, -, hbs2, A5, n5, c5, e1, e2, hs5⟩ := (HSLH.out.keep (w' := wr) fun k _ hk => s3 k hk.1 hk.2).atm hlt
                  subst hAh
                  have hgx := HGS.out _ (List.getElem_mem hlt)
                  rw [drop_get hlt, rankAdd_cons] at s4
                  generalize hs0[q] = x at *
                  obtain rfl : n5 = x.args.length := hs5.len
                  have hL9 := HL.out.below hk4
                  have hknl : kn.length ≤ 200000 := by omega
                  have had := fun w' (hb' : Below wr.heap.size wr w') => addQ_any F' I' pk kn x A5 x.args.length c5 w' _ (s1.base.below hb') (fun k hk => Nat.lt_of_lt_of_le (s1.b k hk) hb'.size) (hs5.below hb') hgx (hL9.below hb') (by omega)
                  have hF9 : ∀ k, F' k → k < W6.heap.size ∨ wB.heap.size ≤ k := fun k hk => (s2 k hk).elim (fun h => .inl (HFK.out k (.inl h))) .inr
                  have hFl : ∀ k, F' k → k < wr.heap.size := fun k hk => s1.b k (.inl hk)
                  have kk0 := (cell_blk hk3 0).trans rfl
                  have hkkl : w2.heap.size + 1 < wr.heap.size := (Array.getElem?_eq_some_iff.1 hk3).1
                  have S1 := Lib.hid s1; have S2 := Lib.hid s2; have S3 := Lib.hid s3; have S4 := Lib.hid s4; have HAD := Lib.hid had; have HS5 := Lib.hid hs5; have HGX := Lib.hid hgx; have HK3 := Lib.hid hk3; have HL9 := Lib.hid hL9; have HF9 := Lib.hid hF9; have HFL := Lib.hid hFl
                  clear s1 s2 s3 s4 had hs5 hgx hk3 hk4 hL9 hF9 hFl
                  go_wp2_with fail
                  clear e1 e2 kk0 hkkl
                  have hb8 : Below wr.heap.size wr (wr.alloc (.cells #[.string ⟨x.name.toArray⟩, .slice A5 x.args.length c5] 31)) := boxed
                  have hx8 := blkAt wr (.cells #[.string ⟨x.name.toArray⟩, .slice A5 x.args.length c5] 31) rfl
                  have hs8 : (wr.alloc (.cells #[.string ⟨x.name.toArray⟩, .slice A5 x.args.length c5] 31)).heap.size = wr.heap.size + 1 := by simp
                  generalize wr.alloc (.cells #[.string ⟨x.name.toArray⟩, .slice A5 x.args.length c5] 31) = W8 at *
                  refine (HAD.out W8 hb8).mono ?_
                  rintro e w9 ⟨rfl, F9, I9, j1, j2⟩
                  have hz9 := j2.frm.size
                  have hx9 := (j2.frm.block wr.heap.size (by omega) (fun h => by have := HFL.out _ h; omega)).trans hx8
                  have hkeep9 : ∀ k, W6.heap.size ≤ k → k < wB.heap.size → w9.heap[k]? = wB.heap[k]? := fun k hk1 hk2 => by
                    rw [j2.frm.block k (by omega) (fun h => by rcases HF9.out k h with h | h <;> omega), hb8.block k (by omega), S3.out k hk1 hk2]
                  have hF99 : ∀ k, F9 k → Fk k ∨ wB.heap.size ≤ k := fun k hk => (j2.f2 k hk).elim (S2.out k) fun h => .inr (by omega)
                  have hsame := (S1.out.below hb8).same (fun a ha => addQ_mem.2 (.inl ha)) (addQ_len kn x).1 j1 j2
                  have hs9 := (HS5.out.below hb8).keep (w' := w9) fun k hk h => j2.frm.block k hk (fun hF => by rcases HF9.out k hF with h' | h'; have := h.1; omega; have := h.2; omega)
                  cases hcx : kn.contains x
                  case true =>
                    have hs4 := S4.out
                    rw [hcx, if_pos rfl] at hs4
                    have e1 : addQ kn x = kn := by rw [addQ, hcx]; rfl
                    rw [e1] at hsame
                    have HQ := Lib.hid (show ∃ kn rk' F' I', RkI W0 w9 F0 I0 F' I' pk w2.heap.size kn rk' ∧ (∀ k, F' k → Fk k ∨ wB.heap.size ≤ k) ∧ (∀ k, W6.heap.size ≤ k → k < wB.heap.size → w9.heap[k]? = wB.heap[k]?) ∧ rankAdd nn hs0 known rk = rankAdd nn (hs0.drop (q + 1)) kn rk' ∧ kn.length ≤ known.length + (q + 1) ∧ wB.heap.size ≤ w9.heap.size from
                      ⟨kn, rk', F9, I9, hsame, hF99, hkeep9, hs4, by omega, by omega⟩)
                    clear hsame hs4 e1 hcx hkeep9 hF99 hs9 hx9 j1 j2 hb8 hx8 hs8 HAD
                    go_wp2_with fail
                    go_roundw
                    case rel => exact ⟨q + 1, by omega, by go_num, HQ⟩
                    case measure => simp [intOf]; omega
                  case false =>
                    have hs4 := S4.out
                    rw [hcx, if_neg (by decide)] at hs4
                    have e1 : addQ kn x = kn ++ [x] := by rw [addQ, hcx]; rfl
                    rw [e1] at hsame
                    have hxn : ∀ p ∈ rk', p.1 ≠ x := fun p hp e => by
                      have := (S1.out.gr p hp).2
                      rw [e, ← List.contains_iff_mem, hcx] at this
                      cases this
                    have hgk := (rkMap_get rk' (fun p hp => (S1.out.gr p hp).1) x HGX.out).2 hxn
                    have hmp : rkMap (rk' ++ [(x, (nn : Int))]) = setK (rkMap rk') (printAtomS x).1 nn := by rw [setK_new _ _ _ hgk]; unfold rkMap; rw [List.map_append]; rfl
                    have hrl : (rkMap rk').length ≤ 200000 := by have := S1.out.ln; unfold rkMap; rw [List.length_map]; omega
                    have hky := key_any x A5 x.args.length c5 w9 _ hs9 (ground_okT HGX.out).1 (HL.out.below (HKEEP.out w9 hsame.frm).2.2.2)
                    have hpl := print_le x
                    have hln1 := S1.out.ln
                    generalize hks : (printAtomS x).1 = ks at *
                    have y0 := (cell_blk hx9 0).trans rfl; have y1 := (cell_blk hx9 1).trans rfl
                    have HSAME := Lib.hid hsame; have HS4 := Lib.hid hs4; have HMP := Lib.hid hmp; have HKY := Lib.hid hky; have HKP9 := Lib.hid hkeep9; have HF99 := Lib.hid hF99; have HZ := Lib.hid (And.intro hz9 (And.intro hs8 s6))
                    clear hsame hs4 hmp hky hkeep9 hF99 hs9 hx9 j1 j2 hb8 hx8 hs8 e1 hcx hxn hgk hks HAD hz9 s6
                    go_wp2_with fail
                    refine HKY.out.mono ?_
                    rintro e w10 ⟨rfl, hb10⟩
                    have hsm := HSAME.out.below hb10
                    have HSM := Lib.hid hsm; have HB10 := Lib.hid hb10
                    clear hsm hb10 HKY y0 y1
                    go_wp2_with (at_mapUpdate; refine wpList_updK rfl _ _ _ rfl rfl ks rfl (nn : Int) rfl HSM.out.map hpl ⟨by omega, by omega⟩ (by omega) ?_; intro w11 hm11 hg11; have HM11 := Lib.hid hm11; have HG11 := Lib.hid hg11; clear hm11 hg11)
                    have hm11 := HM11.out
                    rw [← HMP.out] at hm11
                    obtain ⟨z1, z2, z3⟩ := HZ.out
                    have hz10 := HB10.out.size
                    have hz11 := HG11.out.size
                    have hwW0 := H6.out.frm.size
                    have hs0' := HS0.out
                    have hput := HSM.out.put HGX.out (List.mem_append_right _ List.mem_cons_self) (by rw [List.length_append, List.length_singleton]; omega) hm11 HG11.out
                    have HQ := Lib.hid (show ∃ kn rk' F' I', RkI W0 w11 F0 I0 F' I' pk w2.heap.size kn rk' ∧ (∀ k, F' k → Fk k ∨ wB.heap.size ≤ k) ∧ (∀ k, W6.heap.size ≤ k → k < wB.heap.size → w11.heap[k]? = wB.heap[k]?) ∧ rankAdd nn hs0 known rk = rankAdd nn (hs0.drop (q + 1)) kn rk' ∧ kn.length ≤ known.length + (q + 1) ∧ wB.heap.size ≤ w11.heap.size from
                      ⟨kn ++ [x], rk' ++ [(x, (nn : Int))], F9, I9, hput, HF99.out, fun k hk1 hk2 => by
                        rw [HG11.out.block k (by omega) (fun e => by injection e with e; omega), HB10.out.block k (by omega), HKP9.out k hk1 hk2], HS4.out, by rw [List.length_append, List.length_singleton]; omega, by omega⟩)
                    clear hm11 hput z1 z2 z3 hz10 hz11
                    go_wp2_with fail
                    go_roundw
                    case rel => exact ⟨q + 1, by omega, by go_num, HQ⟩
                    case measure => simp [intOf]; omega
                · have hqe : q = hs0.length := by omega
                  subst hqe
                  rw [List.drop_length, rankAdd] at s4
                  have hr2 := HR2.out
                  rw [s4] at hr2
                  simp only at hr2
                  have hkt := HLT.out
                  have HQ := Lib.hid (show ∃ known rk Fk Ik, RkI W0 wr F0 I0 Fk Ik pk w2.heap.size known rk ∧ some rks = rankGo l all g' ((nn + 1 : Nat) : Int) known rk ∧ known.length ≤ 100000 from
                    ⟨kn, rk', F', I', s1, hr2, by omega⟩)
                  clear s1 s2 s3 s4 s5 hr2 hk3 hk4
                  go_wp2_with fail
                  go_roundg g'
                  case measure => omega
                  case rel => exact ⟨nn + 1, by go_num, by omega, HQ⟩
        · have hltI : ¬ (fm.length : Int) < (fma.length : Int) := by omega
          refine wpAnyH_takeW 10 rfl rfl (by kernel_rfl) (by kernel_rfl) (by kernel_rfl) (fun _ _ _ h => h) (v := .bool false) (by kernel_rfl) hS (fun x hx => by have fx := HX.out x hx; go_simp; try omega) ?_
          simp only [Act.put, lsa, lsz, lss]
          refine wpAnyH_done (by kernel_rfl) ?_ _
          have h6 := H1.out.below hS
          generalize wr.drew = W6 at *
          have H6 := Lib.hid h6
          have hw6 := hS.size
          clear HX h6 hS H1
          have h2 := H2.out
          rw [if_neg hlt] at h2
          injection h2 with h2
          subst h2
          clear H2 hfa hfb
          obtain ⟨hk1, hk2, hk3, hk4⟩ := HKEEP.out W6 H6.out.frm
          have hso := fun w' (hb' : Below W6.heap.size W6 w') => sortedQ_any F1 I1 pa all w' (hk2.below hb') (by omega)
          have hrko : ∀ a ∈ sortT all, groundP a = true ∧ getV (rkMap rks) (printAtomS a).1 = rankOf rks a := fun a ha => by
            have hga := hk2.gr a ((mem_sortT all a).1 ha)
            exact ⟨hga, (rkMap_get rks (fun p hp => (H6.out.gr p hp).1) a hga).1⟩
          have hmp := H6.out.map
          have hsl48 : (sortT all).length ≤ 2048 := by rw [len_sortT]; exact hl2048
          have HSO := Lib.hid hso; have HRKO := Lib.hid hrko; have HMP := Lib.hid hmp; have HK4 := Lib.hid hk4; have HL6 := Lib.hid (HL.out.below hk4)
          clear hk1 hk2 hk3 hk4 hso hrko hmp
          generalize hLL : sortT all = L at *
          have HLL := Lib.hid hLL; clear hLL
          go_wp2_with fail
          have hsA : (W6.alloc (.cells #[] 3)).heap.size = W6.heap.size + 1 := by simp
          have hbA : Below W6.heap.size W6 (W6.alloc (.cells #[] 3)) := boxed
          refine (HSO.out _ hbA).mono ?_
          rintro e w7 ⟨A7, n7, c7, rfl, hs7, hb7⟩
          obtain rfl : n7 = L.length := hs7.len
          have hs7' := hs7.wide (S' := fun k => W6.heap.size + 1 ≤ k ∧ k < w7.heap.size) (fun k hk h => ⟨by rw [hsA] at h; exact h, hk⟩) (by decide)
          have hown0 : Own (α := Int) w7 (fun _ => False) W6.heap.size 3 (some ⟨W6.heap.size, 0, none⟩) 0 [] := (Own.emp (blkAt _ _ rfl) (Nat.le_refl _)).below hb7
          have hb67 : Below W6.heap.size W6 w7 := hbA.trans (hb7.mono hbA.size)
          have hz7 := hb7.size
          rw [hsA] at hz7
          have HS7 := Lib.hid hs7'; have HO0 := Lib.hid hown0; have HB67 := Lib.hid hb67
          clear hs7 hs7' hown0 hb7 hb67 hsA hbA HSO
          go_wp2_with fail
          go_loopw [18, 79] (fun o i wr => ∃ k : Nat, k ≤ L.length ∧ i = .int .i64 k ∧ ∃ A c, o = .slice A k c ∧ Hid (Own wr (fun _ => False) W6.heap.size 3 A c ((L.take k).map (rankOf rks)) ∧ (∀ q, A.map Addr.block = some q → q = W6.heap.size ∨ w7.heap.size ≤ q) ∧ w7.heap.size ≤ wr.heap.size ∧ (∀ q, W6.heap.size + 1 ≤ q → q < w7.heap.size → wr.heap[q]? = w7.heap[q]?) ∧ Below W6.heap.size W6 wr)) (fun _ i _ => L.length - (intOf i).toNat)
          case atStart => exact ⟨0, by omega, rfl, _, _, rfl, Lib.hid ⟨HO0.out, fun q hq => .inl (by injection hq with hq; exact hq.symm), Nat.le_refl _, fun _ _ _ => rfl, HB67.out⟩⟩
          case round =>
            obtain ⟨k, hk, rfl, A9, c9, rfl, hq⟩ := hrel
            obtain ⟨h1, h2, h3, h4, h5⟩ := hq.out
            clear hq
            by_cases hlk : k < L.length
            · obtain ⟨b2, o2, rfl, -, hbs2, An, nn2, cn, g1, g2, hsx⟩ := (HS7.out.keep (w' := wr) fun q _ hq => h4 q hq.1 hq.2).atm hlk
              have htk : (L.take (k + 1)).map (rankOf rks) = (L.take k).map (rankOf rks) ++ [rankOf rks L[k]] := by rw [List.take_succ_eq_append_getElem hlk, List.map_append]; rfl
              have hxl : ((L.take k).map (rankOf rks)).length = k := by rw [List.length_map, List.length_take]; omega
              obtain ⟨hgx, hrx⟩ := HRKO.out _ (List.getElem_mem hlk)
              generalize L[k] = x at *
              obtain rfl : nn2 = x.args.length := hsx.len
              have hb8 : Below wr.heap.size wr (wr.alloc (.cells #[.string ⟨x.name.toArray⟩, .slice An x.args.length cn] 31)) := boxed
              have hky := key_any x An x.args.length cn _ _ (hsx.below hb8) (ground_okT hgx).1 ((HL6.out.below h5).below hb8)
              have hpl := print_le x
              have hmp5 := (HMP.out.below h5).below hb8
              generalize (printAtomS x).1 = ks at *
              generalize rankOf rks x = rv at *
              have H1 := Lib.hid h1; have H2 := Lib.hid h2; have H4 := Lib.hid h4; have H5 := Lib.hid h5; have HTK := Lib.hid htk; have HXL := Lib.hid hxl; have HKY := Lib.hid hky; have HM5 := Lib.hid hmp5
              have HB8 := Lib.hid hb8
              clear h1 h2 h4 h5 hsx htk hxl hky hmp5 hgx hb8
              go_wp2_with fail
              refine HKY.out.mono ?_
              rintro e w9 ⟨rfl, hb9⟩
              have hb99 : Below wr.heap.size wr w9 := HB8.out.trans (hb9.mono HB8.out.size)
              have HM9 := Lib.hid (HM5.out.below hb9); have HB9 := Lib.hid hb99
              have hz9 := hb99.size
              clear hb9 hb99 HKY g1 g2
              go_wp2_with (first | (at_lookup; refine wpList_lookK rfl _ _ rfl rfl ks rfl HM9.out hpl ?_) | (at_builtin; go_loud (refine wpList_app1 rfl _ _ eltInt rfl (by decide) rfl rfl HXL.out.symm ((H1.out.below HB9.out).alloc _) rfl [.int .i64 rv] rv (blkAt _ _ rfl) rfl rfl (by rw [HXL.out]; omega) (by rw [HXL.out]; omega) (Nat.le_trans HB67.out.size (Nat.le_trans h3 (Nat.le_trans hz9 (Nat.le_of_lt (lt_alloc _ _))))) ?_); intro A5 c5 w10 hown10 hg10 hat10))
              have hsz10 := hg10.size
              have hsB : (w9.alloc (.cells #[.int .i64 rv] 3)).heap.size = w9.heap.size + 1 := by simp
              rw [hsB] at hsz10 hat10
              have hA1lt := H1.out.lt
              have hw6r := H5.out.size
              have hb10 : Below W6.heap.size W6 w10 := ((H5.out.trans (HB9.out.mono hw6r)).alloc (by omega) _).grown hg10 (by simp; omega) (fun q hq => (hA1lt q hq).1)
              have hk10 : ∀ q, W6.heap.size + 1 ≤ q → q < w7.heap.size → w10.heap[q]? = w7.heap[q]? := fun q hq1 hq2 => by
                rw [hg10.block q (by omega) (fun e => by rcases H2.out q e.symm with h | h <;> omega), Below.heap_alloc _ _ q (by omega), HB9.out.block q (by omega), H4.out q hq1 hq2]
              have hA10 : ∀ q, A5.map Addr.block = some q → q = W6.heap.size ∨ w7.heap.size ≤ q := fun q hq => by
                rcases hat10 with h | h
                · exact H2.out q (by rw [← h]; exact hq)
                · rw [h] at hq; injection hq with hq; exact .inr (by omega)
              have hwz : w7.heap.size ≤ w10.heap.size := by omega
              rw [← HTK.out] at hown10
              have HQ := Lib.hid (And.intro hown10 (And.intro hA10 (And.intro hwz (And.intro hk10 hb10))))
              clear hown10 hA10 hk10 hb10 hg10 hat10 hsz10 hsB hwz hA1lt
              go_wp2_with fail
              go_roundw
              case rel => exact ⟨k + 1, by omega, by go_num, A5, c5, by first | rfl | simp, HQ⟩
              case measure => simp [intOf]; omega
            · have hke : k = L.length := by omega
              subst hke
              rw [List.take_length] at h1
              have H1 := Lib.hid h1; have H2 := Lib.hid h2; have H5 := Lib.hid h5
              clear h1 h2 h3 h4 h5
              go_wp2_with fail
              refine bodyPost_ret (v := .tuple #[.slice A9 L.length c9, .int .i64 (-1), .int .i64 0]) (by simp [results, Tryz.results19, go_sem]) rfl ?_
              have hw66 := HK4.out.size
              rw [HLL.out]
              refine ⟨A9, L.length, c9, rfl, ((H1.out.sl (by decide)).cast (by rw [List.length_map])).wide (fun q _ hq => ?_) (by decide), HK4.out.trans (H5.out.mono hw66)⟩
              rcases hq with hq | hq
              · exact hq.elim
              · rcases H2.out q hq with h | h <;> omega
  · rw [if_pos (by simpa using he)] at hV
    injection hV with hV
    subst hV
    have hcb : ((modelS l facts).2.2 == 0) = false := by simpa using he
    have HE := Lib.hid he
    clear he hmo hmlen hB
    generalize modelS l facts = M at *
    obtain ⟨all, mi, me⟩ := M
    simp only at hcb hmd HE ⊢
    have HMD := Lib.hid hmd; clear hmd hl hf ho hof hL
    go_enter Tryz.func19, Tryz.ntmps19
    go_wp2_with fail
    refine HMD.out.mono ?_
    rintro e w1 ⟨hb1, h1⟩
    rw [if_pos HE.out] at h1
    simp only at h1
    subst h1
    have HB1 := Lib.hid hb1; clear hb1
    go_wp2_with fail
    refine bodyPost_ret (v := .tuple #[.slice none 0 0, .int .i64 mi, .int .i64 me]) (by simp [results, Tryz.results19, go_sem]) rfl ?_
    exact ⟨none, 0, 0, rfl, Sl.nil _ _ _ _ (by decide), HB1.out⟩
end Go.Proofs.YtkjoaodoioicpaaGreatDoor
