/- Query (package licitlaw54): a part of the proofs of its laws; see the law's own text, which comes last in 'order'. No conditions of its own. -/
import Derived.Maps.Range
import Derived.Test.YtkjoaodoioicpaaGreatDoorWC18
set_option linter.unusedVariables false
set_option linter.unusedSimpArgs false
namespace Go.Proofs.YtkjoaodoioicpaaGreatDoor
open Go.RowKit
theorem grown_then {a b c : World} {k : Nat} (h : a.grownBy b (some k)) (h' : b.grownBy c (some k)) : a.grownBy c (some k) :=
  ⟨h'.os.trans h.os, h'.tape.trans h.tape, h'.output.trans h.output, Nat.le_trans h.size h'.size, fun i hi hn => (h'.block i (Nat.lt_of_lt_of_le hi h.size) hn).trans (h.block i hi hn)⟩
theorem keep3 {y z : World} {p q k ib : Nat} {a b c : Obj} (h : y.heap[p]? = some a ∧ y.heap[q]? = some b ∧ y.heap[k]? = some c) (hz : y.grownBy z (some ib)) (h1 : p ≠ ib) (h2 : q ≠ ib) (h3 : k ≠ ib) :
    z.heap[p]? = some a ∧ z.heap[q]? = some b ∧ z.heap[k]? = some c :=
  ⟨grownBlk hz h.1 (fun e => h1 (by injection e with e; exact e.symm)), grownBlk hz h.2.1 (fun e => h2 (by injection e with e; exact e.symm)), grownBlk hz h.2.2 (fun e => h3 (by injection e with e; exact e.symm))⟩
theorem idxL_len (L : List Atm) (q : Plc) : (idxL L q).length ≤ L.length := List.length_filter_le _ _
theorem lstK_len (L : List Atm) (x : Atm) (k : Int) (q : Plc) : (lstK L x k q).length ≤ L.length + 1 := by
  unfold lstK
  have := idxL_len L q
  rw [List.length_append]
  split <;> simp <;> omega
set_option maxRecDepth 100000 in
set_option maxHeartbeats 16000000 in
theorem addQ_any (F I : Nat → Prop) (p : Nat) (L : List Atm) (x : Atm) (A : Option Addr) (n c : Nat) (w : World) (S : Nat → Prop) (hb : BaseR w F I p L) (hbd : ∀ k, F k ∨ I k → k < w.heap.size) (hs : Sl w S A n c x.args) (hg : groundP x = true) (hL : LD w) (hN : L.length ≤ 1000000) :
    Calls Tryz.prog 40 #[.pointer (some ⟨p, 0, none⟩), .agg #[.string ⟨x.name.toArray⟩, .slice A n c]] w fun e w' => e = .returned (.bool (!L.contains x)) ∧ ∃ F' I', BaseR w' F' I' p (addQ L x) ∧ Grw w w' F I F' I' := by
  have hn := hs.len
  subst hn
  obtain ⟨hok, hl6, hkd⟩ := ground_okT hg
  obtain ⟨fb, ib, hW⟩ := hb.toW hbd
  have hnd := hb.nd
  obtain ⟨nm, args⟩ := x
  simp only at hs hl6 hkd
  have hle := hs.le
  obtain ⟨fm, hmf, hcon, hshape, -⟩ := hW.facts
  have hcon := hcon ⟨nm, args⟩
  obtain ⟨us, uA, un, uc, hu⟩ := hshape (printAtomS ⟨nm, args⟩).1
  have hkl := print_le ⟨nm, args⟩
  have hky := fun w' (hs' : Sl w' S A args.length c args) (hL' : LD w') => key_any ⟨nm, args⟩ A args.length c w' S hs' hok hL'
  obtain ⟨ks, hks⟩ : ∃ ks, ks = (printAtomS ⟨nm, args⟩).1 := ⟨_, rfl⟩
  rw [← hks] at hcon hu hkl
  simp only [← hks] at hky
  have hcl := fun w' hs' => cloneArg_any A args.length c w' S args hs' (by omega)
  have hbw : Below w.heap.size w (w.alloc (.cells #[.string ⟨nm.toArray⟩, .slice A args.length c] 31)) := boxed
  have hbx := blkAt w (.cells #[.string ⟨nm.toArray⟩, .slice A args.length c] 31) rfl
  have HKY := Lib.hid (hky _ (hs.below hbw) (hL.below hbw)); have HCL := Lib.hid hcl
  have HMF := Lib.hid hmf; have HU := Lib.hid hu; have HCON := Lib.hid hcon; have HKS := Lib.hid hks; have HS := Lib.hid hs; have HW := Lib.hid hW; have HB := Lib.hid hb; have HBD := Lib.hid hbd; have HG := Lib.hid hg; have HKD := Lib.hid hkd; have HND := Lib.hid hnd; have HBW := Lib.hid hbw; have HBX := Lib.hid hbx; have HOK := Lib.hid hok
  clear hmf hu hcon hks hs hW hb hbd hg hkd hnd hbw hbx hky hcl hL hshape hok
  obtain ⟨V, hV⟩ : ∃ V, V = L.contains ⟨nm, args⟩ := ⟨_, rfl⟩
  rw [← hV] at HCON ⊢
  have HV := Lib.hid hV; clear hV
  go_enter Tryz.func40, Tryz.ntmps40
  go_wp2_with fail
  refine HKY.out.mono ?_
  rintro e w2 ⟨rfl, hb2⟩
  have hb2' : Below w.heap.size w w2 := HBW.out.trans (hb2.mono (by simp))
  have hx2 := keptBlk hb2 HBX.out
  have hwlt : w.heap.size < w2.heap.size := (Array.getElem?_eq_some_iff.1 hx2).1
  have hplt := HW.out.lt
  have k0 := (cell_blk hx2 0).trans rfl; have k1 := (cell_blk hx2 1).trans rfl; have y1 := frz_blk hx2 1
  have q0 := (cell_blk (keptBlk hb2' HW.out.blk) 0).trans rfl
  have HM2 := Lib.hid (HMF.out.below hb2'); have HB2 := Lib.hid hb2'; have HX2 := Lib.hid hx2
  clear hb2 hb2' hx2 HMF HBW HBX
  cases V
  case true =>
    go_wp2_with (at_lookup; go_loud (refine wpList_lookVok rfl _ _ rfl Tryz.underlying88 (zeroT _) rfl ks rfl HM2.out hkl rfl (.agg #[.string us, .slice uA un uc]) HU.out true HCON.out ?_))
    refine bodyPost_ret (v := .bool false) (by simp [results, Tryz.results40, go_sem]) rfl ?_
    have hbE : Below w.heap.size w (w2.alloc (.cells #[.string us, .slice uA un uc] 31)) := HB2.out.alloc HB2.out.size _
    exact ⟨rfl, F, I, by rw [addQ, if_pos HV.out.symm]; exact HB.out.below hbE, Grw.refl HBD.out hbE⟩
  case false =>
    have hnc : (⟨nm, args⟩ : Atm) ∉ L := fun h => by have := HV.out; rw [List.contains_iff_mem.2 h] at this; cases this
    have HNC := Lib.hid hnc; have HNC2 := Lib.hid hnc; clear hnc
    go_wp2_with (at_lookup; go_loud (refine wpList_lookVok rfl _ _ rfl Tryz.underlying88 (zeroT _) rfl ks rfl HM2.out hkl rfl (.agg #[.string us, .slice uA un uc]) HU.out false HCON.out ?_))
    have hb3 : Below w.heap.size w (w2.alloc (.cells #[.string us, .slice uA un uc] 31)) := HB2.out.alloc HB2.out.size _
    have hx3 := blkOld HX2.out (.cells #[.string us, .slice uA un uc] 31)
    have hsz3 : w.heap.size < (w2.alloc (.cells #[.string us, .slice uA un uc] 31)).heap.size := by simp; omega
    generalize w2.alloc (.cells #[.string us, .slice uA un uc] 31) = W3 at *
    refine (HCL.out _ (HS.out.below hb3)).mono ?_
    rintro e w4 ⟨A', n', c', rfl, hs4, hb4⟩
    obtain rfl : n' = args.length := hs4.len
    have hb4' : Below w.heap.size w w4 := hb3.trans (hb4.mono hb3.size)
    have hx4 := keptBlk hb4 hx3
    have hlt4 : w.heap.size < w4.heap.size := (Array.getElem?_eq_some_iff.1 hx4).1
    clear k0 k1 y1 q0
    have y1 := frz_blk hx4 1; have k1 := (cell_blk hx4 1).trans rfl
    have HS4 := Lib.hid hs4; have HB4 := Lib.hid hb4'; have HX4 := Lib.hid hx4; have HZ3 := Lib.hid (And.intro hsz3 hb4.size)
    clear hs4 hb4 hb4' hx4 hb3 hx3 HB2 HX2 HM2 HKY HCL HS
    go_wp2_with fail
    clear y1 k1
    have hx5 : (w4.setCell ⟨w.heap.size, 1, none⟩ (.slice A' args.length c')).heap[w.heap.size]? = some (.cells #[.string ⟨nm.toArray⟩, .slice A' args.length c'] 31 (0, 0)) := by rw [Blk.set w4 HX4.out 1]; simp
    have hb5 : Below w.heap.size w (w4.setCell ⟨w.heap.size, 1, none⟩ (.slice A' args.length c')) := HB4.out.setCell (p := ⟨w.heap.size, 1, none⟩) (Nat.le_refl _) _
    have hz5 : (w4.setCell ⟨w.heap.size, 1, none⟩ (.slice A' args.length c')).heap.size = w4.heap.size := by simp [World.setCell]
    have hs5 : Sl (w4.setCell ⟨w.heap.size, 1, none⟩ (.slice A' args.length c')) (fun k => W3.heap.size ≤ k ∧ k < w4.heap.size) A' args.length c' args :=
      (HS4.out.wide (fun k hk h => ⟨h, hk⟩) (by decide)).keep fun k _ hk => set_other _ _ _ _ _ (by have := HZ3.out.1; have := hk.1; omega)
    generalize w4.setCell ⟨w.heap.size, 1, none⟩ (.slice A' args.length c') = W5 at *
    have hW5 := HW.out.wider hb5 (J := fun k => W3.heap.size ≤ k ∧ k < w4.heap.size) (fun k hk => ⟨by have := HZ3.out.1; have := hk.1; omega, by rw [hz5]; exact hk.2⟩)
    have hs5 := hs5.wide (S' := fun k => I k ∨ (W3.heap.size ≤ k ∧ k < w4.heap.size)) (fun k _ h => .inr h) (by decide)
    obtain ⟨I', hI'⟩ : ∃ I' : Nat → Prop, I' = fun k => I k ∨ (W3.heap.size ≤ k ∧ k < w4.heap.size) := ⟨_, rfl⟩
    rw [← hI'] at hW5 hs5
    have hI2 : ∀ k, I' k → I k ∨ w.heap.size ≤ k := by rw [hI']; exact fun k hk => hk.elim .inl fun h => .inr (by have := HZ3.out.1; have := h.1; omega)
    have hI1 : ∀ k, I k → I' k := by rw [hI']; exact fun k hk => .inl hk
    clear hI'
    have HI := Lib.hid (And.intro hI1 hI2); have HW5 := Lib.hid hW5; have HS5 := Lib.hid hs5; have HX5 := Lib.hid hx5; have HB5 := Lib.hid hb5
    clear hI1 hI2 HS4 HB4 HX4 HZ3 HW hsz3 hlt4 hz5
    refine wpY_region (fun z => Below W5.heap.size W5 z) 6 (by kernel_rfl) ?_
    have hS : Below W5.heap.size W5 W5.drew := (Below.refl _ _).drew
    have HX := Lib.hid (fun (z : World) (hz : Below W5.heap.size W5 z) => And.intro ((cell_blk (keptBlk hz hW5.blk) 0).trans rfl) (And.intro ((cell_blk (keptBlk hz hx5) 0).trans rfl) ((cell_blk (keptBlk hz hx5) 1).trans rfl)))
    clear hW5 hs5 hx5 hb5
    (refine wpAnyY_takeW 0 rfl rfl (by kernel_rfl) (by kernel_rfl) (by kernel_rfl) (by kernel_rfl) (fun _ _ _ h => h) (v := ?_) (by kernel_rfl) hS ?_ ?_; rotate_left; (focus (intro x hx; have fx := HX.out x hx; go_simp; (try with_reducible rfl); done)); (try simp only [Act.put, lsa, lsz, lss]))
    (refine wpAnyY_takeW 1 rfl rfl (by kernel_rfl) (by kernel_rfl) (by kernel_rfl) (by kernel_rfl) (fun _ _ _ h => h) (v := ?_) (by kernel_rfl) hS ?_ ?_; rotate_left; (focus (intro x hx; have fx := HX.out x hx; go_simp; (try with_reducible rfl); done)); (try simp only [Act.put, lsa, lsz, lss]))
    (refine wpAnyY_takeW 2 rfl rfl (by kernel_rfl) (by kernel_rfl) (by kernel_rfl) (by kernel_rfl) (fun _ _ _ h => h) (v := ?_) (by kernel_rfl) hS ?_ ?_; rotate_left; (focus (intro x hx; have fx := HX.out x hx; go_simp; (try with_reducible rfl); done)); (try simp only [Act.put, lsa, lsz, lss]))
    (refine wpAnyY_takeW 3 rfl rfl (by kernel_rfl) (by kernel_rfl) (by kernel_rfl) (by kernel_rfl) (fun _ _ _ h => h) (v := ?_) (by kernel_rfl) hS ?_ ?_; rotate_left; (focus (intro x hx; have fx := HX.out x hx; go_simp; (try with_reducible rfl); done)); (try simp only [Act.put, lsa, lsz, lss]))
    (refine wpAnyY_takeW 4 rfl rfl (by kernel_rfl) (by kernel_rfl) (by kernel_rfl) (by kernel_rfl) (fun _ _ _ h => h) (v := ?_) (by kernel_rfl) hS ?_ ?_; rotate_left; (focus (intro x hx; have fx := HX.out x hx; go_simp; (try with_reducible rfl); done)); (try simp only [Act.put, lsa, lsz, lss]))
    (refine wpAnyY_takeW 5 rfl rfl (by kernel_rfl) (by kernel_rfl) (by kernel_rfl) (by kernel_rfl) (fun _ _ _ h => h) (v := ?_) (by kernel_rfl) hS ?_ ?_; rotate_left; (focus (intro x hx; have fx := HX.out x hx; go_simp; (try with_reducible rfl); done)); (try simp only [Act.put, lsa, lsz, lss]))
    refine wpAnyY_one 6 (by kernel_rfl) rfl ?_
    intro K' hK'
    obtain ⟨fm6, hm6, -, -, hadd⟩ := (HW5.out.below hS).facts
    refine step_updV rfl _ _ _ rfl Tryz.underlying88 rfl ks rfl (.agg #[.string ⟨nm.toArray⟩, .slice A' args.length c']) rfl hm6 hkl ?_
    intro w6 hmm hg6
    have hW6 := hadd ⟨nm, args⟩ (.agg #[.string ⟨nm.toArray⟩, .slice A' args.length c']) w6 HG.out HNC.out ⟨A', _, c', rfl, HS5.out.below hS⟩ (by rw [← HKS.out]; exact hmm) hg6
    have hfb := HW5.out.maps
    have hne : w.heap.size ≠ fb := fun e => by have := hfb.2.2.1; have := HBD.out fb (.inl hfb.1); omega
    have hx6 := grownBlk hg6 (keptBlk hS HX5.out) (fun e => hne (by injection e with e; exact e.symm))
    have hfrm : Frm F w w6 := ((Frm.any (HB5.out.trans (hS.mono HB5.out.size))).grown hg6 (fun k hk _ => by injection hk with hk; rw [← hk]; exact hfb.1))
    have hsl6 : Sl w6 I' A' args.length c' args := (HS5.out.below hS).keep fun k hk hI => hg6.block k hk (fun e => HW5.out.apart fb hfb.1 (by injection e with e; rw [← e]; exact hI))
    have hai : AddI w w6 F I F I' p fb ib ⟨nm, args⟩ A' c' L (-1) := ⟨hW6.congr (fun q _ => lstK_start L ⟨nm, args⟩ q), fun _ h => h, fun _ h => .inl h, HI.out.1, HI.out.2, hfrm, fun h => by have := HBD.out _ (.inl h); omega, hx6, hsl6⟩
    have HAI := Lib.hid hai
    have k0 := (cell_blk hx6 0).trans rfl; have k1 := (cell_blk hx6 1).trans rfl
    have hw6 : w.heap.size < w6.heap.size := (Array.getElem?_eq_some_iff.1 hx6).1
    refine hK'.out _ _ (fun h => absurd rfl h) ?_
    clear hK' K' hm6 hadd hmm hg6 hW6 hfb hne hx6 hfrm hsl6 hai hS HX HW5 HS5 HX5 HB5 HKS HNC
    refine wpAnyY_done (by kernel_rfl) ?_ _
    go_wp2_with fail
    clear k0 k1
    obtain ⟨W8, hW8⟩ : ∃ W8, W8 = w6.alloc (.cells #[.string ⟨nm.toArray⟩, .int .i64 args.length, .int .i64 (-1), .int .i64 0, .int .i64 0, .string ⟨#[]⟩] 128) := ⟨_, rfl⟩
    rw [← hW8]
    have hkq : w6.heap.size < w6.heap.size + 1 := Nat.lt_succ_self _
    obtain ⟨im, B0, c0, hmi, heB, hBk, hown1, hfin⟩ := HAI.out.app (basePl ⟨nm, args⟩) (okP_base HOK.out (by show args.length ≤ _; omega)) ((0 : Int)) (lstK_base L ⟨nm, args⟩)
    have hmaps := HAI.out.base.maps
    have hpl := HAI.out.base.lt
    have hkl := (Array.getElem?_eq_some_iff.1 HAI.out.blk).1
    have hnib : w.heap.size ≠ ib := fun e => HAI.out.nk (by rw [e]; exact hmaps.2.1)
    have hx8 : W8.heap[w.heap.size]? = some (.cells #[.string ⟨nm.toArray⟩, .slice A' args.length c'] 31 (0, 0)) := by rw [hW8]; exact blkOld HAI.out.blk _
    have hp8 : W8.heap[p]? = some (.cells #[.map (some fb), .map (some ib)] 91 (0, 0)) := by rw [hW8]; exact blkOld HAI.out.base.blk _
    have hq8 : W8.heap[w6.heap.size]? = some (.cells #[.string ⟨nm.toArray⟩, .int .i64 args.length, .int .i64 (-1), .int .i64 0, .int .i64 0, .string ⟨#[]⟩] 128 (0, 0)) := by rw [hW8]; exact blkAt _ _ rfl
    have hg8 : w6.grownBy W8 (some ib) := by rw [hW8]; exact World.grownBy_alloc _ _ _
    have hsz8 : W8.heap.size = w6.heap.size + 1 := by rw [hW8]; simp
    have HMI := Lib.hid (hmi.keep (w' := W8) (by rw [hW8]; exact Below.heap_alloc _ _ _ hmi.lt))
    have HEB := Lib.hid heB; have HBK := Lib.hid hBk; have HOW := Lib.hid hown1; have HFIN := Lib.hid hfin; have HG8 := Lib.hid hg8; have HMP := Lib.hid hmaps; have HNI := Lib.hid hnib
    have hlK := lstK_len L ⟨nm, args⟩ ((-1 : Int)) (basePl ⟨nm, args⟩)
    have HLK := Lib.hid hlK
    clear hmi heB hBk hown1 hfin hg8 hW8 hmaps hnib hlK
    refine wpY_region (fun z => z.heap[p]? = some (.cells #[.map (some fb), .map (some ib)] 91 (0, 0)) ∧ z.heap[w6.heap.size]? = some (.cells #[.string ⟨nm.toArray⟩, .int .i64 args.length, .int .i64 (-1), .int .i64 0, .int .i64 0, .string ⟨#[]⟩] 128 (0, 0)) ∧ z.heap[w.heap.size]? = some (.cells #[.string ⟨nm.toArray⟩, .slice A' args.length c'] 31 (0, 0))) 11 (by kernel_rfl) ?_
    have hS : W8.drew.heap[p]? = some (.cells #[.map (some fb), .map (some ib)] 91 (0, 0)) ∧ W8.drew.heap[w6.heap.size]? = some (.cells #[.string ⟨nm.toArray⟩, .int .i64 args.length, .int .i64 (-1), .int .i64 0, .int .i64 0, .string ⟨#[]⟩] 128 (0, 0)) ∧ W8.drew.heap[w.heap.size]? = some (.cells #[.string ⟨nm.toArray⟩, .slice A' args.length c'] 31 (0, 0)) := ⟨hp8, hq8, hx8⟩
    have HX := Lib.hid (fun (z : World) (hz : z.heap[p]? = some (.cells #[.map (some fb), .map (some ib)] 91 (0, 0)) ∧ z.heap[w6.heap.size]? = some (.cells #[.string ⟨nm.toArray⟩, .int .i64 args.length, .int .i64 (-1), .int .i64 0, .int .i64 0, .string ⟨#[]⟩] 128 (0, 0)) ∧ z.heap[w.heap.size]? = some (.cells #[.string ⟨nm.toArray⟩, .slice A' args.length c'] 31 (0, 0))) => And.intro ((cell_blk hz.1 1).trans rfl) (And.intro ((cell_blk hz.2.1 0).trans rfl) (And.intro ((cell_blk hz.2.1 1).trans rfl) (And.intro ((cell_blk hz.2.1 2).trans rfl) (And.intro ((cell_blk hz.2.1 3).trans rfl) (And.intro ((cell_blk hz.2.1 4).trans rfl) (And.intro ((cell_blk hz.2.1 5).trans rfl) (And.intro ((cell_blk hz.2.2 0).trans rfl) ((cell_blk hz.2.2 1).trans rfl)))))))))
    have HS8 := Lib.hid hS
    have HG9 := Lib.hid (show w6.grownBy W8.drew (some ib) from ⟨HG8.out.os, HG8.out.tape, HG8.out.output, HG8.out.size, HG8.out.block⟩)
    generalize hWd : W8.drew = W8d at *
    have HSZD := Lib.hid (show W8d.heap.size = w6.heap.size + 1 by rw [← hWd]; exact hsz8)
    have HM8 := Lib.hid (show MapV TP W8d ib im by rw [← hWd]; exact HMI.out)
    clear hx8 hp8 hq8 HMI hWd HG8 hsz8
    (refine wpAnyY_takeW 0 rfl rfl (by kernel_rfl) (by kernel_rfl) (by kernel_rfl) (by kernel_rfl) (fun _ _ _ h => h) (v := ?_) (by kernel_rfl) hS ?_ ?_; rotate_left; (focus (intro x hx; have fx := HX.out x hx; go_simp; (try with_reducible rfl); done)); (try simp only [Act.put, lsa, lsz, lss]))
    (refine wpAnyY_takeW 1 rfl rfl (by kernel_rfl) (by kernel_rfl) (by kernel_rfl) (by kernel_rfl) (fun _ _ _ h => h) (v := ?_) (by kernel_rfl) hS ?_ ?_; rotate_left; (focus (intro x hx; have fx := HX.out x hx; go_simp; (try with_reducible rfl); done)); (try simp only [Act.put, lsa, lsz, lss]))
    (refine wpAnyY_takeW 2 rfl rfl (by kernel_rfl) (by kernel_rfl) (by kernel_rfl) (by kernel_rfl) (fun _ _ _ h => h) (v := ?_) (by kernel_rfl) hS ?_ ?_; rotate_left; (focus (intro x hx; have fx := HX.out x hx; go_simp; (try with_reducible rfl); done)); (try simp only [Act.put, lsa, lsz, lss]))
    (refine wpAnyY_takeW 3 rfl rfl (by kernel_rfl) (by kernel_rfl) (by kernel_rfl) (by kernel_rfl) (fun _ _ _ h => h) (v := ?_) (by kernel_rfl) hS ?_ ?_; rotate_left; (focus (intro x hx; have fx := HX.out x hx; go_simp; (try with_reducible rfl); done)); (try simp only [Act.put, lsa, lsz, lss]))
    (refine wpAnyY_takeW 4 rfl rfl (by kernel_rfl) (by kernel_rfl) (by kernel_rfl) (by kernel_rfl) (fun _ _ _ h => h) (v := ?_) (by kernel_rfl) hS ?_ ?_; rotate_left; (focus (intro x hx; have fx := HX.out x hx; go_simp; (try with_reducible rfl); done)); (try simp only [Act.put, lsa, lsz, lss]))
    (refine wpAnyY_takeW 5 rfl rfl (by kernel_rfl) (by kernel_rfl) (by kernel_rfl) (by kernel_rfl) (fun _ _ _ h => h) (v := ?_) (by kernel_rfl) hS ?_ ?_; rotate_left; (focus (intro x hx; have fx := HX.out x hx; go_simp; (try with_reducible rfl); done)); (try simp only [Act.put, lsa, lsz, lss]))
    have hplt : p < w6.heap.size := hpl
    have hklt : w.heap.size < w6.heap.size := hkl
    have HKEEP := Lib.hid (fun (u1 u2 : World) (hy : u1.heap[p]? = some (.cells #[.map (some fb), .map (some ib)] 91 (0, 0)) ∧ u1.heap[w6.heap.size]? = some (.cells #[.string ⟨nm.toArray⟩, .int .i64 args.length, .int .i64 (-1), .int .i64 0, .int .i64 0, .string ⟨#[]⟩] 128 (0, 0)) ∧ u1.heap[w.heap.size]? = some (.cells #[.string ⟨nm.toArray⟩, .slice A' args.length c'] 31 (0, 0))) (hz : u1.grownBy u2 (some ib)) => keep3 hy hz (by have := HMP.out.2.2.2.1; omega) (by have := HMP.out.2.2.2.1; omega) HNI.out)
    refine wpAnyY_one 6 (by kernel_rfl) rfl ?_
    intro K' hK'
    go_simp
    have hga := World.grownBy_alloc W8d (.cells #[.string ⟨nm.toArray⟩, .slice A' args.length c'] 31) (some ib)
    have hSa := HKEEP.out _ _ HS8.out hga
    have hbx := blkAt W8d (.cells #[.string ⟨nm.toArray⟩, .slice A' args.length c'] 31) rfl
    have hma := HM8.out.alloc (.cells #[.string ⟨nm.toArray⟩, .slice A' args.length c'] 31)
    have hGa := grown_then HG9.out hga
    refine hK'.out _ _ (fun _ => hSa) ?_
    clear hK' K' hga
    obtain ⟨kx, hkx⟩ : ∃ kx, kx = W8d.heap.size := ⟨_, rfl⟩
    rw [← hkx] at hbx ⊢
    have hkx2 : w6.heap.size < kx := by have := HSZD.out; omega
    have hkxl : kx < (W8d.alloc (.cells #[.string ⟨nm.toArray⟩, .slice A' args.length c'] 31)).heap.size := by simp; omega
    generalize W8d.alloc (.cells #[.string ⟨nm.toArray⟩, .slice A' args.length c'] 31) = W9 at *
    refine wpAnyY_one 7 (by kernel_rfl) rfl ?_
    intro K' hK'
    refine step_entV rfl _ _ rfl Tryz.underlying89 zeroP rfl (basePl ⟨nm, args⟩) rfl hma (okP_base HOK.out (by show args.length ≤ _; omega)) rfl (.slice B0 (lstK L ⟨nm, args⟩ ((-1 : Int)) (basePl ⟨nm, args⟩)).length c0) HEB.out ?_
    intro st WE hgE hmE hst
    have hSE := HKEEP.out _ _ hSa hgE
    have hGE := grown_then hGa hgE
    have hbE := (hgE.block kx hkxl (fun e => by injection e with e; have := HMP.out.2.2.2.1; omega)).trans hbx
    have hstE : ∀ (w2 : World) (v : Value), w2.heap[ib]? = WE.heap[ib]? → ∃ w3, (Instr.entryStore 89 (.map (some ib)) (goInt st) v).run Tryz.prog w2 = .ok () w3 ∧ MapV TP w3 ib (setM im (basePl ⟨nm, args⟩) v) ∧ w2.grownBy w3 (some ib) := hst
    refine hK'.out _ _ (fun _ => hSE) ?_
    clear hK' K' hst hma hSa hGa hgE hmE
    have HST := Lib.hid hstE; have HBE := Lib.hid hbE; have HGE := Lib.hid hGE
    have hS := hSE
    clear hstE hbE hGE hSE
    (refine wpAnyY_takeW 8 rfl rfl (by kernel_rfl) (by kernel_rfl) (by kernel_rfl) (by kernel_rfl) (fun _ _ _ h => h) (v := ?_) (by kernel_rfl) hS ?_ ?_; rotate_left; (focus (intro x hx; have fx := HX.out x hx; go_simp; (try with_reducible rfl); done)); (try simp only [Act.put, lsa, lsz, lss]))
    (refine wpAnyY_takeW 10 rfl rfl (by kernel_rfl) (by kernel_rfl) (by kernel_rfl) (by kernel_rfl) (fun _ _ _ h => h) (v := ?_) (by kernel_rfl) hS ?_ ?_; rotate_left; (focus (intro x hx; have fx := HX.out x hx; go_simp; (try with_reducible rfl); done)); (try simp only [Act.put, lsa, lsz, lss]))
    refine wpAnyY_one 9 (by kernel_rfl) rfl ?_
    intro K' hK'
    have hoo := HOW.out WE HGE.out.size (fun k hk hne => HGE.out.block k hk (fun e => hne (by injection e)))
    have hlk := HLK.out
    have hszE := HGE.out.size
    refine step_app1 (T := I') (base := p + 1) (xs := lstK L ⟨nm, args⟩ ((-1 : Int)) (basePl ⟨nm, args⟩)) rfl _ _ eltAtm rfl (by decide) rfl rfl rfl hoo.1 rfl [.string ⟨nm.toArray⟩, .slice A' args.length c'] (⟨nm, args⟩ : Atm) HBE.out rfl hoo.2 (by omega) (by omega) (by omega) ?_
    intro A3 c3 w10 hown10 hg10 hat10
    have hne10 : ∀ k, B0.map Addr.block = some k → k ≠ ib ∧ k ≠ p ∧ k ≠ w6.heap.size ∧ k ≠ w.heap.size := fun k hk => by
      have h1 := HBK.out k hk; have h2 := HMP.out.2.2.2.1; exact ⟨by omega, by omega, by omega, h1.2.2⟩
    have hS10 : w10.heap[p]? = some (.cells #[.map (some fb), .map (some ib)] 91 (0, 0)) ∧ w10.heap[w6.heap.size]? = some (.cells #[.string ⟨nm.toArray⟩, .int .i64 args.length, .int .i64 (-1), .int .i64 0, .int .i64 0, .string ⟨#[]⟩] 128 (0, 0)) ∧ w10.heap[w.heap.size]? = some (.cells #[.string ⟨nm.toArray⟩, .slice A' args.length c'] 31 (0, 0)) :=
      ⟨grownBlk hg10 hS.1 (fun e => (hne10 _ e).2.1 rfl), grownBlk hg10 hS.2.1 (fun e => (hne10 _ e).2.2.1 rfl), grownBlk hg10 hS.2.2 (fun e => (hne10 _ e).2.2.2 rfl)⟩
    have hib10 : w10.heap[ib]? = WE.heap[ib]? := hg10.block ib (by have := HMP.out.2.2.2.1; omega) (fun e => (hne10 _ e.symm).1 rfl)
    refine hK'.out _ _ (fun _ => hS10) ?_
    clear hK' K'
    refine wpAnyY_one 11 (by kernel_rfl) rfl ?_
    intro K' hK'
    obtain ⟨w11, hrun, hm11, hg11⟩ := HST.out w10 (.slice A3 ((lstK L ⟨nm, args⟩ ((-1 : Int)) (basePl ⟨nm, args⟩)).length + 1) c3) hib10
    refine step_estV rfl _ _ _ rfl rfl (st := st) rfl (.slice A3 ((lstK L ⟨nm, args⟩ ((-1 : Int)) (basePl ⟨nm, args⟩)).length + 1) c3) rfl hrun ?_
    have hai := HFIN.out WE w10 w11 A3 c3 HGE.out.size HGE.out.os HGE.out.tape HGE.out.output (fun k hk hne => HGE.out.block k hk (fun e => hne (by injection e))) hown10 hg10 hat10 hm11 hg11
    have HAI2 := Lib.hid hai
    refine hK'.out _ _ (fun h => absurd rfl h) ?_
    clear hK' K' hrun hm11 hg11 hai hS10 hib10 hne10 hown10 hg10 hat10 hoo HST HBE HGE hS HKEEP HX HS8 HG9 HM8 HEB HBK HOW HFIN HMP HNI HLK
    refine wpAnyY_done (by kernel_rfl) ?_ _
    generalize (fun k => F k ∨ A3.map Addr.block = some k) = F2 at *
    have k1 := (cell_blk HAI2.out.blk 1).trans rfl
    clear HAI
    go_wp2_with fail
    clear k1
    go_loopw [54] (fun i wr => ∃ k : Nat, k ≤ args.length ∧ i = .int .i64 k ∧ ∃ F', AddI w wr F I F' I' p fb ib ⟨nm, args⟩ A' c' L k) (fun i _ => args.length - (intOf i).toNat)
    case atStart => exact ⟨0, by omega, rfl, F2, HAI2.out⟩
    case round =>
      obtain ⟨k, hk, rfl, F', hai⟩ := hrel
      clear HAI2
      have HAIr := Lib.hid hai; clear hai
      by_cases hlt : k < args.length
      · obtain ⟨b1, o1, hA1, -, hbs1, g1, g2, g3⟩ := HAIr.out.sl.arg hlt
        simp only at hA1 hbs1 g1 g2 g3
        subst hA1
        have k0 := (cell_blk HAIr.out.blk 0).trans rfl; have k1 := (cell_blk HAIr.out.blk 1).trans rfl
        have hwr : w.heap.size < wr.heap.size := (Array.getElem?_eq_some_iff.1 HAIr.out.blk).1
        have hki : (⟨nm, args⟩ : Atm).args[k]? = some args[k] := List.getElem?_eq_getElem hlt
        have hoq := okP_arg HOK.out (by show args.length ≤ _; omega) HKD.out hki
        generalize args[k] = y at *
        have HKI := Lib.hid hki; have HOQ := Lib.hid hoq; clear hki hoq
        go_wp2_with fail
        clear k0 k1 g1 g2 g3
        have hai := HAIr.out.below (wy := wr.alloc (.cells #[.int .i64 y.kind, .string ⟨y.text.toArray⟩, .int .i64 y.num] 46)) boxed
        generalize hWX : wr.alloc (.cells #[.int .i64 y.kind, .string ⟨y.text.toArray⟩, .int .i64 y.num] 46) = WX at *
        have hwx : WX.heap.size = wr.heap.size + 1 := by rw [← hWX]; simp
        rw [← hwx]
        clear hWX hwx
        have HAI := Lib.hid hai; clear hai
        obtain ⟨W8, hW8⟩ : ∃ W8, W8 = WX.alloc (.cells #[.string ⟨nm.toArray⟩, .int .i64 args.length, .int .i64 k, .int .i64 y.kind, .int .i64 y.num, .string ⟨y.text.toArray⟩] 128) := ⟨_, rfl⟩
        rw [← hW8]
        obtain ⟨im, B0, c0, hmi, heB, hBk, hown1, hfin⟩ := HAI.out.app (argPl ⟨nm, args⟩ k y) (HOQ.out) (((k : Int) + 1)) (lstK_arg L HKI.out)
        have hmaps := HAI.out.base.maps
        have hpl := HAI.out.base.lt
        have hkl := (Array.getElem?_eq_some_iff.1 HAI.out.blk).1
        have hnib : w.heap.size ≠ ib := fun e => HAI.out.nk (by rw [e]; exact hmaps.2.1)
        have hx8 : W8.heap[w.heap.size]? = some (.cells #[.string ⟨nm.toArray⟩, .slice (some ⟨b1, o1, none⟩) args.length c'] 31 (0, 0)) := by rw [hW8]; exact blkOld HAI.out.blk _
        have hp8 : W8.heap[p]? = some (.cells #[.map (some fb), .map (some ib)] 91 (0, 0)) := by rw [hW8]; exact blkOld HAI.out.base.blk _
        have hq8 : W8.heap[WX.heap.size]? = some (.cells #[.string ⟨nm.toArray⟩, .int .i64 args.length, .int .i64 k, .int .i64 y.kind, .int .i64 y.num, .string ⟨y.text.toArray⟩] 128 (0, 0)) := by rw [hW8]; exact blkAt _ _ rfl
        have hg8 : WX.grownBy W8 (some ib) := by rw [hW8]; exact World.grownBy_alloc _ _ _
        have hsz8 : W8.heap.size = WX.heap.size + 1 := by rw [hW8]; simp
        have HMI := Lib.hid (hmi.keep (w' := W8) (by rw [hW8]; exact Below.heap_alloc _ _ _ hmi.lt))
        have HEB := Lib.hid heB; have HBK := Lib.hid hBk; have HOW := Lib.hid hown1; have HFIN := Lib.hid hfin; have HG8 := Lib.hid hg8; have HMP := Lib.hid hmaps; have HNI := Lib.hid hnib
        have hlK := lstK_len L ⟨nm, args⟩ ((k : Int)) (argPl ⟨nm, args⟩ k y)
        have HLK := Lib.hid hlK
        clear hmi heB hBk hown1 hfin hg8 hW8 hmaps hnib hlK
        refine wpY_region (fun z => z.heap[p]? = some (.cells #[.map (some fb), .map (some ib)] 91 (0, 0)) ∧ z.heap[WX.heap.size]? = some (.cells #[.string ⟨nm.toArray⟩, .int .i64 args.length, .int .i64 k, .int .i64 y.kind, .int .i64 y.num, .string ⟨y.text.toArray⟩] 128 (0, 0)) ∧ z.heap[w.heap.size]? = some (.cells #[.string ⟨nm.toArray⟩, .slice (some ⟨b1, o1, none⟩) args.length c'] 31 (0, 0))) 11 (by kernel_rfl) ?_
        have hS : W8.drew.heap[p]? = some (.cells #[.map (some fb), .map (some ib)] 91 (0, 0)) ∧ W8.drew.heap[WX.heap.size]? = some (.cells #[.string ⟨nm.toArray⟩, .int .i64 args.length, .int .i64 k, .int .i64 y.kind, .int .i64 y.num, .string ⟨y.text.toArray⟩] 128 (0, 0)) ∧ W8.drew.heap[w.heap.size]? = some (.cells #[.string ⟨nm.toArray⟩, .slice (some ⟨b1, o1, none⟩) args.length c'] 31 (0, 0)) := ⟨hp8, hq8, hx8⟩
        have HX := Lib.hid (fun (z : World) (hz : z.heap[p]? = some (.cells #[.map (some fb), .map (some ib)] 91 (0, 0)) ∧ z.heap[WX.heap.size]? = some (.cells #[.string ⟨nm.toArray⟩, .int .i64 args.length, .int .i64 k, .int .i64 y.kind, .int .i64 y.num, .string ⟨y.text.toArray⟩] 128 (0, 0)) ∧ z.heap[w.heap.size]? = some (.cells #[.string ⟨nm.toArray⟩, .slice (some ⟨b1, o1, none⟩) args.length c'] 31 (0, 0))) => And.intro ((cell_blk hz.1 1).trans rfl) (And.intro ((cell_blk hz.2.1 0).trans rfl) (And.intro ((cell_blk hz.2.1 1).trans rfl) (And.intro ((cell_blk hz.2.1 2).trans rfl) (And.intro ((cell_blk hz.2.1 3).trans rfl) (And.intro ((cell_blk hz.2.1 4).trans rfl) (And.intro ((cell_blk hz.2.1 5).trans rfl) (And.intro ((cell_blk hz.2.2 0).trans rfl) ((cell_blk hz.2.2 1).trans rfl)))))))))
        have HS8 := Lib.hid hS
        have HG9 := Lib.hid (show WX.grownBy W8.drew (some ib) from ⟨HG8.out.os, HG8.out.tape, HG8.out.output, HG8.out.size, HG8.out.block⟩)
        generalize hWd : W8.drew = W8d at *
        have HSZD := Lib.hid (show W8d.heap.size = WX.heap.size + 1 by rw [← hWd]; exact hsz8)
        have HM8 := Lib.hid (show MapV TP W8d ib im by rw [← hWd]; exact HMI.out)
        clear hx8 hp8 hq8 HMI hWd HG8 hsz8
        (refine wpAnyY_takeW 0 rfl rfl (by kernel_rfl) (by kernel_rfl) (by kernel_rfl) (by kernel_rfl) (fun _ _ _ h => h) (v := ?_) (by kernel_rfl) hS ?_ ?_; rotate_left; (focus (intro x hx; have fx := HX.out x hx; go_simp; (try with_reducible rfl); done)); (try simp only [Act.put, lsa, lsz, lss]))
        (refine wpAnyY_takeW 1 rfl rfl (by kernel_rfl) (by kernel_rfl) (by kernel_rfl) (by kernel_rfl) (fun _ _ _ h => h) (v := ?_) (by kernel_rfl) hS ?_ ?_; rotate_left; (focus (intro x hx; have fx := HX.out x hx; go_simp; (try with_reducible rfl); done)); (try simp only [Act.put, lsa, lsz, lss]))
        (refine wpAnyY_takeW 2 rfl rfl (by kernel_rfl) (by kernel_rfl) (by kernel_rfl) (by kernel_rfl) (fun _ _ _ h => h) (v := ?_) (by kernel_rfl) hS ?_ ?_; rotate_left; (focus (intro x hx; have fx := HX.out x hx; go_simp; (try with_reducible rfl); done)); (try simp only [Act.put, lsa, lsz, lss]))
        (refine wpAnyY_takeW 3 rfl rfl (by kernel_rfl) (by kernel_rfl) (by kernel_rfl) (by kernel_rfl) (fun _ _ _ h => h) (v := ?_) (by kernel_rfl) hS ?_ ?_; rotate_left; (focus (intro x hx; have fx := HX.out x hx; go_simp; (try with_reducible rfl); done)); (try simp only [Act.put, lsa, lsz, lss]))
        (refine wpAnyY_takeW 4 rfl rfl (by kernel_rfl) (by kernel_rfl) (by kernel_rfl) (by kernel_rfl) (fun _ _ _ h => h) (v := ?_) (by kernel_rfl) hS ?_ ?_; rotate_left; (focus (intro x hx; have fx := HX.out x hx; go_simp; (try with_reducible rfl); done)); (try simp only [Act.put, lsa, lsz, lss]))
        (refine wpAnyY_takeW 5 rfl rfl (by kernel_rfl) (by kernel_rfl) (by kernel_rfl) (by kernel_rfl) (fun _ _ _ h => h) (v := ?_) (by kernel_rfl) hS ?_ ?_; rotate_left; (focus (intro x hx; have fx := HX.out x hx; go_simp; (try with_reducible rfl); done)); (try simp only [Act.put, lsa, lsz, lss]))
        have hplt : p < WX.heap.size := hpl
        have hklt : w.heap.size < WX.heap.size := hkl
        have HKEEP := Lib.hid (fun (u1 u2 : World) (hy : u1.heap[p]? = some (.cells #[.map (some fb), .map (some ib)] 91 (0, 0)) ∧ u1.heap[WX.heap.size]? = some (.cells #[.string ⟨nm.toArray⟩, .int .i64 args.length, .int .i64 k, .int .i64 y.kind, .int .i64 y.num, .string ⟨y.text.toArray⟩] 128 (0, 0)) ∧ u1.heap[w.heap.size]? = some (.cells #[.string ⟨nm.toArray⟩, .slice (some ⟨b1, o1, none⟩) args.length c'] 31 (0, 0))) (hz : u1.grownBy u2 (some ib)) => keep3 hy hz (by have := HMP.out.2.2.2.1; omega) (by have := HMP.out.2.2.2.1; omega) HNI.out)
        refine wpAnyY_one 6 (by kernel_rfl) rfl ?_
        intro K' hK'
        go_simp
        have hga := World.grownBy_alloc W8d (.cells #[.string ⟨nm.toArray⟩, .slice (some ⟨b1, o1, none⟩) args.length c'] 31) (some ib)
        have hSa := HKEEP.out _ _ HS8.out hga
        have hbx := blkAt W8d (.cells #[.string ⟨nm.toArray⟩, .slice (some ⟨b1, o1, none⟩) args.length c'] 31) rfl
        have hma := HM8.out.alloc (.cells #[.string ⟨nm.toArray⟩, .slice (some ⟨b1, o1, none⟩) args.length c'] 31)
        have hGa := grown_then HG9.out hga
        refine hK'.out _ _ (fun _ => hSa) ?_
        clear hK' K' hga
        obtain ⟨kx, hkx⟩ : ∃ kx, kx = W8d.heap.size := ⟨_, rfl⟩
        rw [← hkx] at hbx ⊢
        have hkx2 : WX.heap.size < kx := by have := HSZD.out; omega
        have hkxl : kx < (W8d.alloc (.cells #[.string ⟨nm.toArray⟩, .slice (some ⟨b1, o1, none⟩) args.length c'] 31)).heap.size := by simp; omega
        generalize W8d.alloc (.cells #[.string ⟨nm.toArray⟩, .slice (some ⟨b1, o1, none⟩) args.length c'] 31) = W9 at *
        refine wpAnyY_one 7 (by kernel_rfl) rfl ?_
        intro K' hK'
        refine step_entV rfl _ _ rfl Tryz.underlying89 zeroP rfl (argPl ⟨nm, args⟩ k y) rfl hma (HOQ.out) rfl (.slice B0 (lstK L ⟨nm, args⟩ ((k : Int)) (argPl ⟨nm, args⟩ k y)).length c0) HEB.out ?_
        intro st WE hgE hmE hst
        have hSE := HKEEP.out _ _ hSa hgE
        have hGE := grown_then hGa hgE
        have hbE := (hgE.block kx hkxl (fun e => by injection e with e; have := HMP.out.2.2.2.1; omega)).trans hbx
        have hstE : ∀ (w2 : World) (v : Value), w2.heap[ib]? = WE.heap[ib]? → ∃ w3, (Instr.entryStore 89 (.map (some ib)) (goInt st) v).run Tryz.prog w2 = .ok () w3 ∧ MapV TP w3 ib (setM im (argPl ⟨nm, args⟩ k y) v) ∧ w2.grownBy w3 (some ib) := hst
        refine hK'.out _ _ (fun _ => hSE) ?_
        clear hK' K' hst hma hSa hGa hgE hmE
        have HST := Lib.hid hstE; have HBE := Lib.hid hbE; have HGE := Lib.hid hGE
        have hS := hSE
        clear hstE hbE hGE hSE
        (refine wpAnyY_takeW 8 rfl rfl (by kernel_rfl) (by kernel_rfl) (by kernel_rfl) (by kernel_rfl) (fun _ _ _ h => h) (v := ?_) (by kernel_rfl) hS ?_ ?_; rotate_left; (focus (intro x hx; have fx := HX.out x hx; go_simp; (try with_reducible rfl); done)); (try simp only [Act.put, lsa, lsz, lss]))
        (refine wpAnyY_takeW 10 rfl rfl (by kernel_rfl) (by kernel_rfl) (by kernel_rfl) (by kernel_rfl) (fun _ _ _ h => h) (v := ?_) (by kernel_rfl) hS ?_ ?_; rotate_left; (focus (intro x hx; have fx := HX.out x hx; go_simp; (try with_reducible rfl); done)); (try simp only [Act.put, lsa, lsz, lss]))
        refine wpAnyY_one 9 (by kernel_rfl) rfl ?_
        intro K' hK'
        have hoo := HOW.out WE HGE.out.size (fun k hk hne => HGE.out.block k hk (fun e => hne (by injection e)))
        have hlk := HLK.out
        have hszE := HGE.out.size
        refine step_app1 (T := I') (base := p + 1) (xs := lstK L ⟨nm, args⟩ ((k : Int)) (argPl ⟨nm, args⟩ k y)) rfl _ _ eltAtm rfl (by decide) rfl rfl rfl hoo.1 rfl [.string ⟨nm.toArray⟩, .slice (some ⟨b1, o1, none⟩) args.length c'] (⟨nm, args⟩ : Atm) HBE.out rfl hoo.2 (by omega) (by omega) (by omega) ?_
        intro A3 c3 w10 hown10 hg10 hat10
        have hne10 : ∀ k, B0.map Addr.block = some k → k ≠ ib ∧ k ≠ p ∧ k ≠ WX.heap.size ∧ k ≠ w.heap.size := fun k hk => by
          have h1 := HBK.out k hk; have h2 := HMP.out.2.2.2.1; exact ⟨by omega, by omega, by omega, h1.2.2⟩
        have hS10 : w10.heap[p]? = some (.cells #[.map (some fb), .map (some ib)] 91 (0, 0)) ∧ w10.heap[WX.heap.size]? = some (.cells #[.string ⟨nm.toArray⟩, .int .i64 args.length, .int .i64 k, .int .i64 y.kind, .int .i64 y.num, .string ⟨y.text.toArray⟩] 128 (0, 0)) ∧ w10.heap[w.heap.size]? = some (.cells #[.string ⟨nm.toArray⟩, .slice (some ⟨b1, o1, none⟩) args.length c'] 31 (0, 0)) :=
          ⟨grownBlk hg10 hS.1 (fun e => (hne10 _ e).2.1 rfl), grownBlk hg10 hS.2.1 (fun e => (hne10 _ e).2.2.1 rfl), grownBlk hg10 hS.2.2 (fun e => (hne10 _ e).2.2.2 rfl)⟩
        have hib10 : w10.heap[ib]? = WE.heap[ib]? := hg10.block ib (by have := HMP.out.2.2.2.1; omega) (fun e => (hne10 _ e.symm).1 rfl)
        refine hK'.out _ _ (fun _ => hS10) ?_
        clear hK' K'
        refine wpAnyY_one 11 (by kernel_rfl) rfl ?_
        intro K' hK'
        obtain ⟨w11, hrun, hm11, hg11⟩ := HST.out w10 (.slice A3 ((lstK L ⟨nm, args⟩ ((k : Int)) (argPl ⟨nm, args⟩ k y)).length + 1) c3) hib10
        refine step_estV rfl _ _ _ rfl rfl (st := st) rfl (.slice A3 ((lstK L ⟨nm, args⟩ ((k : Int)) (argPl ⟨nm, args⟩ k y)).length + 1) c3) rfl hrun ?_
        have hai := HFIN.out WE w10 w11 A3 c3 HGE.out.size HGE.out.os HGE.out.tape HGE.out.output (fun k hk hne => HGE.out.block k hk (fun e => hne (by injection e))) hown10 hg10 hat10 hm11 hg11
        have HAI2 := Lib.hid hai
        refine hK'.out _ _ (fun h => absurd rfl h) ?_
        clear hK' K' hrun hm11 hg11 hai hS10 hib10 hne10 hown10 hg10 hat10 hoo HST HBE HGE hS HKEEP HX HS8 HG9 HM8 HEB HBK HOW HFIN HMP HNI HLK
        refine wpAnyY_done (by kernel_rfl) ?_ _
        generalize (fun k => F' k ∨ A3.map Addr.block = some k) = F3 at *
        go_wp2_with fail
        go_roundw
        case rel => exact ⟨k + 1, by omega, by go_num, F3, by rw [Int.natCast_add]; exact HAI2.out⟩
        case measure => simp [intOf]; omega
      · have hke : k = args.length := by omega
        subst hke
        go_wp2_with fail
        refine bodyPost_ret (v := .bool true) (by simp [results, Tryz.results40, go_sem]) rfl ?_
        have hai := HAIr.out
        exact ⟨rfl, F', I', by rw [addQ, if_neg (by rw [← HV.out]; decide)]; exact hai.base.toR (fun q _ => lstK_end L ⟨nm, args⟩ q) (by have h := addQ_nodup HND.out (⟨nm, args⟩ : Atm); rwa [addQ, if_neg (by rw [← HV.out]; decide)] at h), ⟨hai.f, hai.f2, hai.i, hai.i2, hai.base.bd, hai.frm⟩⟩
end Go.Proofs.YtkjoaodoioicpaaGreatDoor
