/- Query (package licitlaw54): a part of the proofs of its laws; see the law's own text, which comes last in 'order'. No conditions of its own. -/
import Derived.Shelf.SlMaps.Clone
import Derived.DeepKeys4
import Derived.Test.YtkjoaodoioicpaaGreatDoorWA04
import Derived.Test.YtkjoaodoioicpaaGreatDoorWA08
import Derived.Test.YtkjoaodoioicpaaGreatDoorWA09
set_option linter.unusedVariables false
set_option linter.unusedSimpArgs false
namespace Go.Proofs.YtkjoaodoioicpaaGreatDoor
open Go.RowKit
theorem positiveQ_any (l : Ltl) (A : Option Addr) (n c : Nat) (w : World) :
    Calls Tryz.prog 78 #[.agg #[.bool l.neg, .string ⟨l.op.toArray⟩, .string ⟨l.atom.name.toArray⟩, .slice A n c]] w fun e w' => e = .returned (.bool (positiveS l)) ∧ Below w.heap.size w w' := by
  obtain ⟨neg, op, nm, args⟩ := l
  have hv : positiveS ⟨neg, op, nm, args⟩ = (op.isEmpty && !neg) := rfl
  simp only at *
  cases op with
  | nil =>
    cases neg
    all_goals
      go_enter Tryz.func78, Tryz.ntmps78
      go_wp2_with fail
      go_ret
      exact ⟨ret_bool (by rw [hv]; rfl), boxed⟩
  | cons x r =>
    go_enter Tryz.func78, Tryz.ntmps78
    go_wp2_with fail
    go_ret
    exact ⟨ret_bool (by rw [hv]; rfl), boxed⟩
theorem slArg1 {w : World} {b : Nat} {a : Arg} (hb : w.heap[b]? = some (.cells #[.int .i64 a.kind, .string ⟨a.text.toArray⟩, .int .i64 a.num] 46 (0, 0))) : Sl w (fun _ => True) (some ⟨b, 0, none⟩) 1 1 [a] := by
  refine ⟨rfl, Nat.le_refl _, by decide, fun i hi => ?_⟩
  have hi : i < 1 := hi
  have h0 : i = 0 := by omega
  subst h0
  refine ⟨_, rfl, trivial, fun j => (#[.int .i64 a.kind, .string ⟨a.text.toArray⟩, .int .i64 a.num] : Array Value).getD j undef, fun j hj => ?_, rfl, rfl, rfl⟩
  have hj : j < 3 := hj
  rw [add_plain, cell_blk hb]
  match j, hj with
  | 0, _ => rfl
  | 1, _ => rfl
  | 2, _ => rfl
set_option maxHeartbeats 2000000 in
theorem compareQ_any (op : Bs) (x y : Arg) (w : World) :
    Calls Tryz.prog 111 #[.string ⟨op.toArray⟩, vArg x, vArg y] w fun e w' => e = .returned (.bool (compareS op x y)) ∧ Below w.heap.size w w' := by
  obtain ⟨V, hV⟩ : ∃ V, V = compareS op x y := ⟨_, rfl⟩
  rw [← hV]
  unfold compareS at hV
  simp only at hV
  have hor := fun w A B h1 h2 => Order_any ⟨[], [x]⟩ ⟨[], [y]⟩ A 1 1 B 1 1 w (fun _ => True) (fun _ => True) h1 h2
  simp only at hor
  generalize ordS ⟨[], [x]⟩ ⟨[], [y]⟩ = r at *
  have HV := Lib.hid hV; have HO := Lib.hid hor; clear hV hor
  unfold vArg
  have hW : ∀ (W : World), W = ((((w.alloc (.cells #[.int .i64 x.kind, .string ⟨x.text.toArray⟩, .int .i64 x.num] 46)).alloc (.cells #[.int .i64 y.kind, .string ⟨y.text.toArray⟩, .int .i64 y.num] 46)).alloc (.cells #[.int .i64 x.kind, .string ⟨x.text.toArray⟩, .int .i64 x.num] 46)).alloc (.cells #[.int .i64 y.kind, .string ⟨y.text.toArray⟩, .int .i64 y.num] 46)) →
      Sl W (fun _ => True) (some ⟨w.heap.size + 1 + 1, 0, none⟩) 1 1 [x] ∧ Sl W (fun _ => True) (some ⟨w.heap.size + 1 + 1 + 1, 0, none⟩) 1 1 [y] ∧ Below w.heap.size w W := by
    rintro W rfl
    exact ⟨slArg1 (blkOld (blkAt _ _ (by simp)) _), slArg1 (blkAt _ _ (by simp)), ((boxed.alloc (by simp) _).alloc (by simp; omega) _).alloc (by simp; omega) _⟩
  have HW := Lib.hid hW; clear hW
  go_enter Tryz.func111, Tryz.ntmps111
  go_wp2_with fail
  refine (HO.out _ _ _ (HW.out _ rfl).1 (HW.out _ rfl).2.1).mono ?_
  rintro e w1 ⟨rfl, hb1⟩
  have hb := (HW.out _ rfl).2.2.trans (hb1.mono (HW.out _ rfl).2.2.size)
  have HB := Lib.hid hb; clear hb1 hb
  go_wp2
  all_goals go_ret
  all_goals (refine ⟨ret_bool ?_, HB.out⟩; rw [HV.out]; clear HV HO HW HB)
  all_goals (simp_all)
end Go.Proofs.YtkjoaodoioicpaaGreatDoor
namespace Go.Proofs.YtkjoaodoioicpaaGreatDoor
open Go.RowKit
theorem key_any (x : Atm) (A : Option Addr) (n c : Nat) (w : World) (S : Nat → Prop) (hs : Sl w S A n c x.args) (ho : OkT x) (hL : LD w) :
    Calls Tryz.prog 45 #[.agg #[.string ⟨x.name.toArray⟩, .slice A n c]] w fun e w' => e = .returned (.string ⟨(printAtomS x).1.toArray⟩) ∧ Below w.heap.size w w' := by
  have hp := PrintAtom_any x A n c _ S (hs.alloc (.cells #[.string ⟨x.name.toArray⟩, .slice A n c] 31)) ho (hL.alloc _)
  have HP := Lib.hid hp; clear hp
  go_enter Tryz.func45, Tryz.ntmps45
  go_wp2_with fail
  refine HP.out.mono ?_
  rintro e w1 ⟨rfl, hb1⟩
  go_wp2_with fail
  go_ret
  exact ⟨rfl, boxed.trans (hb1.mono (by simp))⟩
set_option maxRecDepth 100000 in
set_option maxHeartbeats 2000000 in
theorem cloneM_any (b : Nat) (es : Array MapEntry) (clock : Nat) (w : World) (hb : w.heap[b]? = some (.map es clock)) :
    Calls Tryz.prog 112 #[.map (some b)] w fun e w' => e = .returned (.map (some w.heap.size)) ∧ w' = w.alloc (.map es clock) := by
  have hq := fun w => run_eql_map_nil_sl (P := Tryz.prog) w 85 _ _ (some b) Tryz.underlying85
  go_enter Tryz.func112, Tryz.ntmps112
  go_wp2_with fail
  rw [run_callFunc_extern Tryz.func141 (by kernel_rfl) (by kernel_rfl) (by kernel_rfl) (e := Extern.MapsClone.clone) (by kernel_rfl), run_maps_clone_sl w 85 hb]
  simp only [Result.andThen]
  rw [Oper.upon_value]
  go_wp2_with fail
  rw [run_typeAssert_map_sl _ 85 20 _ _ _ Tryz.underlying85]
  simp only [Result.andThen]
  rw [Oper.upon_value]
  go_wp2_with fail
  go_ret
  exact ⟨rfl, rfl⟩
theorem cloneA_any (v : Bnd) (b : Nat) (w : World) (hm : MapA w b v) :
    Calls Tryz.prog 112 #[.map (some b)] w fun e w' => e = .returned (.map (some w.heap.size)) ∧ MapA w' w.heap.size v ∧ Below w.heap.size w w' := by
  obtain ⟨⟨es, clock, hb, hs, he, hk⟩, ho⟩ := hm
  refine (cloneM_any b es clock w hb).mono ?_
  rintro e w' ⟨rfl, rfl⟩
  exact ⟨rfl, ⟨⟨es, clock, blkAt w _ rfl, hs, he, hk⟩, ho⟩, (Below.refl _ _).alloc (Nat.le_refl _) _⟩
end Go.Proofs.YtkjoaodoioicpaaGreatDoor
namespace Go.Proofs.YtkjoaodoioicpaaGreatDoor
open Go.RowKit
def FtPost (w : World) (b0 : Nat) (r : Option Bnd) (e : Ending) (w' : World) : Prop :=
  (match r with
    | none => e = .returned (.tuple #[.map none, .bool false])
    | some v => ∃ b, (b = b0 ∨ w.heap.size ≤ b) ∧ e = .returned (.tuple #[.map (some b), .bool true]) ∧ MapA w' b v) ∧ Below w.heap.size w w'
theorem okB_set {v : Bnd} (h : ∀ p ∈ v, OkA p.2) (s : Bs) {x : Arg} (hx : OkA x) : ∀ p ∈ setA v s x, OkA p.2 := by
  induction v with
  | nil => intro p hp; rw [setA, List.mem_singleton] at hp; rw [hp]; exact hx
  | cons q r ih =>
    intro p hp
    rw [setA] at hp
    split at hp
    · rcases List.mem_cons.1 hp with rfl | hp
      · exact hx
      · exact h p (List.mem_cons_of_mem _ hp)
    · rcases List.mem_cons.1 hp with rfl | hp
      · exact h _ List.mem_cons_self
      · exact ih (fun q hq => h q (List.mem_cons_of_mem _ hq)) p hp
set_option maxRecDepth 100000 in
set_option maxHeartbeats 8000000 in
theorem fitQ_any (v : Bnd) (x f : Atm) (b : Nat) (A : Option Addr) (n c : Nat) (B : Option Addr) (m d : Nat) (w : World) (S T : Nat → Prop) (hm : MapA w b v) (hs : Sl w S A n c x.args) (hf : Sl w T B m d f.args) (hlen : x.args.length = f.args.length) (ho : OkT x) (hof : OkT f) :
    Calls Tryz.prog 80 #[.map (some b), .agg #[.string ⟨x.name.toArray⟩, .slice A n c], .agg #[.string ⟨f.name.toArray⟩, .slice B m d]] w (FtPost w b (fitGo v x.args f.args)) := by
  have hn := hs.len
  have hn2 := hf.len
  rw [← hlen] at hn2
  subst hn
  subst hn2
  obtain ⟨nm, args⟩ := x
  obtain ⟨fm, fargs⟩ := f
  simp only at *
  have hle := hs.le
  have hA := ho.2
  have hB := hof.2
  simp only at hA hB
  obtain ⟨V, hV⟩ : ∃ V, V = fitGo v args fargs := ⟨_, rfl⟩
  rw [← hV]
  have HV0 : Hid (V = fitGo v (args.drop 0) (fargs.drop 0)) := hV
  have hB1 : ((w.alloc (.cells #[.string ⟨nm.toArray⟩, .slice A args.length c] 31)).alloc (.cells #[.string ⟨fm.toArray⟩, .slice B args.length d] 31)).heap[w.heap.size + 1]? = some (.cells #[.string ⟨fm.toArray⟩, .slice B args.length d] 31 (0, 0)) := blkAt _ _ (by simp)
  have hbl : Below w.heap.size w ((w.alloc (.cells #[.string ⟨nm.toArray⟩, .slice A args.length c] 31)).alloc (.cells #[.string ⟨fm.toArray⟩, .slice B args.length d] 31)) := boxed.alloc (by simp) _
  have HM := Lib.hid hm; have HS := Lib.hid hs; have HF := Lib.hid hf; have HA := Lib.hid hA; have HAB := Lib.hid hB; have HLEN := Lib.hid hlen; have HB1 := Lib.hid hB1; have HBL := Lib.hid hbl
  clear hm hs hf hA hB ho hof hV hlen hB1 hbl
  go_enter Tryz.func80, Tryz.ntmps80
  go_wp2_with fail
  have hB1 := HB1.out; have hbl := HBL.out
  generalize (w.alloc (.cells #[.string ⟨nm.toArray⟩, .slice A args.length c] 31)).alloc (.cells #[.string ⟨fm.toArray⟩, .slice B args.length d] 31) = W at *
  clear HB1 HBL
  have HB1 := Lib.hid hB1; have HBL := Lib.hid hbl
  clear hB1 hbl
  go_loopw [8, 16] (fun o i wr => ∃ k : Nat, k ≤ args.length ∧ i = .int .i64 k ∧ Below W.heap.size W wr ∧ ∃ b' v', Hid (b' = b ∨ w.heap.size ≤ b') ∧ o = .map (some b') ∧ MapA wr b' v' ∧ Hid (V = fitGo v' (args.drop k) (fargs.drop k))) (fun _ i _ => args.length - (intOf i).toNat)
  case atStart => exact ⟨0, by omega, rfl, Below.refl _ _, b, v, Lib.hid (.inl rfl), rfl, HM.out.below HBL.out, HV0⟩
  case round =>
    obtain ⟨k, hk, rfl, hb, b', v', HBN, rfl, hma, hf⟩ := hrel
    have hbw : Below w.heap.size w wr := HBL.out.trans (hb.mono HBL.out.size)
    by_cases hlt : k < args.length
    · obtain ⟨b1, o1, rfl, -, hbs1, g1, g2, g3⟩ := (HS.out.below hbw).arg hlt
      have hd := hf.out
      rw [drop_get hlt, drop_get (l := fargs) (k := k) (by have := HLEN.out; omega), fitGo] at hd
      simp only [List.headD_cons, List.drop_one, List.tail_cons] at hd
      have hox := HA.out _ (List.getElem_mem hlt)
      have hoq := HAB.out _ (List.getElem_mem (show k < fargs.length by have := HLEN.out; omega))
      obtain ⟨b2, o2, rfl, -, hbs2, e1, e2, e3⟩ := (HF.out.below hbw).arg (k := k) (by have := HLEN.out; omega)
      generalize args[k] = x at *
      generalize fargs[k]'_ = q at *
      have hun := fun w' hb => under_any v' x b' w' (hma.below hb) hox
      have huo := under_ok hma.2 hox
      generalize under v' x = y at *
      obtain ⟨yk, yt, yn⟩ := y
      obtain ⟨qk, qt, qn⟩ := q
      simp only at e1 e2 e3
      have hk1 := (cell_blk (keptBlk hb HB1.out) 1).trans rfl
      have HD := Lib.hid hd; have HU := Lib.hid hun; have HMA := Lib.hid hma; have HBB := Lib.hid hb; have HOX := Lib.hid hox; have HOQ := Lib.hid hoq
      clear hd hun hma hb hf hox hoq
      unfold vArg at *
      simp only at HU
      have HX0 := Lib.hid (fun (z : World) (hz : Below wr.heap.size wr z) => And.intro (cell_later hz hk1) (And.intro (cell_later hz e1) (And.intro (cell_later hz e2) (cell_later hz e3))))
      clear e1 e2 e3 hk1
      go_wp2_with fail
      refine (HU.out _ boxed).mono ?_
      rintro e w3 ⟨rfl, hb3⟩
      have hb3' : Below wr.heap.size wr w3 := boxed.trans (hb3.mono (by simp))
      have hx3 := keptBlk hb3 (blkAt wr (.cells #[.int .i64 x.kind, .string ⟨x.text.toArray⟩, .int .i64 x.num] 46) rfl)
      have HB3 := Lib.hid hb3'; have HX3 := Lib.hid hx3
      clear hb3 hb3' hx3 g1 g2 g3
      by_cases hyk : yk = 1
      · subst hyk
        have hd := HD.out
        rw [if_neg (by decide)] at hd
        have HD2 := Lib.hid hd; clear hd HD
        have hbW : Below wr.heap.size wr (w3.alloc (.cells #[.int .i64 1, .string ⟨yt.toArray⟩, .int .i64 yn] 46)) := HB3.out.alloc HB3.out.size _
        have hcl := cloneA_any v' b' _ (HMA.out.below hbW)
        have hx5 := blkOld HX3.out (.cells #[.int .i64 1, .string ⟨yt.toArray⟩, .int .i64 yn] 46)
        have HCL := Lib.hid hcl; have HBW := Lib.hid hbW; have HX5 := Lib.hid hx5
        clear hcl hbW hx5
        go_wp2_with fail
        have hcl := HCL.out; have hbW := HBW.out; have hx5 := HX5.out
        generalize w3.alloc (.cells #[.int .i64 1, .string ⟨yt.toArray⟩, .int .i64 yn] 46) = W5 at *
        clear HCL HBW HX5
        refine hcl.mono ?_
        rintro e w6 ⟨rfl, hm6, hb6⟩
        have hb56 : Below wr.heap.size wr w6 := hbW.trans (hb6.mono hbW.size)
        have hx6 := keptBlk hb6 hx5
        have HX := Lib.hid (fun (z : World) (hz : Below w6.heap.size w6 z) => And.intro ((cell_blk (keptBlk hz hx6) 1).trans rfl) (HX0.out z (hb56.trans (hz.mono hb56.size))))
        have hsz5 := hbW.size
        have hsz6 := hb6.size
        have HM6 := Lib.hid hm6; have HB6 := Lib.hid hb56
        have q0 : (0 : Int) ≤ (k : Int) := by omega
        have q1 : (k : Int) < (args.length : Int) := by omega
        clear hcl hbW hx5 hx6 hm6 hb6 hb56
        go_wp2_with fail
        refine wpY_region (fun z => Below w6.heap.size w6 z) 8 (by kernel_rfl) ?_
        have hS : Below w6.heap.size w6 w6.drew := (Below.refl _ _).drew
        (refine wpAnyY_takeW 0 rfl rfl (by kernel_rfl) (by kernel_rfl) (by kernel_rfl) (by kernel_rfl) (fun _ _ _ h => h) (v := ?_) (by kernel_rfl) hS ?_ ?_; rotate_left; (focus (intro x hx; have fx := HX.out x hx; go_simp; (try with_reducible rfl); done)); (try simp only [Act.put, lsa, lsz, lss]))
        (refine wpAnyY_takeW 1 rfl rfl (by kernel_rfl) (by kernel_rfl) (by kernel_rfl) (by kernel_rfl) (fun _ _ _ h => h) (v := ?_) (by kernel_rfl) hS ?_ ?_; rotate_left; (focus (intro x hx; have fx := HX.out x hx; go_simp; (try with_reducible rfl); done)); (try simp only [Act.put, lsa, lsz, lss]))
        (refine wpAnyY_takeW 2 rfl rfl (by kernel_rfl) (by kernel_rfl) (by kernel_rfl) (by kernel_rfl) (fun _ _ _ h => h) (v := ?_) (by kernel_rfl) hS ?_ ?_; rotate_left; (focus (intro x hx; have fx := HX.out x hx; go_simp; (try with_reducible rfl); done)); (try simp only [Act.put, lsa, lsz, lss]))
        (refine wpAnyY_takeW 3 rfl rfl (by kernel_rfl) (by kernel_rfl) (by kernel_rfl) (by kernel_rfl) (fun _ _ _ h => h) (v := ?_) (by kernel_rfl) hS ?_ ?_; rotate_left; (focus (intro x hx; have fx := HX.out x hx; go_simp; (try with_reducible rfl); done)); (try simp only [Act.put, lsa, lsz, lss]))
        (refine wpAnyY_takeW 4 rfl rfl (by kernel_rfl) (by kernel_rfl) (by kernel_rfl) (by kernel_rfl) (fun _ _ _ h => h) (v := ?_) (by kernel_rfl) hS ?_ ?_; rotate_left; (focus (intro x hx; have fx := HX.out x hx; go_simp; (try with_reducible rfl); done)); (try simp only [Act.put, lsa, lsz, lss]))
        (refine wpAnyY_takeW 5 rfl rfl (by kernel_rfl) (by kernel_rfl) (by kernel_rfl) (by kernel_rfl) (fun _ _ _ h => h) (v := ?_) (by kernel_rfl) hS ?_ ?_; rotate_left; (focus (intro x hx; have fx := HX.out x hx; go_simp; (try with_reducible rfl); done)); (try simp only [Act.put, lsa, lsz, lss]))
        (refine wpAnyY_takeW 6 rfl rfl (by kernel_rfl) (by kernel_rfl) (by kernel_rfl) (by kernel_rfl) (fun _ _ _ h => h) (v := ?_) (by kernel_rfl) hS ?_ ?_; rotate_left; (focus (intro x hx; have fx := HX.out x hx; go_simp; (try with_reducible rfl); done)); (try simp only [Act.put, lsa, lsz, lss]))
        (refine wpAnyY_takeW 7 rfl rfl (by kernel_rfl) (by kernel_rfl) (by kernel_rfl) (by kernel_rfl) (fun _ _ _ h => h) (v := ?_) (by kernel_rfl) hS ?_ ?_; rotate_left; (focus (intro x hx; have fx := HX.out x hx; go_simp; (try with_reducible rfl); done)); (try simp only [Act.put, lsa, lsz, lss]))
        refine wpAnyY_one 8 (by kernel_rfl) rfl ?_
        intro K' hK'
        have hks := HOX.out.1
        refine step_updV rfl _ _ _ rfl Tryz.underlying85 rfl x.text rfl (.agg #[.int .i64 qk, .string ⟨qt.toArray⟩, .int .i64 qn]) rfl (HM6.out.below hS).1 hks ?_
        intro w7 hm7 hg7
        have hma7 : MapA w7 W5.heap.size (setA v' x.text ⟨qk, qt, qn⟩) := ⟨by rw [← setM_bnd]; exact hm7, okB_set HMA.out.2 _ HOQ.out⟩
        have hsS := hS.size
        have hb7 : Below wr.heap.size wr w7 := (HB6.out.trans (hS.mono HB6.out.size)).grown hg7 (by omega) (fun k hk => by injection hk with hk; omega)
        have HM7 := Lib.hid hma7; have HB7 := Lib.hid hb7
        refine hK'.out _ _ (fun h => absurd rfl h) ?_
        clear hK' K' hm7 hg7 hma7 hb7 hS hsS
        refine wpAnyY_done (by kernel_rfl) ?_ _
        clear HX HX0 HM6 HB6 HMA
        go_wp2_with fail
        go_roundw
        case rel => exact ⟨k + 1, by omega, by go_num, HBB.out.trans (HB7.out.mono HBB.out.size), W5.heap.size, _, Lib.hid (.inr (by have := HBL.out.size; have := HBB.out.size; omega)), rfl, HM7.out, HD2.out⟩
        case measure => simp [intOf]; omega
      · have hykb : (yk != 1) = true := by simpa using hyk
        have hd := HD.out
        rw [if_pos hyk] at hd
        have HD2 := Lib.hid hd; clear hd HD
        go_wp2_with fail
        have hY := blkAt w3 (.cells #[.int .i64 yk, .string ⟨yt.toArray⟩, .int .i64 yn] 46) rfl
        have hbW : Below wr.heap.size wr (w3.alloc (.cells #[.int .i64 yk, .string ⟨yt.toArray⟩, .int .i64 yn] 46)) := HB3.out.alloc HB3.out.size _
        generalize w3.alloc (.cells #[.int .i64 yk, .string ⟨yt.toArray⟩, .int .i64 yn] 46) = W5 at *
        have HX := Lib.hid (fun (z : World) (hz : Below W5.heap.size W5 z) => And.intro ((cell_blk (keptBlk hz hY) 0).trans rfl) (And.intro ((cell_blk (keptBlk hz hY) 1).trans rfl) (And.intro ((cell_blk (keptBlk hz hY) 2).trans rfl) (HX0.out z (hbW.trans (hz.mono hbW.size))))))
        have HBW := Lib.hid hbW
        have q0 : (0 : Int) ≤ (k : Int) := by omega
        have q1 : (k : Int) < (args.length : Int) := by omega
        clear hY hbW
        refine wpH_region (fun z => Below W5.heap.size W5 z) (by kernel_rfl) ?_
        have hS : Below W5.heap.size W5 W5.drew := (Below.refl _ _).drew
        (refine tkW 0 (v := ?_) hS ?_ ?_; rotate_left; (focus (intro x hx; have fx := HX.out x hx; go_simp; (try with_reducible rfl); done)); (try simp only [Act.put, lsa, lsz, lss]))
        (refine tkW 1 (v := ?_) hS ?_ ?_; rotate_left; (focus (intro x hx; have fx := HX.out x hx; go_simp; (try with_reducible rfl); done)); (try simp only [Act.put, lsa, lsz, lss]))
        (refine tkW 2 (v := ?_) hS ?_ ?_; rotate_left; (focus (intro x hx; have fx := HX.out x hx; go_simp; (try with_reducible rfl); done)); (try simp only [Act.put, lsa, lsz, lss]))
        (refine tkW 3 (v := ?_) hS ?_ ?_; rotate_left; (focus (intro x hx; have fx := HX.out x hx; go_simp; (try with_reducible rfl); done)); (try simp only [Act.put, lsa, lsz, lss]))
        (refine tkW 4 (v := ?_) hS ?_ ?_; rotate_left; (focus (intro x hx; have fx := HX.out x hx; go_simp; (try with_reducible rfl); done)); (try simp only [Act.put, lsa, lsz, lss]))
        (refine tkW 5 (v := ?_) hS ?_ ?_; rotate_left; (focus (intro x hx; have fx := HX.out x hx; go_simp; (try with_reducible rfl); done)); (try simp only [Act.put, lsa, lsz, lss]))
        have hbz := HBL.out.trans ((HBB.out.trans ((HBW.out.trans (hS.mono HBW.out.size)).mono HBB.out.size)).mono HBL.out.size)
        by_cases hyq : yk = qk ∧ yt = qt ∧ yn = qn
        · obtain ⟨rfl, rfl, rfl⟩ := hyq
          (refine tkW 6 (v := ?_) hS ?_ ?_; rotate_left; (focus (intro x hx; have fx := HX.out x hx; go_simp; (try with_reducible rfl); done)); (try simp only [Act.put, lsa, lsz, lss]))
          refine wpAnyH_done (by kernel_rfl) ?_ _
          have hd := HD2.out
          rw [if_pos rfl] at hd
          have HD3 := Lib.hid hd; clear hd HD2
          go_wp2_with fail
          go_roundw
          case rel => exact ⟨k + 1, by omega, by go_num, HBB.out.trans ((HBW.out.trans (hS.mono HBW.out.size)).mono HBB.out.size), b', v', HBN, rfl, HMA.out.below (HBW.out.trans (hS.mono HBW.out.size)), HD3.out⟩
          case measure => simp [intOf]; omega
        · refine wpAnyH_takeW 6 rfl rfl (by kernel_rfl) (by kernel_rfl) (by kernel_rfl) (fun _ _ _ h => h) (v := .bool true) (by kernel_rfl) hS (fun x hx => by have fx := HX.out x hx; go_simp; exact fun a b c => hyq ⟨a, b, c⟩) ?_
          simp only [Act.put, lsa, lsz, lss]
          refine wpAnyH_done (by kernel_rfl) ?_ _
          have hd := HD2.out
          rw [if_neg (fun e => hyq (by injection e with e1 e2 e3; exact ⟨e1, e2, e3⟩))] at hd
          have HD3 := Lib.hid hd; clear hd HD2 hyq
          go_wp2_with fail
          refine bodyPost_ret (v := .tuple #[.map none, .bool false]) (by simp [results, Tryz.results80, go_sem]) rfl ?_
          rw [HD3.out]
          exact ⟨rfl, hbz⟩
    · have hd := hf.out
      rw [drop_end hlt, fitGo] at hd
      have HD := Lib.hid hd; have HMA := Lib.hid hma
      clear hd hf hma
      go_wp2_with fail
      refine bodyPost_ret (v := .tuple #[.map (some b'), .bool true]) (by simp [results, Tryz.results80, go_sem]) rfl ?_
      rw [HD.out]
      exact ⟨⟨b', HBN.out, rfl, HMA.out⟩, hbw⟩
end Go.Proofs.YtkjoaodoioicpaaGreatDoor
namespace Go.Proofs.YtkjoaodoioicpaaGreatDoor
open Go.RowKit Go.ChangeShapes Go.WideShapes
structure Plc where
  name : Bs
  arity : Int
  at_ : Int
  kind : Int
  num : Int
  text : Bs
  deriving DecidableEq
def vPlc (p : Plc) : Value := .agg #[.string ⟨p.name.toArray⟩, .int .i64 p.arity, .int .i64 p.at_, .int .i64 p.kind, .int .i64 p.num, .string ⟨p.text.toArray⟩]
def In64 (n : Int) : Prop := -9223372036854775808 ≤ n ∧ n ≤ 9223372036854775807
def OkP (p : Plc) : Prop := p.name.length ≤ 9223372036854775807 ∧ p.text.length ≤ 9223372036854775807 ∧ In64 p.arity ∧ In64 p.at_ ∧ In64 p.kind ∧ In64 p.num
theorem wf64 {n : Int} (h : In64 n) : (Lit.int .i64 n).wf = true := WalkArith.wf_i64 h
theorem keyLit_str {d : Nat} {s : Bs} (h : s.length ≤ 9223372036854775807) : Tryz.prog.keyLits (d + 1) 9 [.string ⟨s.toArray⟩] = some [.string s] := by
  have hs : (⟨s.toArray⟩ : ByteArray).size ≤ maxLen := by simpa [ByteArray.size, maxLen] using h
  unfold Program.keyLits
  rw [Tryz.underlying9]
  simp [hs]
theorem keyLit_int {d : Nat} {n : Int} (h : In64 n) : Tryz.prog.keyLits (d + 1) 3 [.int .i64 n] = some [.int .i64 n] := by
  unfold Program.keyLits
  rw [Tryz.underlying3]
  simp [wf64 h]
theorem plc_lit (p : Plc) (h : OkP p) : ∃ l, keyOf Tryz.prog 128 (vPlc p) = some l := by
  obtain ⟨nm, ar, at_, kd, nu, tx⟩ := p
  obtain ⟨h1, h2, h3, h4, h5, h6⟩ := h
  simp only at h1 h2 h3 h4 h5 h6
  have hkt : Tryz.prog.keyType 128 = true := by kernel_rfl
  have hfm : (vPlc ⟨nm, ar, at_, kd, nu, tx⟩).formed Tryz.prog 128 = true := by
    unfold vPlc Value.formed
    rw [Tryz.underlying128]
    simp only [beq_iff_eq]
    kernel_rfl
  unfold keyOf
  rw [Tryz.underlying128]
  simp only [hkt, hfm, Bool.and_self, if_true]
  have hsz : ∃ d, Tryz.prog.types.size + 1 = d + 1 + 1 := ⟨Tryz.prog.types.size - 1, by have : 0 < Tryz.prog.types.size := of_decide_eq_true (by kernel_rfl); omega⟩
  obtain ⟨d, hd⟩ := hsz
  rw [hd]
  refine Option.isSome_iff_exists.1 ?_
  rw [Option.isSome_map]
  unfold Program.keyLits
  rw [Tryz.underlying128]
  have hc : Tryz.prog.cellsOf 128 = 6 := by kernel_rfl
  have hcs : Tryz.prog.cellsOf 9 = 1 := by kernel_rfl
  have hci : Tryz.prog.cellsOf 3 = 1 := by kernel_rfl
  simp [vPlc, Value.cells, hc, hcs, hci, keyLit_str h1, keyLit_str h2, keyLit_int h3, keyLit_int h4, keyLit_int h5, keyLit_int h6]
theorem str_inj {a b : Bs} (h : (⟨a.toArray⟩ : ByteArray) = ⟨b.toArray⟩) : a = b := by
  injection h with h
  simpa using congrArg Array.toList h
def TP : KeyT Plc where
  K := 128
  kv := vPlc
  law := deep_law_laid (m := 3) (by kernel_rfl) (by omega) (of_decide_eq_true (by kernel_rfl)) (by kernel_rfl) (by rw [Tryz.underlying128])
  ok := OkP
  lit := plc_lit
  inj := fun a b h => by
    obtain ⟨a1, a2, a3, a4, a5, a6⟩ := a
    obtain ⟨b1, b2, b3, b4, b5, b6⟩ := b
    simp only [vPlc, Value.agg.injEq, Array.mk.injEq, List.cons.injEq, Value.string.injEq, Value.int.injEq, and_true, true_and] at h
    obtain ⟨h1, h2, h3, h4, h5, h6⟩ := h
    rw [str_inj h1, h2, h3, h4, h5, str_inj h6]
end Go.Proofs.YtkjoaodoioicpaaGreatDoor
