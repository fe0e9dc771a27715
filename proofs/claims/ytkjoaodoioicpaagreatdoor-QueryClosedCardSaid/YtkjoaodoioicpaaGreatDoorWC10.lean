/- Query (package licitlaw54): a part of the proofs of its laws; see the law's own text, which comes last in 'order'. No conditions of its own. -/
import Derived.Shelf.SlMaps.Clone
import Derived.DeepKeys4
import Derived.Test.YtkjoaodoioicpaaGreatDoorWC03
import Derived.Test.YtkjoaodoioicpaaGreatDoorWC08
import Derived.Test.YtkjoaodoioicpaaGreatDoorWC09
set_option linter.unusedVariables false
set_option linter.unusedSimpArgs false
namespace Go.Proofs.YtkjoaodoioicpaaGreatDoor
open Go.RowKit
theorem positiveQ_any (l : Ltl) (A : Option Addr) (n c : Nat) (w : World) :
    Calls Tryz.prog 78 #[.agg #[.bool l.neg, .string ⟨l.op.toArray⟩, .string ⟨l.atom.name.toArray⟩, .slice A n c]] w fun e w' => e = .returned (.bool (positiveS l)) ∧ Below w.heap.size w w' := by
  obtain ⟨neg, op, nm, args⟩ := l
  have hv : positiveS ⟨neg, op, nm, args⟩ = (op.isEmpty && !neg) := rfl
  simp only at *
  cases op with
  | nil =>
    cases neg
    all_goals
      go_enter Tryz.func78, Tryz.ntmps78
      go_wp2_with fail
      go_ret
      exact ⟨ret_bool (by rw [hv]; rfl), boxed⟩
  | cons x r =>
    go_enter Tryz.func78, Tryz.ntmps78
    go_wp2_with fail
    go_ret
    exact ⟨ret_bool (by rw [hv]; rfl), boxed⟩
theorem slArg1 {w : World} {b : Nat} {a : Arg} (hb : w.heap[b]? = some (.cells #[.int .i64 a.kind, .string ⟨a.text.toArray⟩, .int .i64 a.num] 46 (0, 0))) : Sl w (fun _ => True) (some ⟨b, 0, none⟩) 1 1 [a] := by
  refine ⟨rfl, Nat.le_refl _, by decide, fun i hi => ?_⟩
  have hi : i < 1 := hi
  have h0 : i = 0 := by omega
  subst h0
  refine ⟨_, rfl, trivial, fun j => (#[.int .i64 a.kind, .string ⟨a.text.toArray⟩, .int .i64 a.num] : Array Value).getD j undef, fun j hj => ?_, rfl, rfl, rfl⟩
  have hj : j < 3 := hj
  rw [add_plain, cell_blk hb]
  match j, hj with
  | 0, _ => rfl
  | 1, _ => rfl
  | 2, _ => rfl
set_option maxHeartbeats 2000000 in
theorem compareQ_any (op : Bs) (x y : Arg) (w : World) :
    Calls Tryz.prog 111 #[.string ⟨op.toArray⟩, vArg x, vArg y] w fun e w' => e = .returned (.bool (compareS op x y)) ∧ Below w.heap.size w w' := by
  obtain ⟨V, hV⟩ : ∃ V, V = compareS op x y := ⟨_, rfl⟩
  rw [← hV]
  unfold compareS at hV
  simp only at hV
  have hor := fun w A B h1 h2 => Order_any ⟨[], [x]⟩ ⟨[], [y]⟩ A 1 1 B 1 1 w (fun _ => True) (fun _ => True) h1 h2
  simp only at hor
  generalize ordS ⟨[], [x]⟩ ⟨[], [y]⟩ = r at *
  have HV := Lib.hid hV; have HO := Lib.hid hor; clear hV hor
  unfold vArg
  have hW : ∀ (W : World), W = ((((w.alloc (.cells #[.int .i64 x.kind, .string ⟨x.text.toArray⟩, .int .i64 x.num] 46)).alloc (.cells #[.int .i64 y.kind, .string ⟨y.text.toArray⟩, .int .i64 y.num] 46)).alloc (.cells #[.int .i64 x.kind, .string ⟨x.text.toArray⟩, .int .i64 x.num] 46)).alloc (.cells #[.int .i64 y.kind, .string ⟨y.text.toArray⟩, .int .i64 y.num] 46)) →
      Sl W (fun _ => True) (some ⟨w.heap.size + 1 + 1, 0, none⟩) 1 1 [x] ∧ Sl W (fun _ => True) (some ⟨w.heap.size + 1 + 1 + 1, 0, none⟩) 1 1 [y] ∧ Below w.heap.size w W := by
    rintro W rfl
    exact ⟨slArg1 (blkOld (blkAt _ _ (by simp)) _), slArg1 (blkAt _ _ (by simp)), ((boxed.alloc (by simp) _).alloc (by simp; omega) _).alloc (by simp; omega) _⟩
  have HW := Lib.hid hW; clear hW
  go_enter Tryz.func111, Tryz.ntmps111
  go_wp2_with fail
  refine (HO.out _ _ _ (HW.out _ rfl).1 (HW.out _ rfl).2.1).mono ?_
  rintro e w1 ⟨rfl, hb1⟩
  have hb := (HW.out _ rfl).2.2.trans (hb1.mono (HW.out _ rfl).2.2.size)
  have HB := Lib.hid hb; clear hb1 hb
  go_wp2
  all_goals go_ret
  all_goals (refine ⟨ret_bool ?_, HB.out⟩; rw [HV.out]; clear HV HO HW HB)
  all_goals (simp_all)
end Go.Proofs.YtkjoaodoioicpaaGreatDoor
namespace Go.Proofs.YtkjoaodoioicpaaGreatDoor
open Go.RowKit
theorem key_any (x : Atm) (A : Option Addr) (n c : Nat) (w : World) (S : Nat → Prop) (hs : Sl w S A n c x.args) (ho : OkT x) (hL : LD w) :
    Calls Tryz.prog 45 #[.agg #[.string ⟨x.name.toArray⟩, .slice A n c]] w fun e w' => e = .returned (.string ⟨(printAtomS x).1.toArray⟩) ∧ Below w.heap.size w w' := by
  have hp := PrintAtom_any x A n c _ S (hs.alloc (.cells #[.string ⟨x.name.toArray⟩, .slice A n c] 31)) ho (hL.alloc _)
  have HP := Lib.hid hp; clear hp
  go_enter Tryz.func45, Tryz.ntmps45
  go_wp2_with fail
  refine HP.out.mono ?_
  rintro e w1 ⟨rfl, hb1⟩
  go_wp2_with fail
  go_ret
  exact ⟨rfl, boxed.trans (hb1.mono (by simp))⟩
set_option maxRecDepth 100000 in
set_option maxHeartbeats 2000000 in
theorem cloneM_any (b : Nat) (es : Array MapEntry) (clock : Nat) (w : World) (hb : w.heap[b]? = some (.map es clock)) :
    Calls Tryz.prog 112 #[.map (some b)] w fun e w' => e = .returned (.map (some w.heap.size)) ∧ w' = w.alloc (.map es clock) := by
  have hq := fun w => run_eql_map_nil_sl (P := Tryz.prog) w 85 _ _ (some b) Tryz.underlying85
  go_enter Tryz.func112, Tryz.ntmps112
  go_wp2_with fail
  rw [run_callFunc_extern Tryz.func141 (by kernel_rfl) (by kernel_rfl) (by kernel_rfl) (e := Extern.MapsClone.clone) (by kernel_rfl), run_maps_clone_sl w 85 hb]
  simp only [Result.andThen]
  rw [Oper.upon_value]
  go_wp2_with fail
  rw [run_typeAssert_map_sl _ 85 20 _ _ _ Tryz.underlying85]
  simp only [Result.andThen]
  rw [Oper.upon_value]
  go_wp2_with fail
  go_ret
  exact ⟨rfl, rfl⟩
theorem cloneA_any (v : Bnd) (b : Nat) (w : World) (hm : MapA w b v) :
    Calls Tryz.prog 112 #[.map (some b)] w fun e w' => e = .returned (.map (some w.heap.size)) ∧ MapA w' w.heap.size v ∧ Below w.heap.size w w' := by
  obtain ⟨⟨es, clock, hb, hs, he, hk⟩, ho⟩ := hm
  refine (cloneM_any b es clock w hb).mono ?_
  rintro e w' ⟨rfl, rfl⟩
  exact ⟨rfl, ⟨⟨es, clock, blkAt w _ rfl, hs, he, hk⟩, ho⟩, (Below.refl _ _).alloc (Nat.le_refl _) _⟩
end Go.Proofs.YtkjoaodoioicpaaGreatDoor
namespace Go.Proofs.YtkjoaodoioicpaaGreatDoor
open Go.RowKit
def FtPost (w : World) (b0 : Nat) (r : Option Bnd) (e : Ending) (w' : World) : Prop :=
  (match r with
    | none => e = .returned (.tuple #[.map none, .bool false])
    | some v => ∃ b, (b = b0 ∨ w.heap.size ≤ b) ∧ e = .returned (.tuple #[.map (some b), .bool true]) ∧ MapA w' b v) ∧ Below w.heap.size w w'
theorem okB_set {v : Bnd} (h : ∀ p ∈ v, OkA p.2) (s : Bs) {x : Arg} (hx : OkA x) : ∀ p ∈ setA v s x, OkA p.2 := by
  induction v with
  | nil => intro p hp; rw [setA, List.mem_singleton] at hp; rw [hp]; exact hx
  | cons q r ih =>
    intro p hp
    rw [setA] at hp
    split at hp
    · rcases List.mem_cons.1 hp with rfl | hp
      · exact hx
      · exact h p (List.mem_cons_of_mem _ hp)
    · rcases List.mem_cons.1 hp with rfl | hp
      · exact h _ List.mem_cons_self
      · exact ih (fun q hq => h q (List.mem_cons_of_mem _ hq)) p hp
set_option maxRecDepth 100000 in
set_option maxHeartbeats 8000000 in
theorem fitQ_any (v : Bnd) (x f : Atm) (b : Nat) (A : Option Addr) (n c : Nat) (B : Option Addr) (m d : Nat) (w : World) (S T : Nat → Prop) (hm : MapA w b v) (hs : Sl w S A n c x.args) (hf : Sl w T B m d f.args) (hlen : x.args.length = f.args.length) (ho : OkT x) (hof : OkT f) :
    Calls Tryz.prog 80 #[.map (some b), .agg #[.string ⟨x.name.toArray⟩, .slice A n c], .agg #[.string ⟨f.name.toArray⟩, .slice B m d]] w (FtPost w b (fitGo v x.args f.args)) := by
  have hn := hs.len
  have hn2 := hf.len
  rw [← hlen] at hn2
  subst hn
  subst hn2
  obtain ⟨nm, args⟩ := x
  obtain ⟨fm, fargs⟩ := f
  simp only at *
  have hle := hs.le
  have hA := ho.2
  have hB := hof.2
  simp only at hA hB
  obtain ⟨V, hV⟩ : ∃ V, V = fitGo v args fargs := ⟨_, rfl⟩
  rw [← hV]
  have HV0 : Hid (V = fitGo v (args.drop 0) (fargs.drop 0)) := hV
  have hB1 : ((w.alloc (.cells #[.string ⟨nm.toArray⟩, .slice A args.length c] 31)).alloc (.cells #[.string ⟨fm.toArray⟩, .slice B args.length d] 31)).heap[w.heap.size + 1]? = some (.cells #[.string ⟨fm.toArray⟩, .slice B args.length d] 31 (0, 0)) := blkAt _ _ (by simp)
  have hbl : Below w.heap.size w ((w.alloc (.cells #[.string ⟨nm.toArray⟩, .slice A args.length c] 31)).alloc (.cells #[.string ⟨fm.toArray⟩, .slice B args.length d] 31)) := boxed.alloc (by simp) _
  have HM := Lib.hid hm; have HS := Lib.hid hs; have HF := Lib.hid hf; have HA := Lib.hid hA; have HAB := Lib.hid hB; have HLEN := Lib.hid hlen; have HB1 := Lib.hid hB1; have HBL := Lib.hid hbl
  clear hm hs hf hA hB ho hof hV hlen hB1 hbl
  go_enter Tryz.func80, Tryz.ntmps80
  go_wp2_with fail
  have hB1 := HB1.out; have hbl := HBL.out
  generalize (w.alloc (.cells #[.string ⟨nm.toArray⟩, .slice A args.length c] 31)).alloc (.cells #[.string ⟨fm.toArray⟩, .slice B args.length d] 31) = W at *
  clear HB1 HBL
  have HB1 := Lib.hid hB1; have HBL := Lib.hid hbl
  clear hB1 hbl
  go_loopw [8, 16] (fun o i wr => ∃ k : Nat, k ≤ args.length ∧ i = .int .i64 k ∧ Below W.heap.size W wr ∧ ∃ b' v', Hid (b' = b ∨ w.heap.size ≤ b') ∧ o = .map (some b') ∧ MapA wr b' v' ∧ Hid (V = fitGo v' (args.drop k) (fargs.drop k))) (fun _ i _ => args.length - (intOf i).toNat)
  case atStart => exact ⟨0, by omega, rfl, Below.refl _ _, b, v, Lib.hid (.inl rfl), rfl, HM.out.below HBL.out, HV0⟩
  case round =>
    obtain ⟨k, hk, rfl, hb, b', v', HBN, rfl, hma, hf⟩ := hrel
    have hbw : Below w.heap.size w wr := HBL.out.trans (hb.mono HBL.out.size)
    by_cases hlt : k < args.length
    · obtain ⟨b1, o1, rfl, -, hbs1, g1, g2, g3⟩ := (HS.out.below hbw).arg hlt
      have hd := hf.out
      rw [drop_get hlt, drop_get (l := fargs) (k := k) (by have := HLEN.out; omega), fitGo] at hd
      simp only [List.headD_cons, List.drop_one, List.tail_cons] at hd
      have hox := HA.out _ (List.getElem_mem hlt)
      have hoq := HAB.out _ (List.getElem_mem (show k < fargs.length by have := HLEN.out; omega))
      obtain ⟨b2, o2, rfl, -, hbs2, e1, e2, e3⟩ := (HF.out.below hbw).arg (k := k) (by have := HLEN.out; omega)
      generalize args[k] = x at *
      generalize fargs[k]'_ = q at *
      have hun := fun w' hb => under_any v' x b' w' (hma.below hb) hox
      have huo := under_ok hma.2 hox
      generalize under v' x = y at *
      obtain ⟨yk, yt, yn⟩ := y
      obtain ⟨qk, qt, qn⟩ := q
      simp only at e1 e2 e3
      have hk1 := (cell_blk (keptBlk hb HB1.out) 1).trans rfl
      have HD := Lib.hid hd; have HU := Lib.hid hun; have HMA := Lib.hid hma; have HBB := Lib.hid hb; have HOX := Lib.hid hox; have HOQ := Lib.hid hoq
      clear hd hun hma hb hf hox hoq
      unfold vArg at *
      simp only at HU
      have HX0 := Lib.hid (fun (z : World) (hz : Below wr.heap.size wr z) => And.intro (cell_later hz hk1) (And.intro (cell_later hz e1) (And.intro (cell_later hz e2) (cell_later hz e3))))
      clear e1 e2 e3 hk1
      go_wp2_with fail
      refine (HU.out _ boxed).mono ?_
      rintro e w3 ⟨rfl, hb3⟩
      have hb3' : Below wr.heap.size wr w3 := boxed.trans (hb3.mono (by simp))
      have hx3 := keptBlk hb3 (blkAt wr (.cells #[.int .i64 x.kind, .string ⟨x.text.toArray⟩, .int .i64 x.num] 46) rfl)
      have HB3 := Lib.hid hb3'; have HX3 := Lib.hid hx3
      clear hb3 hb3' hx3 g1 g2 g3
      by_cases hyk : yk = 1
      · subst hyk
        have hd := HD.out
        rw [if_neg (by decide)] at hd
        have HD2 := Lib.hid hd; clear hd HD
        have hbW : Below wr.heap.size wr (w3.alloc (.cells #[.int .i64 1, .string ⟨yt.toArray⟩, .int .i64 yn] 46)) := HB3.out.alloc HB3.out.size _
        have hcl := cloneA_any v' b' _ (HMA.out.below hbW)
        have hx5 := blkOld HX3.out (.cells #[.int .i64 1, .string ⟨yt.toArray⟩, .int .i64 yn] 46)
        have HCL := Lib.hid hcl; have HBW := Lib.hid hbW; have HX5 := Lib.hid hx5
        clear hcl hbW hx5
        go_wp2_with fail
        have hcl := HCL.out; have hbW := HBW.out; have hx5 := HX5.out
        generalize w3.alloc (.cells #[.int .i64 1, .string ⟨yt.toArray⟩, .int .i64 yn] 46) = W5 at *
        clear HCL HBW HX5
        refine hcl.mono ?_
        rintro e w6 ⟨rfl, hm6, hb6⟩
        have hb56 : Below wr.heap.size wr w6 := hbW.trans (hb6.mono hbW.size)
        have hx6 := keptBlk hb6 hx5
        have HX := Lib.hid (fun (z : World) (hz : Below w6.heap.size w6 z) => And.intro ((cell_blk (keptBlk hz hx6) 1).trans rfl) (HX0.out z (hb56.trans (hz.mono hb56.size))))
        have hsz5 := hbW.size
        have hsz6 := hb6.size
        have HM6 := Lib.hid hm6; have HB6 := Lib.hid hb56
        have q0 : (0 : Int) ≤ (k : Int) := by omega
        have q1 : (k : Int) < (args.length : Int) := by omega
        clear hcl hbW hx5 hx6 hm6 hb6 hb56
        go_wp2_with fail
        refine wpY_region (fun z => Below w6.heap.size w6 z) 8 (by kernel_rfl) ?_
        have hS : Below w6.heap.size w6 w6.drew := (Below.refl _ _).drew
        (refine wpAnyY_takeW 0 rfl rfl (by kernel_rfl) (by kernel_rfl) (by kernel_rfl) (by kernel_rfl) (fun _ _ _ h => h) (v := ?_) (by kernel_rfl) hS ?_ ?_; rotate_left; (focus (intro x hx; have fx := HX.out x hx; go_simp; (try with_reducible rfl); done)); (try simp only [Act.put, lsa, lsz, lss]))
        (refine wpAnyY_takeW 1 rfl rfl (by kernel_rfl) (by kernel_rfl) (by kernel_rfl) (by kernel_rfl) (fun _ _ _ h => h) (v := ?_) (by kernel_rfl) hS ?_ ?_; rotate_left; (focus (intro x hx; have fx := HX.out x hx; go_simp; (try with_reducible rfl); done)); (try simp only [Act.put, lsa, lsz, lss]))
        (refine wpAnyY_takeW 2 rfl rfl (by kernel_rfl) (by kernel_rfl) (by kernel_rfl) (by kernel_rfl) (fun _ _ _ h => h) (v := ?_) (by kernel_rfl) hS ?_ ?_; rotate_left; (focus (intro x hx; have fx := HX.out x hx; go_simp; (try with_reducible rfl); done)); (try simp only [Act.put, lsa, lsz, lss]))
        (refine wpAnyY_takeW 3 rfl rfl (by kernel_rfl) (by kernel_rfl) (by kernel_rfl) (by kernel_rfl) (fun _ _ _ h => h) (v := ?_) (by kernel_rfl) hS ?_ ?_; rotate_left; (focus (intro x hx; have fx := HX.out x hx; go_simp; (try with_reducible rfl); done)); (try simp only [Act.put, lsa, lsz, lss]))
        (refine wpAnyY_takeW 4 rfl rfl (by kernel_rfl) (by kernel_rfl) (by kernel_rfl) (by kernel_rfl) (fun _ _ _ h => h) (v := ?_) (by kernel_rfl) hS ?_ ?_; rotate_left; (focus (intro x hx; have fx := HX.out x hx; go_simp; (try with_reducible rfl); done)); (try simp only [Act.put, lsa, lsz, lss]))
        (refine wpAnyY_takeW 5 rfl rfl (by kernel_rfl) (by kernel_rfl) (by kernel_rfl) (by kernel_rfl) (fun _ _ _ h => h) (v := ?_) (by kernel_rfl) hS ?_ ?_; rotate_left; (focus (intro x hx; have fx := HX.out x hx; go_simp; (try with_reducible rfl); done)); (try simp only [Act.put, lsa, lsz, lss]))
        (refine wpAnyY_takeW 6 rfl rfl (by kernel_rfl) (by kernel_rfl) (by kernel_rfl) (by kernel_rfl) (fun _ _ _ h => h) (v := ?_) (by kernel_rfl) hS ?_ ?_; rotate_left; (focus (intro x hx; have fx := HX.out x hx; go_simp; (try with_reducible rfl); done)); (try simp only [Act.put, lsa, lsz, lss]))
        (refine wpAnyY_takeW 7 rfl rfl (by kernel_rfl) (by kernel_rfl) (by kernel_rfl) (by kernel_rfl) (fun _ _ _ h => h) (v := ?_) (by kernel_rfl) hS ?_ ?_; rotate_left; (focus (intro x hx; have fx := HX.out x hx; go_simp; (try with_reducible rfl); done)); (try simp only [Act.put, lsa, lsz, lss]))
        refine wpAnyY_one 8 (by kernel_rfl) rfl ?_
        intro K' hK'
        have hks := HOX.out.1
        refine step_updV rfl _ _ _ rfl Tryz.underlying85 rfl x.text rfl (.agg #[.int .i64 qk, .string ⟨qt.toArray⟩, .int .i64 qn]) rfl (HM6.out.below hS).1 hks ?_
        intro w7 hm7 hg7
        have hma7 : MapA w7 W5.heap.size (setA v' x.text ⟨qk, qt, qn⟩) := ⟨by rw [← setM_bnd]; exact hm7, okB_set HMA.out.2 _ HOQ.out⟩
        have hsS := hS.size
        have hb7 : Below wr.heap.size wr w7 := (HB6.out.trans (hS.mono HB6.out.size)).grown hg7 (by omega) (fun k hk => by injection hk with hk; omega)
        have HM7 := Lib.hid hma7; have HB7 := Lib.hid hb7
        refine hK'.out _ _ (fun h => absurd rfl h) ?_
        clear hK' K' hm7 hg7 hma7 hb7 hS hsS
        refine wpAnyY_done (by kernel_rfl) ?_ _
        clear HX HX0 HM6 HB6 HMA
        go_wp2_with fail
        go_roundw
        case rel => exact ⟨k + 1, by omega, by go_num, HBB.out.trans (HB7.out.mono HBB.out.size), W5.heap.size, _, Lib.hid (.inr (by have := HBL.out.size; have := HBB.out.size; omega)), rfl, HM7.out, HD2.out⟩
        case measure => simp [intOf]; omega
      · have hykb : (yk != 1) = true := by simpa using hyk
        have hd := HD.out
        rw [if_pos hyk] at hd
        have HD2 := Lib.hid hd; clear hd HD
        go_wp2_with fail
        have hY := blkAt w3 (.cells #[.int .i64 yk, .string ⟨yt.toArray⟩, .int .i64 yn] 46) rfl
        have hbW : Below wr.heap.size wr (w3.alloc (.cells #[.int .i64 yk, .string ⟨yt.toArray⟩, .int .i64 yn] 46)) := HB3.out.alloc HB3.out.size _
        generalize w3.alloc (.cells #[.int .i64 yk, .string ⟨yt.toArray⟩, .int .i64 yn] 46) = W5 at *
        have HX := Lib.hid (fun (z : World) (hz : Below W5.heap.size W5 z) => And.intro ((cell_blk (keptBlk hz hY) 0).trans rfl) (And.intro ((cell_blk (keptBlk hz hY) 1).trans rfl) (And.intro ((cell_blk (keptBlk hz hY) 2).trans rfl) (HX0.out z (hbW.trans (hz.mono hbW.size))))))
        have HBW := Lib.hid hbW
        have q0 : (0 : Int) ≤ (k : Int) := by omega
        have q1 : (k : Int) < (args.length : Int) := by omega
        clear hY hbW
        refine wpH_region (fun z => Below W5.heap.size W5 z) (by kernel_rfl) ?_
        have hS : Below W5.heap.size W5 W5.drew := (Below.refl _ _).drew
        (refine tkW 0 (v := ?_) hS ?_ ?_; rotate_left; (focus (intro x hx; have fx := HX.out x hx; go_simp; (try with_reducible rfl); done)); (try simp only [Act.put, lsa, lsz, lss]))
        (refine tkW 1 (v := ?_) hS ?_ ?_; rotate_left; (focus (intro x hx; have fx := HX.out x hx; go_simp; (try with_reducible rfl); done)); (try simp only [Act.put, lsa, lsz, lss]))
        (refine tkW 2 (v := ?_) hS ?_ ?_; rotate_left; (focus (intro x hx; have fx := HX.out x hx; go_simp; (try with_reducible rfl); done)); (try simp only [Act.put, lsa, lsz, lss]))
        (refine tkW 3 (v := ?_) hS ?_ ?_; rotate_left; (focus (intro x hx; have fx := HX.out x hx; go_simp; (try with_reducible rfl); done)); (try simp only [Act.put, lsa, lsz, lss]))
        (refine tkW 4 (v := ?_) hS ?_ ?_; rotate_left; (focus (intro x hx; have fx := HX.out x hx; go_simp; (try with_reducible rfl); done)); (try simp only [Act.put, lsa, lsz, lss]))
        (refine tkW 5 (v := ?_) hS ?_ ?_; rotate_left; (focus (intro x hx; have fx := HX.out x hx; go_simp; (try with_reducible rfl); done)); (try simp only [Act.put, lsa, lsz, lss]))
        have hbz := HBL.out.trans ((HBB.out.trans ((HBW.out.trans (hS.mono HBW.out.size)).mono HBB.out.size)).mono HBL.out.size)
        by_cases hyq : yk = qk ∧ yt = qt ∧ yn = qn
        · obtain ⟨rfl, rfl, rfl⟩ := hyq
          (refine tkW 6 (v := ?_) hS ?_ ?_; rotate_left; (focus (intro x hx; have fx := HX.out x hx; go_simp; (try with_reducible rfl); done)); (try simp only [Act.put, lsa, lsz, lss]))
          refine wpAnyH_done (by kernel_rfl) ?_ _
          have hd := HD2.out
          rw [if_pos rfl] at hd
          have HD3 := Lib.hid hd; clear hd HD2
          go_wp2_with fail
          go_roundw
          case rel => exact ⟨k + 1, by omega, by go_num, HBB.out.trans ((HBW.out.trans (hS.mono HBW.out.size)).mono HBB.out.size), b', v', HBN, rfl, HMA.out.below (HBW.out.trans (hS.mono HBW.out.size)), HD3.out⟩
          case measure => simp [intOf]; omega
        · refine wpAnyH_takeW 6 rfl rfl (by kernel_rfl) (by kernel_rfl) (by kernel_rfl) (fun _ _ _ h => h) (v := .bool true) (by kernel_rfl) hS (fun x hx => by have fx := HX.out x hx; go_simp; exact fun a b c => hyq ⟨a, b, c⟩) ?_
          simp only [Act.put, lsa, lsz, lss]
          refine wpAnyH_done (by kernel_rfl) ?_ _
          have hd := HD2.out
          rw [if_neg (fun e => hyq (by injection e with e1 e2 e3; exact ⟨e1, e2, e3⟩))] at hd
          have HD3 := Lib.hid hd; clear hd HD2 hyq
          go_wp2_with fail
          refine bodyPost_ret (v := .tuple #[.map none, .bool false]) (by simp [results, Tryz.results80, go_sem]) rfl ?_
          rw [HD3.out]
          exact ⟨rfl, hbz⟩
    · have hd := hf.out
      rw [drop_end hlt, fitGo] at hd
      have HD := Lib.hid hd; have HMA := Lib.hid hma
      clear hd hf hma
      go_wp2_with fail
      refine bodyPost_ret (v := .tuple #[.map (some b'), .bool true]) (by simp [results, Tryz.results80, go_sem]) rfl ?_
      rw [HD.out]
      exact ⟨⟨b', HBN.out, rfl, HMA.out⟩, hbw⟩
end Go.Proofs.YtkjoaodoioicpaaGreatDoor
namespace Go.Proofs.YtkjoaodoioicpaaGreatDoor
open Go.RowKit Go.ChangeShapes Go.WideShapes
structure Plc where
  name : Bs
  arity : Int
  at_ : Int
  kind : Int
  num : Int
  text : Bs
  deriving DecidableEq
def vPlc (p : Plc) : Value := .agg #[.string ⟨p.name.toArray⟩, .int .i64 p.arity, .int .i64 p.at_, .int .i64 p.kind, .int .i64 p.num, .string ⟨p.text.toArray⟩]
def In64 (n : Int) : Prop := -9223372036854775808 ≤ n ∧ n ≤ 9223372036854775807
def OkP (p : Plc) : Prop := p.name.length ≤ 9223372036854775807 ∧ p.text.length ≤ 9223372036854775807 ∧ In64 p.arity ∧ In64 p.at_ ∧ In64 p.kind ∧ In64 p.num
theorem wf64 {n : Int} (h : In64 n) : (Lit.int .i64 n).wf = true := WalkArith.wf_i64 h
theorem keyLit_str {d : Nat} {s : Bs} (h : s.length ≤ 9223372036854775807) : Tryz.prog.keyLits (d + 1) 9 [.string ⟨s.toArray⟩] = some [.string s] := by
  have hs : (⟨s.toArray⟩ : ByteArray).size ≤ maxLen := by simpa [ByteArray.size, maxLen] using h
  unfold Program.keyLits
  rw [Tryz.underlying9]
  simp [hs]
theorem keyLit_int {d : Nat} {n : Int} (h : In64 n) : Tryz.prog.keyLits (d + 1) 3 [.int .i64 n] = some [.int .i64 n] := by
  unfold Program.keyLits
  rw [Tryz.underlying3]
  simp [wf64 h]
theorem plc_lit (p : Plc) (h : OkP p) : ∃ l, keyOf Tryz.prog 128 (vPlc p) = some l := by
  obtain ⟨nm, ar, at_, kd, nu, tx⟩ := p
  obtain ⟨h1, h2, h3, h4, h5, h6⟩ := h
  simp only at h1 h2 h3 h4 h5 h6
  have hkt : Tryz.prog.keyType 128 = true := by kernel_rfl
  have hfm : (vPlc ⟨nm, ar, at_, kd, nu, tx⟩).formed Tryz.prog 128 = true := by
    unfold vPlc Value.formed
    rw [Tryz.underlying128]
    simp only [beq_iff_eq]
    kernel_rfl
  unfold keyOf
  rw [Tryz.underlying128]
  simp only [hkt, hfm, Bool.and_self, if_true]
  have hsz : ∃ d, Tryz.prog.types.size + 1 = d + 1 + 1 := ⟨Tryz.prog.types.size - 1, by have : 0 < Tryz.prog.types.size := of_decide_eq_true (by kernel_rfl); omega⟩
  obtain ⟨d, hd⟩ := hsz
  rw [hd]
  refine Option.isSome_iff_exists.1 ?_
  rw [Option.isSome_map]
  unfold Program.keyLits
  rw [Tryz.underlying128]
  have hc : Tryz.prog.cellsOf 128 = 6 := by kernel_rfl
  have hcs : Tryz.prog.cellsOf 9 = 1 := by kernel_rfl
  have hci : Tryz.prog.cellsOf 3 = 1 := by kernel_rfl
  simp [vPlc, Value.cells, hc, hcs, hci, keyLit_str h1, keyLit_str h2, keyLit_int h3, keyLit_int h4, keyLit_int h5, keyLit_int h6]
theorem str_inj {a b : Bs} (h : (⟨a.toArray⟩ : ByteArray) = ⟨b.toArray⟩) : a = b := by
  injection h with h
  simpa using congrArg Array.toList h
def TP : KeyT Plc where
  K := 128
  kv := vPlc
  law := deep_law_laid (m := 3) (by kernel_rfl) (by omega) (of_decide_eq_true (by kernel_rfl)) (by kernel_rfl) (by rw [Tryz.underlying128])
  ok := OkP
  lit := plc_lit
  inj := fun a b h => by
    obtain ⟨a1, a2, a3, a4, a5, a6⟩ := a
    obtain ⟨b1, b2, b3, b4, b5, b6⟩ := b
    simp only [vPlc, Value.agg.injEq, Array.mk.injEq, List.cons.injEq, Value.string.injEq, Value.int.injEq, and_true, true_and] at h
    obtain ⟨h1, h2, h3, h4, h5, h6⟩ := h
    rw [str_inj h1, h2, h3, h4, h5, str_inj h6]
end Go.Proofs.YtkjoaodoioicpaaGreatDoor
namespace Go.Proofs.YtkjoaodoioicpaaGreatDoor
theorem getA_set (v : Bnd) (s t : Bs) (x : Arg) : getA (setA v s x) t = if s = t then some x else getA v t := by
  induction v with
  | nil =>
    simp only [setA, getA, beq_iff_eq]
  | cons p r ih =>
    simp only [setA]
    by_cases h : p.1 = s
    · simp only [h, beq_self_eq_true, if_true, getA, beq_iff_eq]
      by_cases hs : s = t
      · simp [hs]
      · simp [hs]
    · have h' : (p.1 == s) = false := by simpa using h
      simp only [h', Bool.false_eq_true, if_false, getA, beq_iff_eq, ih]
      by_cases hp : p.1 = t
      · subst hp
        simp [Ne.symm h]
      · simp [hp]
abbrev Sub := Bs → Arg
def subA (θ : Sub) (a : Arg) : Arg := if a.kind = 1 then θ a.text else a
def subT (θ : Sub) (a : Atm) : Atm := ⟨a.name, a.args.map (subA θ)⟩
def Agr (v : Bnd) (θ : Sub) : Prop := ∀ s x, getA v s = some x → θ s = x
def OkC (x : Arg) : Prop := formedS x = true ∧ x.kind ≠ 1
def Gr (b : List Atm) : Prop := ∀ f ∈ b, groundP f = true
def GrB (v : Bnd) : Prop := ∀ s x, getA v s = some x → OkC x
def Ext (v w : Bnd) : Prop := ∀ s x, getA v s = some x → getA w s = some x
def Cov (v : Bnd) (l : List Arg) : Prop := ∀ a ∈ l, a.kind = 1 → (getA v a.text).isSome = true
def thS (w : Bnd) : Sub := fun s => (getA w s).getD default
theorem ground_args {a : Atm} (h : groundP a = true) : ∀ x ∈ a.args, OkC x := by
  intro x hx
  unfold groundP at h
  rw [Bool.and_eq_true, Bool.not_eq_true'] at h
  obtain ⟨h1, h2⟩ := h
  refine ⟨atomS_args h1 x hx, fun hk => ?_⟩
  rw [List.any_eq_false] at h2
  exact h2 x hx (by simpa using hk)
theorem under_ne {v : Bnd} {a : Arg} (h : a.kind ≠ 1) : under v a = a := by
  unfold under
  split
  · rw [if_neg h]
  · rfl
theorem under_some {v : Bnd} {a y : Arg} (h : a.kind = 1) (hg : getA v a.text = some y) : under v a = y := by
  unfold under
  rw [hg]
  simp [h]
theorem under_none {v : Bnd} {a : Arg} (hg : getA v a.text = none) : under v a = a := by
  unfold under
  rw [hg]
theorem under_ext {v w : Bnd} (he : Ext v w) {l : List Arg} (hc : Cov v l) {a : Arg} (ha : a ∈ l) : under w a = under v a := by
  by_cases h : a.kind = 1
  · have := hc a ha h
    obtain ⟨y, hy⟩ := Option.isSome_iff_exists.1 this
    rw [under_some h hy, under_some h (he _ _ hy)]
  · rw [under_ne h, under_ne h]
theorem under_sub {v : Bnd} {θ : Sub} (hv : Agr v θ) {l : List Arg} (hc : Cov v l) {a : Arg} (ha : a ∈ l) : under v a = subA θ a := by
  unfold subA
  by_cases h : a.kind = 1
  · obtain ⟨y, hy⟩ := Option.isSome_iff_exists.1 (hc a ha h)
    rw [under_some h hy, if_pos h, hv _ _ hy]
  · rw [under_ne h, if_neg h]
theorem Ext.trans {u v w : Bnd} (h1 : Ext u v) (h2 : Ext v w) : Ext u w := fun s x h => h2 s x (h1 s x h)
theorem Cov.ext {v w : Bnd} (he : Ext v w) {l : List Arg} (hc : Cov v l) : Cov w l := fun a ha hk => by
  obtain ⟨y, hy⟩ := Option.isSome_iff_exists.1 (hc a ha hk)
  rw [he _ _ hy]; rfl
theorem agr_th (w : Bnd) : Agr w (thS w) := fun s x h => by unfold thS; rw [h]; rfl
theorem fit_sound : ∀ (xs fs : List Arg) (v w : Bnd), fitGo v xs fs = some w → GrB v → (∀ x ∈ fs, OkC x) → xs.length = fs.length → GrB w ∧ Ext v w ∧ Cov w xs ∧ xs.map (under w) = fs := by
  intro xs
  induction xs with
  | nil =>
    intro fs v w h hv hf hl
    simp only [fitGo, Option.some.injEq] at h
    subst h
    cases fs with
    | nil => exact ⟨hv, fun s x h => h, fun a ha => (by cases ha), rfl⟩
    | cons => cases hl
  | cons x xs ih =>
    intro fs v w h hv hf hl
    cases fs with
    | nil => cases hl
    | cons f fs =>
      simp only [fitGo, List.headD_cons, List.drop_one, List.tail_cons] at h
      have hl' : xs.length = fs.length := by simpa using hl
      have hf' : ∀ x ∈ fs, OkC x := fun y hy => hf y (List.mem_cons_of_mem _ hy)
      have hff := hf f List.mem_cons_self
      by_cases hk : (under v x).kind ≠ 1
      · rw [if_pos hk] at h
        by_cases he : under v x = f
        · rw [if_pos he] at h
          obtain ⟨g1, g2, g3, g4⟩ := ih fs v w h hv hf' hl'
          have hcx : x.kind = 1 → (getA v x.text).isSome = true := by
            intro hx1
            cases hg : getA v x.text with
            | none => rw [under_none hg] at hk; exact absurd hx1 hk
            | some y => rfl
          have hux : under w x = f := by
            rw [← he]
            exact under_ext g2 (l := [x]) (fun a ha => by rw [List.mem_singleton.1 ha]; exact hcx) (by simp)
          refine ⟨g1, g2, ?_, by rw [List.map_cons, g4, hux]⟩
          intro a ha
          rcases List.mem_cons.1 ha with rfl | ha
          · intro h1
            obtain ⟨y, hy⟩ := Option.isSome_iff_exists.1 (hcx h1)
            rw [g2 _ _ hy]; rfl
          · exact g3 a ha
        · rw [if_neg he] at h; cases h
      · rw [if_neg hk] at h
        have hk : (under v x).kind = 1 := Classical.not_not.1 hk
        have hx1 : x.kind = 1 ∧ getA v x.text = none := by
          by_cases h1 : x.kind = 1
          · cases hg : getA v x.text with
            | none => exact ⟨h1, rfl⟩
            | some y =>
              rw [under_some h1 hg] at hk
              exact absurd hk (hv _ _ hg).2
          · rw [under_ne h1] at hk; exact absurd hk h1
        have hv2 : GrB (setA v x.text f) := by
          intro s y hy
          rw [getA_set] at hy
          split at hy
          · injection hy with hy; rw [← hy]; exact hff
          · exact hv s y hy
        obtain ⟨g1, g2, g3, g4⟩ := ih fs _ w h hv2 hf' hl'
        have hw : getA w x.text = some f := g2 _ _ (by rw [getA_set, if_pos rfl])
        refine ⟨g1, fun s y hy => g2 s y ?_, ?_, by rw [List.map_cons, g4, under_some hx1.1 hw]⟩
        · rw [getA_set, if_neg]
          · exact hy
          · intro e; rw [← e, hx1.2] at hy; cases hy
        · intro a ha
          rcases List.mem_cons.1 ha with rfl | ha
          · intro _; rw [hw]; rfl
          · exact g3 a ha
theorem fit_complete (θ : Sub) : ∀ (xs : List Arg) (v : Bnd), Agr v θ → GrB v → (∀ x ∈ xs.map (subA θ), OkC x) → ∃ w, fitGo v xs (xs.map (subA θ)) = some w ∧ Agr w θ ∧ GrB w := by
  intro xs
  induction xs with
  | nil => intro v ha hv _; exact ⟨v, rfl, ha, hv⟩
  | cons x xs ih =>
    intro v ha hv hf
    simp only [List.map_cons, fitGo, List.headD_cons, List.drop_one, List.tail_cons]
    have hf' : ∀ y ∈ xs.map (subA θ), OkC y := fun y hy => hf y (List.mem_cons_of_mem _ hy)
    have hff := hf (subA θ x) List.mem_cons_self
    by_cases hx : x.kind = 1
    · cases hg : getA v x.text with
      | none =>
        rw [under_none hg, if_neg (by simp [hx])]
        refine ih _ ?_ ?_ hf'
        · intro s y hy
          rw [getA_set] at hy
          split at hy
          · rename_i e
            injection hy with hy
            rw [← hy, ← e]; unfold subA; rw [if_pos hx]
          · exact ha s y hy
        · intro s y hy
          rw [getA_set] at hy
          split at hy
          · injection hy with hy; rw [← hy]; exact hff
          · exact hv s y hy
      | some y =>
        have he : y = subA θ x := by unfold subA; rw [if_pos hx, ha _ _ hg]
        rw [under_some hx hg, if_pos (hv _ _ hg).2, if_pos he]
        exact ih v ha hv hf'
    · have he : x = subA θ x := by unfold subA; rw [if_neg hx]
      rw [under_ne hx, if_pos hx, if_pos he]
      exact ih v ha hv hf'
theorem mem_cand {b : List Atm} {a f : Atm} : f ∈ candS b a ↔ f ∈ b ∧ f.name = a.name ∧ f.args.length = a.args.length := by
  simp [candS, and_assoc]
theorem binds_sound {b : List Atm} (hb : Gr b) : ∀ (body : List Ltl) (v w : Bnd), w ∈ bindsS b body v → GrB v → GrB w ∧ Ext v w ∧ ∀ l ∈ body, positiveS l = true → Cov w l.atom.args ∧ atomV w l.atom ∈ b := by
  intro body
  induction body with
  | nil =>
    intro v w h hv
    rw [bindsS, List.mem_singleton] at h
    subst h
    exact ⟨hv, fun s x h => h, fun l hl => by cases hl⟩
  | cons l r ih =>
    intro v w h hv
    rw [bindsS] at h
    by_cases hp : positiveS l = true
    · rw [if_neg (by simp [hp]), List.mem_flatMap] at h
      obtain ⟨f, hf, hw⟩ := h
      obtain ⟨hfb, hn, hl⟩ := mem_cand.1 hf
      cases hfit : fitGo v l.atom.args f.args with
      | none => rw [hfit] at hw; cases hw
      | some u =>
        rw [hfit] at hw
        obtain ⟨g1, g2, g3, g4⟩ := fit_sound _ _ _ _ hfit hv (ground_args (hb f hfb)) hl.symm
        obtain ⟨k1, k2, k3⟩ := ih u w hw g1
        refine ⟨k1, g2.trans k2, ?_⟩
        intro l' hl' hp'
        rcases List.mem_cons.1 hl' with rfl | hl'
        · refine ⟨g3.ext k2, ?_⟩
          have : atomV w l'.atom = f := by
            unfold atomV
            obtain ⟨fn, fa⟩ := f
            simp only at hn g4
            rw [hn, ← g4]
            congr 1
            exact List.map_congr_left fun a ha => under_ext k2 g3 ha
          rw [this]; exact hfb
        · exact k3 l' hl' hp'
    · rw [if_pos (by simp [hp])] at h
      obtain ⟨k1, k2, k3⟩ := ih v w h hv
      refine ⟨k1, k2, ?_⟩
      intro l' hl' hp'
      rcases List.mem_cons.1 hl' with rfl | hl'
      · exact absurd hp' hp
      · exact k3 l' hl' hp'
theorem binds_complete {b : List Atm} (hb : Gr b) (θ : Sub) : ∀ (body : List Ltl) (v : Bnd), (∀ l ∈ body, positiveS l = true → subT θ l.atom ∈ b) → Agr v θ → GrB v → ∃ w ∈ bindsS b body v, Agr w θ := by
  intro body
  induction body with
  | nil => intro v _ ha _; exact ⟨v, by simp [bindsS], ha⟩
  | cons l r ih =>
    intro v h ha hv
    have h' : ∀ l ∈ r, positiveS l = true → subT θ l.atom ∈ b := fun l hl => h l (List.mem_cons_of_mem _ hl)
    rw [bindsS]
    by_cases hp : positiveS l = true
    · rw [if_neg (by simp [hp])]
      have hm := h l List.mem_cons_self hp
      obtain ⟨u, hu, ha2, hv2⟩ := fit_complete θ l.atom.args v ha hv (ground_args (hb _ hm))
      obtain ⟨w, hw, haw⟩ := ih u h' ha2 hv2
      refine ⟨w, List.mem_flatMap.2 ⟨subT θ l.atom, mem_cand.2 ⟨hm, rfl, by simp [subT]⟩, ?_⟩, haw⟩
      show w ∈ (match fitGo v l.atom.args (l.atom.args.map (subA θ)) with | Option.some w => bindsS b r w | none => [])
      rw [hu]
      exact hw
    · rw [if_pos (by simp [hp])]
      exact ih v h' ha hv
def SafeV (r : Rul) (l : List Arg) : Prop := ∀ a ∈ l, a.kind = 1 → ∃ x ∈ r.body, positiveS x = true ∧ ∃ y ∈ x.atom.args, y.kind = 1 ∧ y.text = a.text
def SafeR (r : Rul) : Prop := SafeV r r.head.args ∧ ∀ x ∈ r.body, SafeV r x.atom.args
def Con (r : Rul) (b nb : List Atm) (h : Atm) : Prop := ∃ θ : Sub, (∀ l ∈ r.body, positiveS l = true → subT θ l.atom ∈ b) ∧
  (∀ l ∈ r.body, positiveS l = false → l.op.isEmpty = true → subT θ l.atom ∉ nb) ∧
  (∀ l ∈ r.body, l.op.isEmpty = false → compareS l.op (subA θ (l.atom.args.headD default)) (subA θ ((l.atom.args.drop 1).headD default)) = true) ∧ h = subT θ r.head
theorem atomV_sub {v : Bnd} {θ : Sub} (hv : Agr v θ) {a : Atm} (hc : Cov v a.args) : atomV v a = subT θ a := by
  unfold atomV subT
  congr 1
  exact List.map_congr_left fun x hx => under_sub hv hc hx
theorem under_headD {v : Bnd} {θ : Sub} (hv : Agr v θ) {l : List Arg} (hc : Cov v l) : under v (l.headD default) = subA θ (l.headD default) := by
  cases l with
  | nil => rw [List.headD_nil, under_ne (by decide)]; unfold subA; rw [if_neg (by decide)]
  | cons a r => exact under_sub hv hc List.mem_cons_self
theorem rest_iff {nb : List Atm} {w : Bnd} {θ : Sub} (hw : Agr w θ) : ∀ body : List Ltl, (∀ l ∈ body, Cov w l.atom.args) → (restS nb w body = true ↔
    (∀ l ∈ body, positiveS l = false → l.op.isEmpty = true → subT θ l.atom ∉ nb) ∧ (∀ l ∈ body, l.op.isEmpty = false → compareS l.op (subA θ (l.atom.args.headD default)) (subA θ ((l.atom.args.drop 1).headD default)) = true)) := by
  intro body
  induction body with
  | nil => intro _; simp [restS]
  | cons l r ih =>
    intro hc
    have hcl := hc l List.mem_cons_self
    have ih := ih (fun l hl => hc l (List.mem_cons_of_mem _ hl))
    have hcd : Cov w (l.atom.args.drop 1) := fun a ha => hcl a (List.mem_of_mem_drop ha)
    rw [restS, under_headD hw hcl, under_headD hw hcd, atomV_sub hw hcl]
    simp only [List.forall_mem_cons]
    by_cases hp : positiveS l = true
    · have ho : l.op.isEmpty = true := by unfold positiveS at hp; rw [Bool.and_eq_true] at hp; exact hp.1
      rw [if_pos hp, ih]
      simp [hp, ho]
    · rw [if_neg hp]
      have hp' : positiveS l = false := by simpa using hp
      by_cases ho : l.op.isEmpty = false
      · rw [if_pos ho]
        by_cases hcm : compareS l.op (subA θ (l.atom.args.headD default)) (subA θ ((l.atom.args.drop 1).headD default)) = true
        · rw [if_pos hcm, ih]
          simp only [ho, hp', hcm]
          simp
        · rw [if_neg hcm]
          constructor
          · intro h; cases h
          · intro h; exact absurd (h.2.1 ho) hcm
      · rw [if_neg ho]
        have ho' : l.op.isEmpty = true := by simpa using ho
        by_cases hm : subT θ l.atom ∈ nb
        · rw [if_pos (by simpa using hm)]
          constructor
          · intro h; cases h
          · intro h; exact absurd hm (h.1.1 hp' ho')
        · rw [if_neg (by simpa using hm), ih]
          simp only [ho', hp']
          simp [hm]
theorem cov_all {r : Rul} (hs : SafeR r) {w : Bnd} (hw : ∀ l ∈ r.body, positiveS l = true → Cov w l.atom.args) : Cov w r.head.args ∧ ∀ l ∈ r.body, Cov w l.atom.args := by
  have key : ∀ l, SafeV r l → Cov w l := by
    intro l hl a ha hk
    obtain ⟨x, hx, hp, y, hy, hyk, hyt⟩ := hl a ha hk
    rw [← hyt]
    exact hw x hx hp y hy hyk
  exact ⟨key _ hs.1, fun l hl => key _ (hs.2 l hl)⟩
theorem each_sound {r : Rul} (hs : SafeR r) {b nb : List Atm} (hb : Gr b) {v : Bnd} (hv : v ∈ eachQ r.body b nb) : Con r b nb (atomV v r.head) ∧ GrB v ∧ Cov v r.head.args := by
  unfold eachQ at hv
  rw [List.mem_filter] at hv
  obtain ⟨h1, h2⟩ := hv
  obtain ⟨g1, -, g3⟩ := binds_sound hb _ _ _ h1 (fun s x h => by cases h)
  obtain ⟨c1, c2⟩ := cov_all hs (fun l hl hp => (g3 l hl hp).1)
  have hr := (rest_iff (nb := nb) (agr_th v) r.body c2).1 h2
  refine ⟨⟨thS v, fun l hl hp => ?_, hr.1, hr.2, atomV_sub (agr_th v) c1⟩, g1, c1⟩
  rw [← atomV_sub (agr_th v) (c2 l hl)]
  exact (g3 l hl hp).2
theorem each_complete {r : Rul} (hs : SafeR r) {b nb : List Atm} (hb : Gr b) {h : Atm} (hc : Con r b nb h) : ∃ v ∈ eachQ r.body b nb, atomV v r.head = h := by
  obtain ⟨θ, h1, h2, h3, rfl⟩ := hc
  obtain ⟨w, hw, ha⟩ := binds_complete hb θ r.body [] h1 (fun s x h => by cases h) (fun s x h => by cases h)
  obtain ⟨g1, -, g3⟩ := binds_sound hb _ _ _ hw (fun s x h => by cases h)
  obtain ⟨c1, c2⟩ := cov_all hs (fun l hl hp => (g3 l hl hp).1)
  exact ⟨w, List.mem_filter.2 ⟨hw, (rest_iff ha r.body c2).2 ⟨h2, h3⟩⟩, atomV_sub ha c1⟩
theorem under_okc {v : Bnd} (hv : GrB v) {l : List Arg} (hc : Cov v l) (hf : ∀ a ∈ l, formedS a = true) : ∀ x ∈ l.map (under v), OkC x := by
  intro x hx
  obtain ⟨a, ha, rfl⟩ := List.mem_map.1 hx
  by_cases h : a.kind = 1
  · obtain ⟨y, hy⟩ := Option.isSome_iff_exists.1 (hc a ha h)
    rw [under_some h hy]
    exact hv _ _ hy
  · rw [under_ne h]
    exact ⟨hf a ha, h⟩
theorem atomV_ground {v : Bnd} (hv : GrB v) {a : Atm} (ha : atomS a = true) (hc : Cov v a.args) : groundP (atomV v a) = true := by
  have hk := under_okc hv hc (atomS_args ha)
  unfold groundP
  rw [Bool.and_eq_true, Bool.not_eq_true', List.any_eq_false]
  refine ⟨?_, fun x hx h => (hk x hx).2 (by simpa using h)⟩
  unfold atomS at ha ⊢
  unfold atomV at *
  rw [Bool.and_eq_true, Bool.and_eq_true] at ha ⊢
  refine ⟨⟨ha.1.1, ?_⟩, ?_⟩
  · simpa using ha.1.2
  · unfold argsS
    rw [List.all_eq_true]
    exact fun x hx => (hk x hx).1
end Go.Proofs.YtkjoaodoioicpaaGreatDoor
