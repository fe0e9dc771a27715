/- A part of the proofs of the laws of one package; see the law's own text, which comes last in 'order'. No conditions of its own. -/
import Derived.Deep.CutBlock
import Derived.Deep.CutRange
import Derived.Test.YtpeamehplhpcjaaGreatDoorZ08
set_option linter.unusedVariables false
set_option linter.unusedSimpArgs false
namespace Go.Proofs.YtpeamehplhpcjaaGreatDoor
open Go.RowKit
def idxGo : List Bs → Bs → Int → Int
  | [], _, _ => -1
  | a :: r, x, k => if x == a then k else idxGo r x (k + 1)
theorem idxGo_pos (l : List Bs) (x : Bs) (k : Int) (hk : 0 ≤ k) : (0 ≤ idxGo l x k) ↔ l.contains x = true := by
  induction l generalizing k with
  | nil => simp [idxGo]
  | cons a r ih =>
    rw [idxGo, List.contains_cons]
    by_cases h : (x == a) = true
    · simp [h, hk]
    · rw [Bool.not_eq_true] at h
      rw [h, Bool.false_or, ← ih (k + 1) (by omega)]
      rfl
set_option maxHeartbeats 400000 in
theorem index_any (A : Option Addr) (n c : Nat) (w : World) (S : Nat → Prop) (l : List Bs) (x : Bs) (hl : Sl w S A n c l) :
    Calls Tryz.prog 70 #[.slice A n c, .string ⟨x.toArray⟩] w fun e w' => e = .returned (.int .i64 (idxGo l x 0)) ∧ w = w' := by
  have hn := hl.le
  have hlen := hl.len
  subst hlen
  have HL := Lib.hid hl; clear hl
  obtain ⟨v, hv⟩ : ∃ v, v = idxGo l x 0 := ⟨_, rfl⟩
  rw [← hv]
  have Hf : Hid (v = idxGo (l.drop 0) x 0) := hv
  clear hv
  go_enter Tryz.func70, Tryz.ntmps70
  go_wp2
  go_loop [8] (fun i => ∃ k : Nat, k ≤ l.length ∧ i = .int .i64 k ∧ Hid (v = idxGo (l.drop k) x k)) (fun i => l.length - (intOf i).toNat)
  case atStart => exact ⟨0, by omega, rfl, Hf⟩
  case round =>
    obtain ⟨k, hk, rfl, hf⟩ := hrel
    by_cases hlt : k < l.length
    · obtain ⟨b, o, rfl, -, hbs, h1⟩ := HL.out.str hlt
      have hd := hf.out
      rw [drop_get hlt, idxGo] at hd
      have Hd := Lib.hid hd; clear hd hf
      go_wp2
      · have hx : (x == l[k]) = true := by assumption
        go_ret
        exact ⟨ret_int (by rw [Hd.out, if_pos hx]), rfl⟩
      · have hx : (x == l[k]) = false := by assumption
        go_round
        case rel => exact ⟨k + 1, by omega, by go_num, by show v = _; rw [Hd.out, if_neg (by rw [hx]; simp)]; rfl⟩
        case measure => simp [intOf]; omega
    · have hd : v = -1 := by rw [hf.out, drop_end hlt]; rfl
      have Hd := Lib.hid hd; clear hd hf
      go_wp2
      go_ret
      exact ⟨ret_int Hd.out, rfl⟩
theorem contains_any (A : Option Addr) (n c : Nat) (w : World) (S : Nat → Prop) (l : List Bs) (x : Bs) (hl : Sl w S A n c l) :
    Calls Tryz.prog 24 #[.slice A n c, .string ⟨x.toArray⟩] w fun e w' => e = .returned (.bool (l.contains x)) ∧ w = w' := by
  have hi := index_any A n c w S l x hl
  have hp := idxGo_pos l x 0 (Int.le_refl 0)
  generalize idxGo l x 0 = i at *
  generalize l.contains x = b at *
  have Hi := Lib.hid hi; clear hi
  clear hl
  have Hp := Lib.hid hp; clear hp
  go_enter Tryz.func24, Tryz.ntmps24
  go_wp2_with (go_at_call 70; refine Hi.out.mono ?_; rintro e w' ⟨rfl, rfl⟩)
  go_ret
  refine ⟨ret_bool ?_, rfl⟩
  rw [Bool.eq_iff_iff, ← Hp.out]
  simp
section
variable {P : Program} {ops : Array Oper} {Q : Exit → Act → World → Prop} {md : Region.Mode} {S : World → Prop}
theorem wpAnyH_two (i j : Nat) {o o' : Oper} {fuel : Nat} {listed : Array Bool} {a : Act} {w : World} (hr : Region.ready md ops listed = [i, j]) (ho : ops[i]? = some o) (ho' : ops[j]? = some o')
    (h : ∀ K' : Act → World → Prop, Shut (∀ a' w', S w' → wpAnyH P md ops Q S fuel (listed.setIfInBounds i true) a' w' → K' a' w') → if Region.wanted o (yielded ops a.tmps) = true then Oper.wp P o a w K' Q else K' (a.put o.dst undef) w)
    (h' : ∀ K' : Act → World → Prop, Shut (∀ a' w', S w' → wpAnyH P md ops Q S fuel (listed.setIfInBounds j true) a' w' → K' a' w') → if Region.wanted o' (yielded ops a.tmps) = true then Oper.wp P o' a w K' Q else K' (a.put o'.dst undef) w) :
    wpAnyH P md ops Q S (fuel + 1) listed a w := by
  refine ⟨fun h0 => (by rw [hr] at h0; cases h0), fun x hx => ?_⟩
  rw [hr] at hx
  rcases List.mem_cons.1 hx with rfl | hx
  · exact wpOp_step ho (fun K' hK => h K' (fun a w hS hW => hK a w ⟨hS, hW⟩))
  · rcases List.mem_cons.1 hx with rfl | hx
    · exact wpOp_step ho' (fun K' hK => h' K' (fun a w hS hW => hK a w ⟨hS, hW⟩))
    · cases hx
end
def VHd (w : World) (S : Nat → Prop) (v : Value) (h : Hd) : Prop := ∃ A n c, v = .agg #[.int .i64 h.word, .int .i64 h.mode, .string ⟨h.name.toArray⟩, .slice A n c, .int .i64 h.n] ∧ Sl w S A n c h.params
theorem VHd.below {w w' : World} {S : Nat → Prop} {v : Value} {h : Hd} (hv : VHd w S v h) (hb : Below w.heap.size w w') : VHd w' S v h := by
  obtain ⟨A, n, c, rfl, hs⟩ := hv
  exact ⟨A, n, c, rfl, hs.below hb⟩
theorem word_lib (a : Bs) (k : Nat) (l : List Bs) : idxGo l a k = (match l.findIdx? (· == a) with | some i => ((i + k : Nat) : Int) | none => -1) := by
  induction l generalizing k with
  | nil => rfl
  | cons x r ih =>
    rw [idxGo, List.findIdx?_cons]
    by_cases h : (a == x) = true
    · have h' : (x == a) = true := by rw [BEq.comm]; exact h
      rw [if_pos h, if_pos h']; simp
    · have h' : ¬ (x == a) = true := by rw [BEq.comm]; exact h
      rw [if_neg h, if_neg h', show ((k : Int) + 1) = ((k + 1 : Nat) : Int) from rfl, ih]
      cases r.findIdx? (· == a) with
      | none => rfl
      | some i =>
        show ((i + (k + 1) : Nat) : Int) = (((i + 1) + k : Nat) : Int)
        omega
theorem word_go (a : Bs) : idxGo words a 0 = wordS a := by
  have := word_lib a 0 words
  unfold wordS
  exact this
theorem wordS_rng (a : Bs) : -1 ≤ wordS a ∧ wordS a ≤ 9 := by
  unfold wordS
  split
  · rename_i i h
    have := (List.findIdx?_eq_some_iff_getElem.1 h).1
    have hl : words.length = 10 := rfl
    omega
  · omega
theorem Own.strT {w : World} {T T' : Nat → Prop} {base e : Nat} {A : Option Addr} {c : Nat} {xs : List Bs} (h : Own w T base e A c xs) : Own w T' base e A c xs := by
  obtain ⟨cs, h1, h2⟩ := h
  exact ⟨cs, h1, fun i hi => h2 i hi⟩
theorem last_get (a b : Bs) (r : List Bs) : (a :: b :: r)[r.length + 1]'(by simp) = (b :: r).getLastD [] := by
  induction r generalizing a b with
  | nil => rfl
  | cons c r ih => exact (ih b c).trans rfl
def modeB (ws : List Bs) : Bool :=
  match ws with
  | a :: b :: _ => decide ((a = wExport ∨ a = wWeak) ∧ (b = wFn ∨ b = wData))
  | _ => false
theorem modeB_mk (a b : Bs) (r : List Bs) : modeB (a :: b :: r) = decide ((a = wExport ∨ a = wWeak) ∧ (b = wFn ∨ b = wData)) := rfl
theorem modeB_cases (ws : List Bs) : (modeB ws = false ∧ modeS ws = (0, ws)) ∨ ∃ a b r, ws = a :: b :: r ∧ modeB ws = true ∧ (a = wExport ∨ a = wWeak) ∧ modeS ws = (if a = wWeak then 2 else 1, b :: r) := by
  match ws with
  | [] => exact .inl ⟨rfl, rfl⟩
  | [a] => exact .inl ⟨rfl, rfl⟩
  | a :: b :: r =>
    by_cases h : (a = wExport ∨ a = wWeak) ∧ (b = wFn ∨ b = wData)
    · exact .inr ⟨a, b, r, rfl, decide_eq_true h, h.1, by unfold modeS; exact if_pos h⟩
    · exact .inl ⟨decide_eq_false h, by unfold modeS; exact if_neg h⟩
structure ShW (w W : World) (h : Array Value) : Prop where
  bl : Below w.heap.size w W
  res : W.heap[w.heap.size]? = some (.cells #[.int .i64 0, .int .i64 0, .string ⟨#[]⟩, .slice none 0 0, .int .i64 0] 79 (0, 0))
  hd : W.heap[w.heap.size + 1]? = some (.cells h 79 (0, 0))
theorem ShW.lt {w W : World} {h : Array Value} (H : ShW w W h) : w.heap.size + 2 ≤ W.heap.size := (Array.getElem?_eq_some_iff.1 H.hd).1
theorem ShW.below {w W W' : World} {h : Array Value} (H : ShW w W h) (hb : Below W.heap.size W W') : ShW w W' h := ⟨H.bl.trans (hb.mono H.bl.size), keptBlk hb H.res, keptBlk hb H.hd⟩
theorem ShW.alloc {w W : World} {h : Array Value} (H : ShW w W h) (o : Obj) : ShW w (W.alloc o) h := H.below ((Below.refl _ _).alloc (Nat.le_refl _) _)
theorem ShW.drew {w W : World} {h : Array Value} (H : ShW w W h) : ShW w W.drew h := H.below (Below.refl _ _).drew
theorem ShW.set {w W : World} {h : Array Value} (H : ShW w W h) (i : Nat) (v : Value) : ShW w (W.setCell ⟨w.heap.size + 1, i, none⟩ v) (h.setIfInBounds i v) :=
  ⟨H.bl.setCell (p := ⟨w.heap.size + 1, i, none⟩) (by show w.heap.size ≤ w.heap.size + 1; omega) v, (set_other _ _ _ _ _ (by omega)).trans H.res, Blk.set _ H.hd i v⟩
theorem set5 {w : World} {b : Nat} {cs : Array Value} {t : TypeId} (h : w.heap[b]? = some (.cells cs t (0, 0))) (a0 a1 a2 a3 a4 : Value) :
    (((((w.setCell ⟨b, 0, none⟩ a0).setCell ⟨b, 1, none⟩ a1).setCell ⟨b, 2, none⟩ a2).setCell ⟨b, 3, none⟩ a3).setCell ⟨b, 4, none⟩ a4).heap[b]? = some (.cells (((((cs.setIfInBounds 0 a0).setIfInBounds 1 a1).setIfInBounds 2 a2).setIfInBounds 3 a3).setIfInBounds 4 a4) t (0, 0)) :=
  Blk.set _ (Blk.set _ (Blk.set _ (Blk.set _ (Blk.set _ h 0 a0) 1 a1) 2 a2) 3 a3) 4 a4
theorem ShW.fin {w W : World} {h : Array Value} (H : ShW w W h) (a0 a1 a2 a3 a4 : Value) :
    Below w.heap.size w (((((W.setCell ⟨w.heap.size, 0, none⟩ a0).setCell ⟨w.heap.size, 1, none⟩ a1).setCell ⟨w.heap.size, 2, none⟩ a2).setCell ⟨w.heap.size, 3, none⟩ a3).setCell ⟨w.heap.size, 4, none⟩ a4) :=
  ((((H.bl.setCell (p := ⟨w.heap.size, 0, none⟩) (Nat.le_refl _) a0).setCell (p := ⟨w.heap.size, 1, none⟩) (Nat.le_refl _) a1).setCell (p := ⟨w.heap.size, 2, none⟩) (Nat.le_refl _) a2).setCell (p := ⟨w.heap.size, 3, none⟩) (Nat.le_refl _) a3).setCell (p := ⟨w.heap.size, 4, none⟩) (Nat.le_refl _) a4
theorem ShW.sets {w W : World} {h : Array Value} (H : ShW w W h) (a0 a1 a2 a3 a4 : Value) :
    (((((W.setCell ⟨w.heap.size, 0, none⟩ a0).setCell ⟨w.heap.size, 1, none⟩ a1).setCell ⟨w.heap.size, 2, none⟩ a2).setCell ⟨w.heap.size, 3, none⟩ a3).setCell ⟨w.heap.size, 4, none⟩ a4).heap[w.heap.size + 1]? = some (.cells h 79 (0, 0)) := by
  have hne : w.heap.size + 1 ≠ w.heap.size := by omega
  exact (set_other _ _ _ _ _ hne).trans ((set_other _ _ _ _ _ hne).trans ((set_other _ _ _ _ _ hne).trans ((set_other _ _ _ _ _ hne).trans ((set_other _ _ _ _ _ hne).trans H.hd))))
set_option maxHeartbeats 4000000 in
theorem shape_any (ws : List Bs) (b : Nat) (w : World) (hl : Sl w (fun k => k = b) (some ⟨b, 0, none⟩) ws.length ws.length ws) (hs : ∀ s ∈ ws, s.length ≤ 4294967000) (hm : ws.length ≤ 4294967000) :
    Calls Tryz.prog 76 #[.slice (some ⟨b, 0, none⟩) ws.length ws.length] w fun e w' => ∃ v, e = .returned (.tuple #[v, .bool (shapeS ws).2]) ∧ VHd w' (fun b => w.heap.size ≤ b) v (shapeS ws).1 ∧ Below w.heap.size w w' := by
  obtain ⟨R, hR⟩ : ∃ R, R = shapeS ws := ⟨_, rfl⟩
  rw [← hR]
  have HR := Lib.hid hR; have HL := Lib.hid hl; have HS := Lib.hid hs
  clear hR hs hl
  go_enter Tryz.func76, Tryz.ntmps76
  go_upto_region 2 with fail
  have hW : ShW w ((w.alloc (Obj.cells #[.int .i64 0, .int .i64 0, .string ⟨#[]⟩, .slice none 0 0, .int .i64 0] 79)).alloc (Obj.cells #[.int .i64 0, .int .i64 0, .string ⟨#[]⟩, .slice none 0 0, .int .i64 0] 79)) #[.int .i64 0, .int .i64 0, .string ⟨#[]⟩, .slice none 0 0, .int .i64 0] :=
    ⟨belowA (belowA (Below.refl _ _) _) _, blkOld (blkAt _ _ rfl) _, blkAt _ _ (by simp)⟩
  generalize ((w.alloc (Obj.cells #[.int .i64 0, .int .i64 0, .string ⟨#[]⟩, .slice none 0 0, .int .i64 0] 79)).alloc (Obj.cells #[.int .i64 0, .int .i64 0, .string ⟨#[]⟩, .slice none 0 0, .int .i64 0] 79)) = W at *
  have HW := Lib.hid hW; clear hW
  have HL1 := Lib.hid (HL.out.below HW.out.bl)
  go_cut [35] from 9 to 35 (fun v wx => v = .bool (modeB ws) ∧ wx = W)
  case first =>
    match ws, HL1 with
    | [], _ =>
      go_wp2_with fail
      go_meet
      exact ⟨rfl, rfl⟩
    | [a], _ =>
      go_wp2_with fail
      go_meet
      exact ⟨rfl, rfl⟩
    | a :: b' :: r, HL1 =>
      obtain ⟨b0, o0, he, -, -, c0⟩ := HL1.out.str (k := 0) (by simp)
      obtain ⟨b1, o1, he1, -, -, c1⟩ := HL1.out.str (k := 1) (by simp)
      cases he
      cases he1
      by_cases h1 : a = wExport
      · obtain rfl : a = [101, 120, 112, 111, 114, 116] := h1
        by_cases h3 : b' = wFn
        · obtain rfl : b' = [102, 110] := h3
          go_wp2_with fail
          go_meet
          exact ⟨congrArg Value.bool ((modeB_mk _ _ _).trans (decide_eq_true ⟨.inl rfl, .inl rfl⟩)).symm, rfl⟩
        · have h3b : (b' == [102, 110]) = false := by rw [beq_eq_false_iff_ne]; exact h3
          by_cases h4 : b' = wData
          · obtain rfl : b' = [100, 97, 116, 97] := h4
            go_wp2_with fail
            go_meet
            exact ⟨congrArg Value.bool ((modeB_mk _ _ _).trans (decide_eq_true ⟨.inl rfl, .inr rfl⟩)).symm, rfl⟩
          · have h4b : (b' == [100, 97, 116, 97]) = false := by rw [beq_eq_false_iff_ne]; exact h4
            have H34 := Lib.hid (And.intro h3 h4)
            clear h3 h4
            go_wp2_with fail
            go_meet
            exact ⟨congrArg Value.bool ((modeB_mk _ _ _).trans (decide_eq_false (fun h => h.2.elim H34.out.1 H34.out.2))).symm, rfl⟩
      · have h1b : (a == [101, 120, 112, 111, 114, 116]) = false := by rw [beq_eq_false_iff_ne]; exact h1
        by_cases h2 : a = wWeak
        · obtain rfl : a = [119, 101, 97, 107] := h2
          by_cases h3 : b' = wFn
          · obtain rfl : b' = [102, 110] := h3
            go_wp2_with fail
            go_meet
            exact ⟨congrArg Value.bool ((modeB_mk _ _ _).trans (decide_eq_true ⟨.inr rfl, .inl rfl⟩)).symm, rfl⟩
          · have h3b : (b' == [102, 110]) = false := by rw [beq_eq_false_iff_ne]; exact h3
            by_cases h4 : b' = wData
            · obtain rfl : b' = [100, 97, 116, 97] := h4
              go_wp2_with fail
              go_meet
              exact ⟨congrArg Value.bool ((modeB_mk _ _ _).trans (decide_eq_true ⟨.inr rfl, .inr rfl⟩)).symm, rfl⟩
            · have h4b : (b' == [100, 97, 116, 97]) = false := by rw [beq_eq_false_iff_ne]; exact h4
              have H34 := Lib.hid (And.intro h3 h4)
              clear h3 h4
              go_wp2_with fail
              go_meet
              exact ⟨congrArg Value.bool ((modeB_mk _ _ _).trans (decide_eq_false (fun h => h.2.elim H34.out.1 H34.out.2))).symm, rfl⟩
        · have h2b : (a == [119, 101, 97, 107]) = false := by rw [beq_eq_false_iff_ne]; exact h2
          have H12 := Lib.hid (And.intro h1 h2)
          clear h1 h2
          go_wp2_with fail
          go_meet
          exact ⟨congrArg Value.bool ((modeB_mk _ _ _).trans (decide_eq_false (fun h => h.1.elim H12.out.1 H12.out.2))).symm, rfl⟩
  case rest =>
    obtain ⟨rfl, rfl⟩ := hcut
    have hMS := modeB_cases ws
    obtain ⟨m, ws2, hm2⟩ : ∃ m ws2, modeS ws = (m, ws2) := ⟨_, _, rfl⟩
    rw [hm2] at hMS
    have hR2 := HR.out
    unfold shapeS at hR2
    simp only [hm2] at hR2
    have HR2 := Lib.hid hR2; clear hR2 HR hm2
    have hlen2 : ws2.length ≤ 4294967000 ∧ ∀ s ∈ ws2, s.length ≤ 4294967000 := by
      rcases hMS with ⟨h1, h2⟩ | ⟨a, b', r, h1, h2, h3, h4⟩
      · cases h2; exact ⟨hm, HS.out⟩
      · cases h4
        refine ⟨?_, fun s h => HS.out s ?_⟩
        · rw [h1] at hm; simp at hm ⊢; omega
        · rw [h1]; exact List.mem_cons_of_mem _ h
    have HN2 := Lib.hid hlen2; clear hlen2
    have hne2 : ∀ i, i < ws2.length → b < w.heap.size := by
      intro i hi
      have h0 : 0 < ws.length := by
        rcases hMS with ⟨h1, h2⟩ | ⟨a, b', r, h1, h2, h3, h4⟩
        · cases h2; omega
        · rw [h1]; simp
      obtain ⟨b9, o9, he, -, hbs, -⟩ := HL.out.str (k := 0) h0
      cases he
      exact hbs
    have HNE := Lib.hid hne2; clear hne2
    generalize modeB ws = q at *
    go_upto_if 35 with fail
    have hw1 := HW.out.lt
    go_cut [0] from 36 to 43 (fun s0 wx => ∃ o, s0 = .slice (some ⟨b, o, none⟩) ws2.length ws2.length ∧ Sl w (fun k => k = b) (some ⟨b, o, none⟩) ws2.length ws2.length ws2 ∧ ShW w wx #[.int .i64 0, .int .i64 m, .string ⟨#[]⟩, .slice none 0 0, .int .i64 0])
    case first =>
      rcases hMS with ⟨rfl, hms⟩ | ⟨a, b', r, rfl, rfl, ha, hms⟩
      · cases hms
        go_wp2_with fail
        go_meet
        exact ⟨0, rfl, HL.out, HW.out⟩
      · obtain ⟨b0, o0, he, -, hbs, c0⟩ := HL1.out.str (k := 0) (by simp)
        cases he
        have hne : b ≠ w.heap.size + 1 := by
          obtain ⟨b9, o9, he, -, hbs, -⟩ := HL.out.str (k := 0) (by simp)
          cases he
          omega
        have hcut1 := HL.out.cut (k := 1) (by simp)
        have f1 := frz_blk HW.out.hd 1
        have x1 := (cell_blk HW.out.hd 1).trans rfl
        have c1 : (wc.setCell ⟨w.heap.size + 1, 1, none⟩ (.int .i64 1)).cell? ⟨b, 0, none⟩ = some (.string ⟨a.toArray⟩) := (cell_set (by first | exact c0 | simpa using c0) hne)
        have hsl : Sl w (fun k => k = b) (some ⟨b, 1, none⟩) (b' :: r).length (b' :: r).length (b' :: r) := by
          have h := hcut1
          rw [if_neg (by simp)] at h
          exact h
        clear hcut1
        have HSL := Lib.hid hsl; clear hsl
        rcases ha with ha | ha
        · obtain rfl : a = [101, 120, 112, 111, 114, 116] := ha
          cases hms
          go_wp2_with fail
          go_meet
          exact ⟨1, by simp, HSL.out, HW.out.set 1 (.int .i64 1)⟩
        · obtain rfl : a = [119, 101, 97, 107] := ha
          cases hms
          have x2 := (cell_blk (HW.out.set 1 (.int .i64 1)).hd 1).trans rfl
          have f2 := frz_blk (HW.out.set 1 (.int .i64 1)).hd 1
          go_wp2_with fail
          go_meet
          exact ⟨1, by simp, HSL.out, (HW.out.set 1 (.int .i64 1)).set 1 (.int .i64 2)⟩
    case rest =>
      obtain ⟨o, rfl, hsl, hW⟩ := hcut
      clear HL HL1 HW hw1 hMS hm HS
      have HSL := Lib.hid hsl; have HW := Lib.hid hW; clear hsl hW
      cases ws2 with
      | nil =>
        have h0 := (cell_blk HW.out.hd 0).trans rfl; have h1 := (cell_blk HW.out.hd 1).trans rfl; have h2 := (cell_blk HW.out.hd 2).trans rfl; have h3 := (cell_blk HW.out.hd 3).trans rfl; have h4 := (cell_blk HW.out.hd 4).trans rfl; have r0 := (cell_blk HW.out.res 0).trans rfl; have r1 := (cell_blk HW.out.res 1).trans rfl; have r2 := (cell_blk HW.out.res 2).trans rfl; have r3 := (cell_blk HW.out.res 3).trans rfl; have r4 := (cell_blk HW.out.res 4).trans rfl; have fr0 := frz_blk HW.out.res 0; have fr1 := frz_blk HW.out.res 1; have fr2 := frz_blk HW.out.res 2; have fr3 := frz_blk HW.out.res 3; have fr4 := frz_blk HW.out.res 4
        go_wp2_with fail
        have hRF := set5 HW.out.res (.int .i64 0) (.int .i64 m) (.string ⟨#[]⟩) (.slice none 0 0) (.int .i64 0); have q0 := (cell_blk hRF 0).trans rfl; have q1 := (cell_blk hRF 1).trans rfl; have q2 := (cell_blk hRF 2).trans rfl; have q3 := (cell_blk hRF 3).trans rfl; have q4 := (cell_blk hRF 4).trans rfl; refine bodyPost_ret (v := .tuple #[.agg #[.int .i64 0, .int .i64 m, .string ⟨#[]⟩, .slice none 0 0, .int .i64 0], .bool false]) (by simp [results, Tryz.results76, go_sem, q0, q1, q2, q3, q4]) rfl ?_
        rw [HR2.out]
        exact ⟨_, rfl, ⟨none, 0, 0, rfl, Sl.nil _ _ _ _ (by decide)⟩, HW.out.fin _ _ _ _ _⟩
      | cons a t =>
      cases t with
      | nil =>
        have h0 := (cell_blk HW.out.hd 0).trans rfl; have h1 := (cell_blk HW.out.hd 1).trans rfl; have h2 := (cell_blk HW.out.hd 2).trans rfl; have h3 := (cell_blk HW.out.hd 3).trans rfl; have h4 := (cell_blk HW.out.hd 4).trans rfl; have r0 := (cell_blk HW.out.res 0).trans rfl; have r1 := (cell_blk HW.out.res 1).trans rfl; have r2 := (cell_blk HW.out.res 2).trans rfl; have r3 := (cell_blk HW.out.res 3).trans rfl; have r4 := (cell_blk HW.out.res 4).trans rfl; have fr0 := frz_blk HW.out.res 0; have fr1 := frz_blk HW.out.res 1; have fr2 := frz_blk HW.out.res 2; have fr3 := frz_blk HW.out.res 3; have fr4 := frz_blk HW.out.res 4
        go_wp2_with fail
        have hRF := set5 HW.out.res (.int .i64 0) (.int .i64 m) (.string ⟨#[]⟩) (.slice none 0 0) (.int .i64 0); have q0 := (cell_blk hRF 0).trans rfl; have q1 := (cell_blk hRF 1).trans rfl; have q2 := (cell_blk hRF 2).trans rfl; have q3 := (cell_blk hRF 3).trans rfl; have q4 := (cell_blk hRF 4).trans rfl; refine bodyPost_ret (v := .tuple #[.agg #[.int .i64 0, .int .i64 m, .string ⟨#[]⟩, .slice none 0 0, .int .i64 0], .bool false]) (by simp [results, Tryz.results76, go_sem, q0, q1, q2, q3, q4]) rfl ?_
        rw [HR2.out]
        exact ⟨_, rfl, ⟨none, 0, 0, rfl, Sl.nil _ _ _ _ (by decide)⟩, HW.out.fin _ _ _ _ _⟩
      | cons b' r =>
        have hix : ∀ (w : World) (A : Option Addr) (n c : Nat), Sl w (fun _ => True) A n c words → Calls Tryz.prog 70 #[.slice A n c, .string ⟨a.toArray⟩] w fun e w' => e = .returned (.int .i64 (wordS a)) ∧ w = w' := fun w A n c h => by
          have := index_any A n c w _ words a h
          rw [word_go] at this
          exact this
        have hrng := wordS_rng a
        have hR3 := HR2.out
        simp only at hR3
        generalize wordS a = k at *
        have HIX := Lib.hid hix
        obtain ⟨b0, o0, he, -, hbw, c0⟩ := (HSL.out.below HW.out.bl).str (k := 0) (by simp)
        cases he
        have c0 : wc.cell? ⟨b, o, none⟩ = some (.string ⟨a.toArray⟩) := c0
        have ca := cell_alloc' c0 (.cells (words.map fun x => Value.string ⟨x.toArray⟩).toArray 9 (0, 0))
        have hb := HNE.out 0 (by simp)
        have hnn := HN2.out.1
        simp only [List.length_cons] at hnn
        clear HR2 hix HNE
        have HR := Lib.hid hR3; clear hR3
        go_upto_region 9 with fail
        go_cut [5] from 48 to 52 (fun v wx => v = .int .i64 k ∧ ShW w wx #[.int .i64 0, .int .i64 m, .string ⟨#[]⟩, .slice none 0 0, .int .i64 0])
        case first =>
          go_wp2_with (first | (go_at_call 70; refine (HIX.out _ _ _ _ (Sl.lits' (blkAt _ _ rfl) (by decide) trivial)).mono ?_; rintro e w' ⟨rfl, rfl⟩))
          go_meet
          exact ⟨rfl, HW.out.alloc _⟩
        case rest =>
          obtain ⟨rfl, hW⟩ := hcut
          clear HW HIX hbw c0 ca
          have HW := Lib.hid hW; clear hW
          by_cases hk : k < 1
          · rw [if_pos hk] at HR
            have h0 := (cell_blk HW.out.hd 0).trans rfl; have h1 := (cell_blk HW.out.hd 1).trans rfl; have h2 := (cell_blk HW.out.hd 2).trans rfl; have h3 := (cell_blk HW.out.hd 3).trans rfl; have h4 := (cell_blk HW.out.hd 4).trans rfl; have r0 := (cell_blk HW.out.res 0).trans rfl; have r1 := (cell_blk HW.out.res 1).trans rfl; have r2 := (cell_blk HW.out.res 2).trans rfl; have r3 := (cell_blk HW.out.res 3).trans rfl; have r4 := (cell_blk HW.out.res 4).trans rfl; have fr0 := frz_blk HW.out.res 0; have fr1 := frz_blk HW.out.res 1; have fr2 := frz_blk HW.out.res 2; have fr3 := frz_blk HW.out.res 3; have fr4 := frz_blk HW.out.res 4
            go_wp2_with fail
            have hRF := set5 HW.out.res (.int .i64 0) (.int .i64 m) (.string ⟨#[]⟩) (.slice none 0 0) (.int .i64 0); have q0 := (cell_blk hRF 0).trans rfl; have q1 := (cell_blk hRF 1).trans rfl; have q2 := (cell_blk hRF 2).trans rfl; have q3 := (cell_blk hRF 3).trans rfl; have q4 := (cell_blk hRF 4).trans rfl; refine bodyPost_ret (v := .tuple #[.agg #[.int .i64 0, .int .i64 m, .string ⟨#[]⟩, .slice none 0 0, .int .i64 0], .bool false]) (by simp [results, Tryz.results76, go_sem, q0, q1, q2, q3, q4]) rfl ?_
            rw [HR.out]
            exact ⟨_, rfl, ⟨none, 0, 0, rfl, Sl.nil _ _ _ _ (by decide)⟩, HW.out.fin _ _ _ _ _⟩
          · rw [if_neg hk] at HR
            have h0 := (cell_blk HW.out.hd 0).trans rfl
            have f0 := frz_blk HW.out.hd 0
            go_upto_region 14 with fail
            have hW := HW.out.set 0 (.int .i64 k)
            generalize wc.setCell ⟨w.heap.size + 1, 0, none⟩ (.int .i64 k) = W at *
            clear h0 f0 HW
            have HW := Lib.hid hW; clear hW
            by_cases h137 : k = 1 ∨ k = 3 ∨ k = 7
            · rw [if_pos h137] at HR
              have h2 := (cell_blk HW.out.hd 2).trans rfl
              have f2 := frz_blk HW.out.hd 2
              have c1 := ((HSL.out.below HW.out.bl).str (k := 1) (by simp))
              obtain ⟨b1, o1, he, -, hbW, c1⟩ := c1
              cases he
              have c1 : W.cell? ⟨b, o + 1, none⟩ = some (.string ⟨b'.toArray⟩) := c1
              have hZ := HW.out.set 2 (.string ⟨b'.toArray⟩)
              have HZ := Lib.hid hZ; clear hZ
              have h0 := (cell_blk HZ.out.hd 0).trans rfl; have h1 := (cell_blk HZ.out.hd 1).trans rfl; have h2 := (cell_blk HZ.out.hd 2).trans rfl; have h3 := (cell_blk HZ.out.hd 3).trans rfl; have h4 := (cell_blk HZ.out.hd 4).trans rfl; have r0 := (cell_blk HZ.out.res 0).trans rfl; have r1 := (cell_blk HZ.out.res 1).trans rfl; have r2 := (cell_blk HZ.out.res 2).trans rfl; have r3 := (cell_blk HZ.out.res 3).trans rfl; have r4 := (cell_blk HZ.out.res 4).trans rfl; have fr0 := frz_blk HZ.out.res 0; have fr1 := frz_blk HZ.out.res 1; have fr2 := frz_blk HZ.out.res 2; have fr3 := frz_blk HZ.out.res 3; have fr4 := frz_blk HZ.out.res 4
              cases r with
              | nil =>
                rcases h137 with rfl | rfl | rfl
                · (go_wp2_with fail); (have hRF := set5 HZ.out.res (.int .i64 1) (.int .i64 m) (.string ⟨b'.toArray⟩) (.slice none 0 0) (.int .i64 0); have q0 := (cell_blk hRF 0).trans rfl; have q1 := (cell_blk hRF 1).trans rfl; have q2 := (cell_blk hRF 2).trans rfl; have q3 := (cell_blk hRF 3).trans rfl; have q4 := (cell_blk hRF 4).trans rfl; refine bodyPost_ret (v := .tuple #[.agg #[.int .i64 1, .int .i64 m, .string ⟨b'.toArray⟩, .slice none 0 0, .int .i64 0], .bool true]) (by simp [results, Tryz.results76, go_sem, q0, q1, q2, q3, q4]) rfl ?_); (rw [HR.out]); (exact ⟨_, rfl, ⟨none, 0, 0, rfl, Sl.nil _ _ _ _ (by decide)⟩, HZ.out.fin _ _ _ _ _⟩)
                · (go_wp2_with fail); (have hRF := set5 HZ.out.res (.int .i64 3) (.int .i64 m) (.string ⟨b'.toArray⟩) (.slice none 0 0) (.int .i64 0); have q0 := (cell_blk hRF 0).trans rfl; have q1 := (cell_blk hRF 1).trans rfl; have q2 := (cell_blk hRF 2).trans rfl; have q3 := (cell_blk hRF 3).trans rfl; have q4 := (cell_blk hRF 4).trans rfl; refine bodyPost_ret (v := .tuple #[.agg #[.int .i64 3, .int .i64 m, .string ⟨b'.toArray⟩, .slice none 0 0, .int .i64 0], .bool true]) (by simp [results, Tryz.results76, go_sem, q0, q1, q2, q3, q4]) rfl ?_); (rw [HR.out]); (exact ⟨_, rfl, ⟨none, 0, 0, rfl, Sl.nil _ _ _ _ (by decide)⟩, HZ.out.fin _ _ _ _ _⟩)
                · (go_wp2_with fail); (have hRF := set5 HZ.out.res (.int .i64 7) (.int .i64 m) (.string ⟨b'.toArray⟩) (.slice none 0 0) (.int .i64 0); have q0 := (cell_blk hRF 0).trans rfl; have q1 := (cell_blk hRF 1).trans rfl; have q2 := (cell_blk hRF 2).trans rfl; have q3 := (cell_blk hRF 3).trans rfl; have q4 := (cell_blk hRF 4).trans rfl; refine bodyPost_ret (v := .tuple #[.agg #[.int .i64 7, .int .i64 m, .string ⟨b'.toArray⟩, .slice none 0 0, .int .i64 0], .bool true]) (by simp [results, Tryz.results76, go_sem, q0, q1, q2, q3, q4]) rfl ?_); (rw [HR.out]); (exact ⟨_, rfl, ⟨none, 0, 0, rfl, Sl.nil _ _ _ _ (by decide)⟩, HZ.out.fin _ _ _ _ _⟩)
              | cons x r =>
                have hn2 : ((r.length : Int) + 1 + 1 + 1 == 2) = false := by rw [beq_eq_false_iff_ne]; omega
                rcases h137 with rfl | rfl | rfl
                · (go_wp2_with fail); (have hRF := set5 HZ.out.res (.int .i64 1) (.int .i64 m) (.string ⟨b'.toArray⟩) (.slice none 0 0) (.int .i64 0); have q0 := (cell_blk hRF 0).trans rfl; have q1 := (cell_blk hRF 1).trans rfl; have q2 := (cell_blk hRF 2).trans rfl; have q3 := (cell_blk hRF 3).trans rfl; have q4 := (cell_blk hRF 4).trans rfl; refine bodyPost_ret (v := .tuple #[.agg #[.int .i64 1, .int .i64 m, .string ⟨b'.toArray⟩, .slice none 0 0, .int .i64 0], .bool false]) (by simp [results, Tryz.results76, go_sem, q0, q1, q2, q3, q4]) rfl ?_); (rw [HR.out]); (exact ⟨_, rfl, ⟨none, 0, 0, rfl, Sl.nil _ _ _ _ (by decide)⟩, HZ.out.fin _ _ _ _ _⟩)
                · (go_wp2_with fail); (have hRF := set5 HZ.out.res (.int .i64 3) (.int .i64 m) (.string ⟨b'.toArray⟩) (.slice none 0 0) (.int .i64 0); have q0 := (cell_blk hRF 0).trans rfl; have q1 := (cell_blk hRF 1).trans rfl; have q2 := (cell_blk hRF 2).trans rfl; have q3 := (cell_blk hRF 3).trans rfl; have q4 := (cell_blk hRF 4).trans rfl; refine bodyPost_ret (v := .tuple #[.agg #[.int .i64 3, .int .i64 m, .string ⟨b'.toArray⟩, .slice none 0 0, .int .i64 0], .bool false]) (by simp [results, Tryz.results76, go_sem, q0, q1, q2, q3, q4]) rfl ?_); (rw [HR.out]); (exact ⟨_, rfl, ⟨none, 0, 0, rfl, Sl.nil _ _ _ _ (by decide)⟩, HZ.out.fin _ _ _ _ _⟩)
                · (go_wp2_with fail); (have hRF := set5 HZ.out.res (.int .i64 7) (.int .i64 m) (.string ⟨b'.toArray⟩) (.slice none 0 0) (.int .i64 0); have q0 := (cell_blk hRF 0).trans rfl; have q1 := (cell_blk hRF 1).trans rfl; have q2 := (cell_blk hRF 2).trans rfl; have q3 := (cell_blk hRF 3).trans rfl; have q4 := (cell_blk hRF 4).trans rfl; refine bodyPost_ret (v := .tuple #[.agg #[.int .i64 7, .int .i64 m, .string ⟨b'.toArray⟩, .slice none 0 0, .int .i64 0], .bool false]) (by simp [results, Tryz.results76, go_sem, q0, q1, q2, q3, q4]) rfl ?_); (rw [HR.out]); (exact ⟨_, rfl, ⟨none, 0, 0, rfl, Sl.nil _ _ _ _ (by decide)⟩, HZ.out.fin _ _ _ _ _⟩)
            · rw [if_neg h137] at HR
              have n1 : (k == 1) = false := by rw [beq_eq_false_iff_ne]; omega
              have n3 : (k == 3) = false := by rw [beq_eq_false_iff_ne]; omega
              have n7 : (k == 7) = false := by rw [beq_eq_false_iff_ne]; omega
              by_cases h6 : k = 6
              · subst h6
                rw [if_pos rfl] at HR
                have hnu := fun w => numberW_any b' w (HN2.out.2 b' (by simp))
                generalize numberS b' = N at *
                have HNU := Lib.hid hnu; clear hnu
                obtain ⟨b1, o1, he, -, hbW, c1⟩ := ((HSL.out.below HW.out.bl).str (k := 1) (by simp))
                cases he
                have c1 : W.cell? ⟨b, o + 1, none⟩ = some (.string ⟨b'.toArray⟩) := c1
                go_upto_region 22 with (first | (go_at_call 103; refine (HNU.out _).mono ?_; rintro e w1 ⟨rfl, hb1⟩; have hw1 := HW.out.below hb1; have h4 := (cell_blk hw1.hd 4).trans rfl; have f4 := frz_blk hw1.hd 4; have HW1 := Lib.hid hw1; clear hw1))
                have hW := HW1.out.set 4 (.int .i64 N)
                generalize w1.setCell ⟨w.heap.size + 1, 4, none⟩ (.int .i64 N) = W2 at *
                have HW := Lib.hid hW; clear hW HW1 h4 f4 hb1 HNU c1
                have hg := HW.out.hd
                have hlt := HW.out.lt
                have HX := Lib.hid (fun (z : World) (hz : z.heap[w.heap.size + 1]? = some (.cells #[.int .i64 6, .int .i64 m, .string ⟨#[]⟩, .slice none 0 0, .int .i64 N] 79 (0, 0))) => And.intro ((cell_blk hz 0).trans rfl) (And.intro ((cell_blk hz 1).trans rfl) (And.intro ((cell_blk hz 2).trans rfl) (And.intro ((cell_blk hz 3).trans rfl) ((cell_blk hz 4).trans rfl)))))
                have hS : W2.drew.heap[w.heap.size + 1]? = some (.cells #[.int .i64 6, .int .i64 m, .string ⟨#[]⟩, .slice none 0 0, .int .i64 N] 79 (0, 0)) := hg
                have HZ := Lib.hid HW.out.drew
                cases r with
                | nil =>
                  refine wpH_region (fun z => z.heap[w.heap.size + 1]? = some (.cells #[.int .i64 6, .int .i64 m, .string ⟨#[]⟩, .slice none 0 0, .int .i64 N] 79 (0, 0))) (by kernel_rfl) ?_
                  generalize W2.drew = W3 at *
                  (refine tkW 0 (v := ?_) hS ?_ ?_; rotate_left; (focus (intro x hx; have fx := HX.out x hx; go_simp; (try with_reducible rfl); done)); (try simp only [Act.put, lsa, lsz, lss]))
                  (refine tkW 1 (v := ?_) hS ?_ ?_; rotate_left; (focus (intro x hx; have fx := HX.out x hx; go_simp; (try with_reducible rfl); done)); (try simp only [Act.put, lsa, lsz, lss]))
                  (refine tkW 2 (v := ?_) hS ?_ ?_; rotate_left; (focus (intro x hx; have fx := HX.out x hx; go_simp; (try with_reducible rfl); done)); (try simp only [Act.put, lsa, lsz, lss]))
                  (refine tkW 3 (v := ?_) hS ?_ ?_; rotate_left; (focus (intro x hx; have fx := HX.out x hx; go_simp; (try with_reducible rfl); done)); (try simp only [Act.put, lsa, lsz, lss]))
                  (refine tkW 4 (v := ?_) hS ?_ ?_; rotate_left; (focus (intro x hx; have fx := HX.out x hx; go_simp; (try with_reducible rfl); done)); (try simp only [Act.put, lsa, lsz, lss]))
                  (refine tkW 5 (v := ?_) hS ?_ ?_; rotate_left; (focus (intro x hx; have fx := HX.out x hx; go_simp; (try with_reducible rfl); done)); (try simp only [Act.put, lsa, lsz, lss]))
                  (refine tkW 6 (v := ?_) hS ?_ ?_; rotate_left; (focus (intro x hx; have fx := HX.out x hx; go_simp; (try with_reducible rfl); done)); (try simp only [Act.put, lsa, lsz, lss]))
                  (refine tkW 7 (v := ?_) hS ?_ ?_; rotate_left; (focus (intro x hx; have fx := HX.out x hx; go_simp; (try with_reducible rfl); done)); (try simp only [Act.put, lsa, lsz, lss]))
                  clear hg hlt HX hS HW
                  have h0 := (cell_blk HZ.out.hd 0).trans rfl; have h1 := (cell_blk HZ.out.hd 1).trans rfl; have h2 := (cell_blk HZ.out.hd 2).trans rfl; have h3 := (cell_blk HZ.out.hd 3).trans rfl; have h4 := (cell_blk HZ.out.hd 4).trans rfl; have r0 := (cell_blk HZ.out.res 0).trans rfl; have r1 := (cell_blk HZ.out.res 1).trans rfl; have r2 := (cell_blk HZ.out.res 2).trans rfl; have r3 := (cell_blk HZ.out.res 3).trans rfl; have r4 := (cell_blk HZ.out.res 4).trans rfl; have fr0 := frz_blk HZ.out.res 0; have fr1 := frz_blk HZ.out.res 1; have fr2 := frz_blk HZ.out.res 2; have fr3 := frz_blk HZ.out.res 3; have fr4 := frz_blk HZ.out.res 4
                  (refine wpAnyH_one 8 (by kernel_rfl) rfl ?_; intro K' hK'; go_simp; refine hK'.out _ _ (HZ.out.sets _ _ _ _ _) ?_; clear hK' K')
                  (refine wpAnyH_one 9 (by kernel_rfl) rfl ?_; intro K' hK'; go_simp; refine hK'.out _ _ (HZ.out.sets _ _ _ _ _) ?_; clear hK' K')
                  refine wpAnyH_done (by kernel_rfl) ?_ _
                  go_wp2_with fail
                  have hRF := set5 HZ.out.res (.int .i64 6) (.int .i64 m) (.string ⟨#[]⟩) (.slice none 0 0) (.int .i64 N); have q0 := (cell_blk hRF 0).trans rfl; have q1 := (cell_blk hRF 1).trans rfl; have q2 := (cell_blk hRF 2).trans rfl; have q3 := (cell_blk hRF 3).trans rfl; have q4 := (cell_blk hRF 4).trans rfl; refine bodyPost_ret (v := .tuple #[.agg #[.int .i64 6, .int .i64 m, .string ⟨#[]⟩, .slice none 0 0, .int .i64 N], .bool (decide (0 ≤ N))]) (by simp [results, Tryz.results76, go_sem, q0, q1, q2, q3, q4]) rfl ?_
                  rw [HR.out]
                  exact ⟨_, by simp, ⟨none, 0, 0, rfl, Sl.nil _ _ _ _ (by decide)⟩, HZ.out.fin _ _ _ _ _⟩
                | cons x r =>
                  have hn2 : ((r.length : Int) + 1 + 1 + 1 == 2) = false := by rw [beq_eq_false_iff_ne]; omega
                  refine wpH_region (fun z => z.heap[w.heap.size + 1]? = some (.cells #[.int .i64 6, .int .i64 m, .string ⟨#[]⟩, .slice none 0 0, .int .i64 N] 79 (0, 0))) (by kernel_rfl) ?_
                  generalize W2.drew = W3 at *
                  (refine tkW 0 (v := ?_) hS ?_ ?_; rotate_left; (focus (intro x hx; have fx := HX.out x hx; go_simp; (try with_reducible rfl); done)); (try simp only [Act.put, lsa, lsz, lss]))
                  (refine tkW 1 (v := ?_) hS ?_ ?_; rotate_left; (focus (intro x hx; have fx := HX.out x hx; go_simp; (try with_reducible rfl); done)); (try simp only [Act.put, lsa, lsz, lss]))
                  (refine tkW 2 (v := ?_) hS ?_ ?_; rotate_left; (focus (intro x hx; have fx := HX.out x hx; go_simp; (try with_reducible rfl); done)); (try simp only [Act.put, lsa, lsz, lss]))
                  (refine tkW 3 (v := ?_) hS ?_ ?_; rotate_left; (focus (intro x hx; have fx := HX.out x hx; go_simp; (try with_reducible rfl); done)); (try simp only [Act.put, lsa, lsz, lss]))
                  (refine tkU 4 hS ?_; (try simp only [Act.put, lsa, lsz, lss]))
                  (refine tkU 5 hS ?_; (try simp only [Act.put, lsa, lsz, lss]))
                  (refine tkU 6 hS ?_; (try simp only [Act.put, lsa, lsz, lss]))
                  (refine tkW 7 (v := ?_) hS ?_ ?_; rotate_left; (focus (intro x hx; have fx := HX.out x hx; go_simp; (try with_reducible rfl); done)); (try simp only [Act.put, lsa, lsz, lss]))
                  clear hg hlt HX hS HW
                  have h0 := (cell_blk HZ.out.hd 0).trans rfl; have h1 := (cell_blk HZ.out.hd 1).trans rfl; have h2 := (cell_blk HZ.out.hd 2).trans rfl; have h3 := (cell_blk HZ.out.hd 3).trans rfl; have h4 := (cell_blk HZ.out.hd 4).trans rfl; have r0 := (cell_blk HZ.out.res 0).trans rfl; have r1 := (cell_blk HZ.out.res 1).trans rfl; have r2 := (cell_blk HZ.out.res 2).trans rfl; have r3 := (cell_blk HZ.out.res 3).trans rfl; have r4 := (cell_blk HZ.out.res 4).trans rfl; have fr0 := frz_blk HZ.out.res 0; have fr1 := frz_blk HZ.out.res 1; have fr2 := frz_blk HZ.out.res 2; have fr3 := frz_blk HZ.out.res 3; have fr4 := frz_blk HZ.out.res 4
                  (refine wpAnyH_one 8 (by kernel_rfl) rfl ?_; intro K' hK'; go_simp; refine hK'.out _ _ (HZ.out.sets _ _ _ _ _) ?_; clear hK' K')
                  (refine wpAnyH_one 9 (by kernel_rfl) rfl ?_; intro K' hK'; go_simp; refine hK'.out _ _ (HZ.out.sets _ _ _ _ _) ?_; clear hK' K')
                  refine wpAnyH_done (by kernel_rfl) ?_ _
                  go_wp2_with fail
                  have hRF := set5 HZ.out.res (.int .i64 6) (.int .i64 m) (.string ⟨#[]⟩) (.slice none 0 0) (.int .i64 N); have q0 := (cell_blk hRF 0).trans rfl; have q1 := (cell_blk hRF 1).trans rfl; have q2 := (cell_blk hRF 2).trans rfl; have q3 := (cell_blk hRF 3).trans rfl; have q4 := (cell_blk hRF 4).trans rfl; refine bodyPost_ret (v := .tuple #[.agg #[.int .i64 6, .int .i64 m, .string ⟨#[]⟩, .slice none 0 0, .int .i64 N], .bool false]) (by simp [results, Tryz.results76, go_sem, q0, q1, q2, q3, q4]) rfl ?_
                  rw [HR.out]
                  exact ⟨_, by simp, ⟨none, 0, 0, rfl, Sl.nil _ _ _ _ (by decide)⟩, HZ.out.fin _ _ _ _ _⟩
              · have n6 : (k == 6) = false := by rw [beq_eq_false_iff_ne]; exact h6
                rw [if_neg h6] at HR
                obtain ⟨L, hL⟩ : ∃ L, L = (b' :: r).getLastD [] := ⟨_, rfl⟩
                rw [← hL] at HR
                have hln : L.length ≤ 4294967000 := by
                  rw [hL, ← last_get a b' r]
                  exact HN2.out.2 _ (List.getElem_mem _)
                have hnu := fun w => numberW_any L w hln
                have HLL := Lib.hid hL
                generalize numberS L = N at *
                have HNU := Lib.hid hnu; clear hnu hL hln
                have h137' := Lib.hid (And.intro h137 h6)
                clear h137 h6
                obtain ⟨b1, o1, he, -, hbW, c1⟩ := ((HSL.out.below HW.out.bl).str (k := 1) (by simp))
                cases he
                obtain ⟨b1, o1, he, -, hbW, cl⟩ := ((HSL.out.below HW.out.bl).str (k := r.length + 1) (by simp))
                cases he
                rw [last_get, ← HLL.out] at cl
                have c1 : W.cell? ⟨b, o + 1, none⟩ = some (.string ⟨b'.toArray⟩) := c1
                have cl : W.cell? ⟨b, o + (r.length + 1), none⟩ = some (.string ⟨L.toArray⟩) := by simpa using cl
                go_upto_region 23 with fail
                go_cut [] from 87 to 97 (fun wx => ShW w wx #[.int .i64 k, .int .i64 m, .string ⟨b'.toArray⟩, .slice none 0 0, .int .i64 N])
                case first =>
                  refine wpH_region (fun z => z.cell? ⟨b, o + 1, none⟩ = some (.string ⟨b'.toArray⟩) ∧ z.cell? ⟨b, o + (r.length + 1), none⟩ = some (.string ⟨L.toArray⟩)) (by kernel_rfl) ?_
                  have hS : W.drew.cell? ⟨b, o + 1, none⟩ = some (.string ⟨b'.toArray⟩) ∧ W.drew.cell? ⟨b, o + (r.length + 1), none⟩ = some (.string ⟨L.toArray⟩) := ⟨c1, cl⟩
                  have HZ := Lib.hid HW.out.drew
                  have HX := Lib.hid (fun (z : World) (hz : z.cell? ⟨b, o + 1, none⟩ = some (.string ⟨b'.toArray⟩) ∧ z.cell? ⟨b, o + (r.length + 1), none⟩ = some (.string ⟨L.toArray⟩)) => hz)
                  have hi1 : (1 : Int) < (r.length : Int) + 1 + 1 := by omega
                  have hi2 : (r.length : Int) + 1 < (r.length : Int) + 1 + 1 := by omega
                  have hi0 : (0 : Int) ≤ (r.length : Int) + 1 := by omega
                  have hwr : IntKind.i64.wrap ((r.length : Int) + 1) = (r.length : Int) + 1 := IntWalk.i64_in _ (by omega)
                  have htn : ((r.length : Int) + 1).toNat = r.length + 1 := by omega
                  generalize W.drew = W1 at *
                  (refine tkW 0 (v := ?_) hS ?_ ?_; rotate_left; (focus (intro x hx; have fx := HX.out x hx; go_simp; (try with_reducible rfl); done)); (try simp only [Act.put, lsa, lsz, lss]))
                  (refine tkW 1 (v := ?_) hS ?_ ?_; rotate_left; (focus (intro x hx; have fx := HX.out x hx; go_simp; (try with_reducible rfl); done)); (try simp only [Act.put, lsa, lsz, lss]))
                  (refine tkW 2 (v := ?_) hS ?_ ?_; rotate_left; (focus (intro x hx; have fx := HX.out x hx; go_simp; (try with_reducible rfl); done)); (try simp only [Act.put, lsa, lsz, lss]))
                  (refine tkW 3 (v := ?_) hS ?_ ?_; rotate_left; (focus (intro x hx; have fx := HX.out x hx; go_simp; (try with_reducible rfl); done)); (try simp only [Act.put, lsa, lsz, lss]))
                  (refine tkW 4 (v := ?_) hS ?_ ?_; rotate_left; (focus (intro x hx; have fx := HX.out x hx; go_simp; (try with_reducible rfl); done)); (try simp only [Act.put, lsa, lsz, lss]))
                  (refine tkW 5 (v := ?_) hS ?_ ?_; rotate_left; (focus (intro x hx; have fx := HX.out x hx; go_simp; (try with_reducible rfl); done)); (try simp only [Act.put, lsa, lsz, lss]))
                  (refine tkW 6 (v := ?_) hS ?_ ?_; rotate_left; (focus (intro x hx; have fx := HX.out x hx; go_simp; (try with_reducible rfl); done)); (try simp only [Act.put, lsa, lsz, lss]))
                  (refine tkW 7 (v := ?_) hS ?_ ?_; rotate_left; (focus (intro x hx; have fx := HX.out x hx; go_simp; (try with_reducible rfl); done)); (try simp only [Act.put, lsa, lsz, lss]))
                  (refine tkW 9 (v := ?_) hS ?_ ?_; rotate_left; (focus (intro x hx; have fx := HX.out x hx; go_simp; (try with_reducible rfl); done)); (try simp only [Act.put, lsa, lsz, lss]))
                  have hne : b ≠ w.heap.size + 1 := by omega
                  have x2 := (cell_blk HZ.out.hd 2).trans rfl
                  have f2 := frz_blk HZ.out.hd 2
                  clear hi0 hi1 hi2 hwr htn
                  refine wpAnyH_one 8 (by kernel_rfl) rfl ?_
                  intro K' hK'
                  go_simp
                  refine (HNU.out _).mono ?_
                  rintro e w1 ⟨rfl, hb1⟩
                  have hS1 := And.intro (cell_later hb1 hS.1) (cell_later hb1 hS.2)
                  refine hK'.out _ _ hS1 ?_
                  clear hK' K' hS
                  have HZ1 := Lib.hid (HZ.out.below hb1)
                  clear hb1 x2 f2
                  have x2 := (cell_blk HZ1.out.hd 2).trans rfl
                  have f2 := frz_blk HZ1.out.hd 2
                  refine wpAnyH_one 10 (by kernel_rfl) rfl ?_
                  intro K' hK'
                  go_simp
                  have hS := And.intro (cell_set (g := w.heap.size + 1) (i := 2) (u := .string ⟨b'.toArray⟩) hS1.1 hne) (cell_set (g := w.heap.size + 1) (i := 2) (u := .string ⟨b'.toArray⟩) hS1.2 hne)
                  refine hK'.out _ _ hS ?_
                  clear hK' K' hS1 x2 f2
                  have HZ2 := Lib.hid (HZ1.out.set 2 (.string ⟨b'.toArray⟩))
                  have x4 := (cell_blk HZ2.out.hd 4).trans rfl
                  have f4 := frz_blk HZ2.out.hd 4
                  (refine tkW 11 (v := ?_) hS ?_ ?_; rotate_left; (focus (intro x hx; have fx := HX.out x hx; go_simp; (try with_reducible rfl); done)); (try simp only [Act.put, lsa, lsz, lss]))
                  refine wpAnyH_one 12 (by kernel_rfl) rfl ?_
                  intro K' hK'
                  go_simp
                  refine hK'.out _ _ (And.intro (cell_set hS.1 hne) (cell_set hS.2 hne)) ?_
                  refine wpAnyH_done (by kernel_rfl) ?_ _
                  go_wp2_with fail
                  go_meet
                  exact HZ2.out.set 4 (.int .i64 N)
                case rest =>
                  clear HW HNU c1 cl hbW
                  have HW := Lib.hid hcut; clear hcut
                  have hlt := HW.out.lt
                  have h3 := (cell_blk HW.out.hd 3).trans rfl
                  go_upto_region 24 with fail
                  go_cut [] from 98 to 106 (fun wx => ∃ A c, ShW w wx #[.int .i64 k, .int .i64 m, .string ⟨b'.toArray⟩, .slice A (r.length - 1) c, .int .i64 N] ∧ Sl wx (fun q => w.heap.size + 2 ≤ q) A (r.length - 1) c (r.take (r.length - 1)))
                  case first =>
                    cases r with
                    | nil =>
                      have hwr : IntKind.i64.wrap 1 = 1 := by decide
                      have hm0 : max (1 : Int) 0 = 1 := by decide
                      have hm1 : max (2 : Int) 1 = 2 := by decide
                      refine wpY_region (fun z => z.cell? ⟨w.heap.size + 1, 3, none⟩ = some (.slice none 0 0)) 9 (by kernel_rfl) ?_
                      have hS : wc.drew.cell? ⟨w.heap.size + 1, 3, none⟩ = some (.slice none 0 0) := h3
                      have HX := Lib.hid (fun (z : World) (hz : z.cell? ⟨w.heap.size + 1, 3, none⟩ = some (.slice none 0 0)) => hz)
                      have HZ := Lib.hid HW.out.drew
                      generalize wc.drew = W1 at *
                      (refine wpAnyY_takeW 0 rfl rfl (by kernel_rfl) (by kernel_rfl) (by kernel_rfl) (by kernel_rfl) (fun _ _ _ h => h) (v := ?_) (by kernel_rfl) hS ?_ ?_; rotate_left; (focus (intro x hx; have fx := HX.out x hx; go_simp; (try with_reducible rfl); done)); (try simp only [Act.put, lsa, lsz, lss]))
                      (refine wpAnyY_takeW 1 rfl rfl (by kernel_rfl) (by kernel_rfl) (by kernel_rfl) (by kernel_rfl) (fun _ _ _ h => h) (v := ?_) (by kernel_rfl) hS ?_ ?_; rotate_left; (focus (intro x hx; have fx := HX.out x hx; go_simp; (try with_reducible rfl); done)); (try simp only [Act.put, lsa, lsz, lss]))
                      (refine wpAnyY_takeW 2 rfl rfl (by kernel_rfl) (by kernel_rfl) (by kernel_rfl) (by kernel_rfl) (fun _ _ _ h => h) (v := ?_) (by kernel_rfl) hS ?_ ?_; rotate_left; (focus (intro x hx; have fx := HX.out x hx; go_simp; (try with_reducible rfl); done)); (try simp only [Act.put, lsa, lsz, lss]))
                      (refine wpAnyY_takeW 3 rfl rfl (by kernel_rfl) (by kernel_rfl) (by kernel_rfl) (by kernel_rfl) (fun _ _ _ h => h) (v := ?_) (by kernel_rfl) hS ?_ ?_; rotate_left; (focus (intro x hx; have fx := HX.out x hx; go_simp; (try with_reducible rfl); done)); (try simp only [Act.put, lsa, lsz, lss]))
                      (refine wpAnyY_takeW 4 rfl rfl (by kernel_rfl) (by kernel_rfl) (by kernel_rfl) (by kernel_rfl) (fun _ _ _ h => h) (v := ?_) (by kernel_rfl) hS ?_ ?_; rotate_left; (focus (intro x hx; have fx := HX.out x hx; go_simp; (try with_reducible rfl); done)); (try simp only [Act.put, lsa, lsz, lss]))
                      (refine wpAnyY_takeW 5 rfl rfl (by kernel_rfl) (by kernel_rfl) (by kernel_rfl) (by kernel_rfl) (fun _ _ _ h => h) (v := ?_) (by kernel_rfl) hS ?_ ?_; rotate_left; (focus (intro x hx; have fx := HX.out x hx; go_simp; (try with_reducible rfl); done)); (try simp only [Act.put, lsa, lsz, lss]))
                      (refine wpAnyY_takeW 6 rfl rfl (by kernel_rfl) (by kernel_rfl) (by kernel_rfl) (by kernel_rfl) (fun _ _ _ h => h) (v := ?_) (by kernel_rfl) hS ?_ ?_; rotate_left; (focus (intro x hx; have fx := HX.out x hx; go_simp; (try with_reducible rfl); done)); (try simp only [Act.put, lsa, lsz, lss]))
                      have hsl : Sl W1 (fun q => True ∧ (none : Option Addr).map Addr.block ≠ some q) (some ⟨b, o, none⟩) 0 0 ([] : List Bs) := Sl.nil _ _ _ _ (by decide)
                      refine wpAnyY_one 7 (by kernel_rfl) rfl ?_
                      intro K' hK'
                      refine step_appN (T := fun _ => True) (base := w.heap.size + 2) (xs := ([] : List Bs)) (ys := ([] : List Bs)) rfl _ _ eltStr rfl (by decide) rfl rfl rfl (Own.nil _ _ _ _) rfl hsl (by simp only [List.length_nil, List.length_cons] at hnn ⊢; omega) (by simp only [List.length_nil, List.length_cons] at hnn ⊢; omega) HZ.out.lt ?_
                      intro A4 c4 w4 hown4 hg4 hat4
                      have hb4 : Below W1.heap.size W1 w4 := (Below.refl _ _).grown hg4 (Nat.le_refl _) (fun q hq => by cases hq)
                      have hS4 := cell_later hb4 hS
                      have HZ4 := Lib.hid (HZ.out.below hb4)
                      have HO4 := Lib.hid ((hown4.strT (T' := fun q => w.heap.size + 2 ≤ q)).res (by decide))
                      have hl4 : w.heap.size + 2 ≤ w4.heap.size := HZ4.out.lt
                      clear hown4 hg4 hat4 hb4 hsl
                      refine hK'.out _ _ (fun _ => hS4) ?_
                      clear hK' K' hS
                      have x3 := (cell_blk HZ4.out.hd 3).trans rfl
                      have f3 := frz_blk HZ4.out.hd 3
                      refine wpAnyY_one 8 (by kernel_rfl) rfl ?_
                      intro K' hK'
                      go_simp
                      refine hK'.out _ _ (fun _ => hS4) ?_
                      clear hK' K'
                      (refine wpAnyY_one 9 (by kernel_rfl) rfl ?_; intro K' hK'; go_simp; refine hK'.out _ _ (fun h => absurd rfl h) ?_; clear hK' K'; refine wpAnyY_done (by kernel_rfl) ?_ _)
                      go_wp2_with fail
                      go_meet
                      exact ⟨A4, c4, (HZ4.out.set 3 (.slice A4 0 c4)), HO4.out.keep (fun q _ hq => set_other _ _ _ _ _ (by omega))⟩
                    | cons x r =>
                      have hwr : IntKind.i64.wrap ((r.length : Int) + 1 + 1) = (r.length : Int) + 1 + 1 := IntWalk.i64_in _ (by simp only [List.length_cons] at hnn; omega)
                      have hmx : max (2 : Int) ((r.length : Int) + 1 + 1) = (r.length : Int) + 1 + 1 := by omega
                      have hmy : max ((r.length : Int) + 1 + 1) (0 : Int) = (r.length : Int) + 1 + 1 := by omega
                      have hg0 : (0 : Int) ≤ (r.length : Int) + 1 + 1 := by omega
                      have hg1 : (r.length : Int) + 1 + 1 ≤ (r.length : Int) + 1 + 1 + 1 := by omega
                      have hg2 : (2 : Int) ≤ (r.length : Int) + 1 + 1 := by omega
                      have htn : ((r.length : Int) + 1 + 1).toNat = r.length + 2 := by omega
                      refine wpY_region (fun z => z.cell? ⟨w.heap.size + 1, 3, none⟩ = some (.slice none 0 0)) 9 (by kernel_rfl) ?_
                      have hS : wc.drew.cell? ⟨w.heap.size + 1, 3, none⟩ = some (.slice none 0 0) := h3
                      have HX := Lib.hid (fun (z : World) (hz : z.cell? ⟨w.heap.size + 1, 3, none⟩ = some (.slice none 0 0)) => hz)
                      have HZ := Lib.hid HW.out.drew
                      generalize wc.drew = W1 at *
                      (refine wpAnyY_takeW 0 rfl rfl (by kernel_rfl) (by kernel_rfl) (by kernel_rfl) (by kernel_rfl) (fun _ _ _ h => h) (v := ?_) (by kernel_rfl) hS ?_ ?_; rotate_left; (focus (intro x hx; have fx := HX.out x hx; go_simp; (try with_reducible rfl); done)); (try simp only [Act.put, lsa, lsz, lss]))
                      (refine wpAnyY_takeW 1 rfl rfl (by kernel_rfl) (by kernel_rfl) (by kernel_rfl) (by kernel_rfl) (fun _ _ _ h => h) (v := ?_) (by kernel_rfl) hS ?_ ?_; rotate_left; (focus (intro x hx; have fx := HX.out x hx; go_simp; (try with_reducible rfl); done)); (try simp only [Act.put, lsa, lsz, lss]))
                      (refine wpAnyY_takeW 2 rfl rfl (by kernel_rfl) (by kernel_rfl) (by kernel_rfl) (by kernel_rfl) (fun _ _ _ h => h) (v := ?_) (by kernel_rfl) hS ?_ ?_; rotate_left; (focus (intro x hx; have fx := HX.out x hx; go_simp; (try with_reducible rfl); done)); (try simp only [Act.put, lsa, lsz, lss]))
                      (refine wpAnyY_takeW 3 rfl rfl (by kernel_rfl) (by kernel_rfl) (by kernel_rfl) (by kernel_rfl) (fun _ _ _ h => h) (v := ?_) (by kernel_rfl) hS ?_ ?_; rotate_left; (focus (intro x hx; have fx := HX.out x hx; go_simp; (try with_reducible rfl); done)); (try simp only [Act.put, lsa, lsz, lss]))
                      (refine wpAnyY_takeW 4 rfl rfl (by kernel_rfl) (by kernel_rfl) (by kernel_rfl) (by kernel_rfl) (fun _ _ _ h => h) (v := ?_) (by kernel_rfl) hS ?_ ?_; rotate_left; (focus (intro x hx; have fx := HX.out x hx; go_simp; (try with_reducible rfl); done)); (try simp only [Act.put, lsa, lsz, lss]))
                      (refine wpAnyY_takeW 5 rfl rfl (by kernel_rfl) (by kernel_rfl) (by kernel_rfl) (by kernel_rfl) (fun _ _ _ h => h) (v := ?_) (by kernel_rfl) hS ?_ ?_; rotate_left; (focus (intro x hx; have fx := HX.out x hx; go_simp; (try with_reducible rfl); done)); (try simp only [Act.put, lsa, lsz, lss]))
                      (refine wpAnyY_takeW 6 rfl rfl (by kernel_rfl) (by kernel_rfl) (by kernel_rfl) (by kernel_rfl) (fun _ _ _ h => h) (v := ?_) (by kernel_rfl) hS ?_ ?_; rotate_left; (focus (intro x hx; have fx := HX.out x hx; go_simp; (try with_reducible rfl); done)); (try simp only [Act.put, lsa, lsz, lss]))
                      have hsl : Sl W1 (fun q => True ∧ (none : Option Addr).map Addr.block ≠ some q) (some ⟨b, o + 2, none⟩) r.length (r.length + 1) ((x :: r).take r.length) := by
                        have h := ((HSL.out.below HZ.out.bl).cut (k := 2) (by simp)).take (k := r.length) (by simp)
                        rw [if_neg (by simp)] at h
                        exact h.wide (fun _ _ _ => ⟨trivial, fun e => by cases e⟩) (by decide)
                      refine wpAnyY_one 7 (by kernel_rfl) rfl ?_
                      intro K' hK'
                      refine step_appN (T := fun _ => True) (base := w.heap.size + 2) (xs := ([] : List Bs)) (ys := ((x :: r).take r.length)) rfl _ _ eltStr rfl (by decide) rfl rfl rfl (Own.nil _ _ _ _) rfl hsl (by simp only [List.length_nil, List.length_cons] at hnn ⊢; omega) (by simp only [List.length_nil, List.length_cons] at hnn ⊢; omega) HZ.out.lt ?_
                      intro A4 c4 w4 hown4 hg4 hat4
                      have hb4 : Below W1.heap.size W1 w4 := (Below.refl _ _).grown hg4 (Nat.le_refl _) (fun q hq => by cases hq)
                      have hS4 := cell_later hb4 hS
                      have HZ4 := Lib.hid (HZ.out.below hb4)
                      have HO4 := Lib.hid ((hown4.strT (T' := fun q => w.heap.size + 2 ≤ q)).res (by decide))
                      have hl4 : w.heap.size + 2 ≤ w4.heap.size := HZ4.out.lt
                      clear hown4 hg4 hat4 hb4 hsl
                      refine hK'.out _ _ (fun _ => hS4) ?_
                      clear hK' K' hS
                      have x3 := (cell_blk HZ4.out.hd 3).trans rfl
                      have f3 := frz_blk HZ4.out.hd 3
                      refine wpAnyY_one 8 (by kernel_rfl) rfl ?_
                      intro K' hK'
                      go_simp
                      refine hK'.out _ _ (fun _ => hS4) ?_
                      clear hK' K'
                      (refine wpAnyY_one 9 (by kernel_rfl) rfl ?_; intro K' hK'; go_simp; refine hK'.out _ _ (fun h => absurd rfl h) ?_; clear hK' K'; refine wpAnyY_done (by kernel_rfl) ?_ _)
                      go_wp2_with fail
                      go_meet
                      exact ⟨A4, c4, (HZ4.out.set 3 (.slice A4 r.length c4)), ((HO4.out : Sl w4 _ A4 ((x :: r).take r.length).length c4 ((x :: r).take r.length)).cast (by simp)).keep (fun q _ hq => set_other _ _ _ _ _ (by omega))⟩
                  case rest =>
                    clear h3 HW hbW hlt
                    obtain ⟨A, c, hW, hsl⟩ := hcut
                    have HW := Lib.hid hW; have HSP := Lib.hid hsl; clear hW hsl
                    obtain ⟨q2, hq2⟩ : ∃ q2, q2 = decide (k = 2 ∨ k = 8) := ⟨_, rfl⟩
                    rw [← hq2] at HR
                    go_upto_region 25 with fail
                    go_cut [7] from 107 to 112 (fun v wx => v = .bool q2 ∧ wx = wc)
                    case first =>
                      by_cases k2 : k = 2
                      · have hb2 : (k == 2) = true := by rw [beq_iff_eq]; exact k2
                        have hq : q2 = true := by rw [hq2]; exact decide_eq_true (.inl k2)
                        clear hq2
                        subst hq
                        clear k2
                        go_wp2_with fail
                        go_meet
                        exact ⟨rfl, rfl⟩
                      · have hb2 : (k == 2) = false := by rw [beq_eq_false_iff_ne]; exact k2
                        by_cases k8 : k = 8
                        · have hb8 : (k == 8) = true := by rw [beq_iff_eq]; exact k8
                          have hq : q2 = true := by rw [hq2]; exact decide_eq_true (.inr k8)
                          clear hq2
                          subst hq
                          clear k2 k8
                          go_wp2_with fail
                          go_meet
                          exact ⟨rfl, rfl⟩
                        · have hb8 : (k == 8) = false := by rw [beq_eq_false_iff_ne]; exact k8
                          have hq : q2 = false := by rw [hq2]; exact decide_eq_false (fun h => h.elim k2 k8)
                          clear hq2
                          subst hq
                          clear k2 k8
                          go_wp2_with fail
                          go_meet
                          exact ⟨rfl, rfl⟩
                    case rest =>
                      obtain ⟨rfl, rfl⟩ := hcut
                      clear hq2 hrng hk h137'
                      have HFIN := Lib.hid (fun (a0 a1 a2 a3 a4 : Value) => (HSP.out.keep (w' := (((((wc.setCell ⟨w.heap.size, 0, none⟩ a0).setCell ⟨w.heap.size, 1, none⟩ a1).setCell ⟨w.heap.size, 2, none⟩ a2).setCell ⟨w.heap.size, 3, none⟩ a3).setCell ⟨w.heap.size, 4, none⟩ a4)) (fun q _ hq => (set_other _ _ _ _ _ (by omega)).trans ((set_other _ _ _ _ _ (by omega)).trans ((set_other _ _ _ _ _ (by omega)).trans ((set_other _ _ _ _ _ (by omega)).trans (set_other _ _ _ _ _ (by omega))))))).wide (S' := fun q => w.heap.size ≤ q) (fun q _ hq => by omega) (by decide))
                      clear HSP
                      have h0 := (cell_blk HW.out.hd 0).trans rfl; have h1 := (cell_blk HW.out.hd 1).trans rfl; have h2 := (cell_blk HW.out.hd 2).trans rfl; have h3 := (cell_blk HW.out.hd 3).trans rfl; have h4 := (cell_blk HW.out.hd 4).trans rfl; have r0 := (cell_blk HW.out.res 0).trans rfl; have r1 := (cell_blk HW.out.res 1).trans rfl; have r2 := (cell_blk HW.out.res 2).trans rfl; have r3 := (cell_blk HW.out.res 3).trans rfl; have r4 := (cell_blk HW.out.res 4).trans rfl; have fr0 := frz_blk HW.out.res 0; have fr1 := frz_blk HW.out.res 1; have fr2 := frz_blk HW.out.res 2; have fr3 := frz_blk HW.out.res 3; have fr4 := frz_blk HW.out.res 4
                      cases r with
                      | nil =>
                        go_wp2_with fail
                        have hRF := set5 HW.out.res (.int .i64 k) (.int .i64 m) (.string ⟨b'.toArray⟩) (.slice A (0) c) (.int .i64 N); have q0 := (cell_blk hRF 0).trans rfl; have q1 := (cell_blk hRF 1).trans rfl; have q2 := (cell_blk hRF 2).trans rfl; have q3 := (cell_blk hRF 3).trans rfl; have q4 := (cell_blk hRF 4).trans rfl; refine bodyPost_ret (v := .tuple #[.agg #[.int .i64 k, .int .i64 m, .string ⟨b'.toArray⟩, .slice A (0) c, .int .i64 N], .bool false]) (by simp [results, Tryz.results76, go_sem, q0, q1, q2, q3, q4]) rfl ?_
                        rw [HR.out]
                        exact ⟨_, by simp, ⟨A, 0, c, rfl, HFIN.out _ _ _ _ _⟩, HW.out.fin _ _ _ _ _⟩
                      | cons x r =>
                        have hn3 : (3 : Int) ≤ (r.length : Int) + 1 + 1 + 1 := by omega
                        by_cases hN : (0 : Int) ≤ N
                        · have hdN : decide ((0 : Int) ≤ N) = true := decide_eq_true hN
                          cases q2 with
                          | true =>
                            go_wp2_with fail
                            have hRF := set5 HW.out.res (.int .i64 k) (.int .i64 m) (.string ⟨b'.toArray⟩) (.slice A (r.length) c) (.int .i64 N); have q0 := (cell_blk hRF 0).trans rfl; have q1 := (cell_blk hRF 1).trans rfl; have q2 := (cell_blk hRF 2).trans rfl; have q3 := (cell_blk hRF 3).trans rfl; have q4 := (cell_blk hRF 4).trans rfl; refine bodyPost_ret (v := .tuple #[.agg #[.int .i64 k, .int .i64 m, .string ⟨b'.toArray⟩, .slice A (r.length) c, .int .i64 N], .bool true]) (by simp [results, Tryz.results76, go_sem, q0, q1, q2, q3, q4]) rfl ?_
                            rw [HR.out]
                            exact ⟨_, by simp [hN], ⟨A, r.length, c, rfl, HFIN.out _ _ _ _ _⟩, HW.out.fin _ _ _ _ _⟩
                          | false =>
                            cases r with
                            | nil =>
                              go_wp2_with fail
                              have hRF := set5 HW.out.res (.int .i64 k) (.int .i64 m) (.string ⟨b'.toArray⟩) (.slice A (0) c) (.int .i64 N); have q0 := (cell_blk hRF 0).trans rfl; have q1 := (cell_blk hRF 1).trans rfl; have q2 := (cell_blk hRF 2).trans rfl; have q3 := (cell_blk hRF 3).trans rfl; have q4 := (cell_blk hRF 4).trans rfl; refine bodyPost_ret (v := .tuple #[.agg #[.int .i64 k, .int .i64 m, .string ⟨b'.toArray⟩, .slice A (0) c, .int .i64 N], .bool true]) (by simp [results, Tryz.results76, go_sem, q0, q1, q2, q3, q4]) rfl ?_
                              rw [HR.out]
                              exact ⟨_, by simp [hN], ⟨A, 0, c, rfl, HFIN.out _ _ _ _ _⟩, HW.out.fin _ _ _ _ _⟩
                            | cons y r =>
                              have hn4 : ((r.length : Int) + 1 + 1 + 1 + 1 == 3) = false := by rw [beq_eq_false_iff_ne]; omega
                              go_wp2_with fail
                              have hRF := set5 HW.out.res (.int .i64 k) (.int .i64 m) (.string ⟨b'.toArray⟩) (.slice A ((r.length + 1)) c) (.int .i64 N); have q0 := (cell_blk hRF 0).trans rfl; have q1 := (cell_blk hRF 1).trans rfl; have q2 := (cell_blk hRF 2).trans rfl; have q3 := (cell_blk hRF 3).trans rfl; have q4 := (cell_blk hRF 4).trans rfl; refine bodyPost_ret (v := .tuple #[.agg #[.int .i64 k, .int .i64 m, .string ⟨b'.toArray⟩, .slice A ((r.length + 1)) c, .int .i64 N], .bool false]) (by simp [results, Tryz.results76, go_sem, q0, q1, q2, q3, q4]) rfl ?_
                              rw [HR.out]
                              exact ⟨_, by simp [hN], ⟨A, (r.length + 1), c, rfl, HFIN.out _ _ _ _ _⟩, HW.out.fin _ _ _ _ _⟩
                        · have hdN : decide ((0 : Int) ≤ N) = false := decide_eq_false hN
                          go_wp2_with fail
                          have hRF := set5 HW.out.res (.int .i64 k) (.int .i64 m) (.string ⟨b'.toArray⟩) (.slice A (r.length) c) (.int .i64 N); have q0 := (cell_blk hRF 0).trans rfl; have q1 := (cell_blk hRF 1).trans rfl; have q2 := (cell_blk hRF 2).trans rfl; have q3 := (cell_blk hRF 3).trans rfl; have q4 := (cell_blk hRF 4).trans rfl; refine bodyPost_ret (v := .tuple #[.agg #[.int .i64 k, .int .i64 m, .string ⟨b'.toArray⟩, .slice A (r.length) c, .int .i64 N], .bool false]) (by simp [results, Tryz.results76, go_sem, q0, q1, q2, q3, q4]) rfl ?_
                          rw [HR.out]
                          exact ⟨_, by simp; intro h; omega, ⟨A, r.length, c, rfl, HFIN.out _ _ _ _ _⟩, HW.out.fin _ _ _ _ _⟩
end Go.Proofs.YtpeamehplhpcjaaGreatDoor
