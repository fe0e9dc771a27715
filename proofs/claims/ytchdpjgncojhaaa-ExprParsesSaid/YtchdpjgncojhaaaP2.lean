/- licitref08: the parser: level. -/
import Derived.Test.YtchdpjgncojhaaaP1
import Derived.Test.YtchdpjgncojhaaaParseLen
import Derived.Test.YtchdpjgncojhaaaE4
set_option linter.unusedVariables false
set_option linter.unusedSimpArgs false
namespace Go.Proofs.Ytchdpjgncojhaaa
open Go.RowKit

/-- A state of the plain parser, as the reference's parser has it. -/
def PS (w : World) (n0 g : Nat) (L : List Tok) (st : PSt) : Prop := ∃ k, st.rest = L.drop k ∧ PW8 w n0 g L ⟨k, st.depth, st.out, st.err⟩
/-- Behind an error. -/
def PE (w : World) (n0 g : Nat) (L : List Tok) (st : PSt) (e : Int) : Prop := e ≠ 0 ∧ ∃ q, PW8 w n0 g L q ∧ q.err = e ∧ st.depth - 1 ≤ q.depth ∧ q.depth ≤ st.depth ∧ q.out.length + (L.length - q.pos) ≤ st.m + 1
def PR8 (w : World) (n0 g : Nat) (L : List Tok) (st : PSt) (b : Bool) (s : PSt) : Prop := (b = true → PS w n0 g L s ∧ s.err = 0) ∧ (b = false → PE w n0 g L st s.err)
def WLevel (n0 g : Nat) (L : List Tok) (f : Nat) : Prop := ∀ (l : Nat) (li : Int) (st : PSt) (w : World) (x : Bool × PSt × Int), li = l → 1 ≤ l → l ≤ 11 → pr f (.bin l) st = some x → PS w n0 g L st → st.err = 0 → 0 ≤ st.depth → st.depth ≤ 25 → st.m ≤ 256 →
  Calls Try.prog 39 #[.pointer (some ⟨g, 0, none⟩), .int .i64 li] w (fun e w' => e = .returned (.tuple #[]) ∧ PR8 w' n0 g L st x.1 x.2.1 ∧ Frm (PM n0 g w) w w')
def WPrim (n0 g : Nat) (L : List Tok) (f : Nat) : Prop := ∀ (st : PSt) (w : World) (x : Bool × PSt × Int), pr f .single st = some x → PS w n0 g L st → st.err = 0 → 0 ≤ st.depth → st.depth ≤ 25 → st.m ≤ 256 →
  Calls Try.prog 66 #[.pointer (some ⟨g, 0, none⟩)] w (fun e w' => e = .returned (.tuple #[]) ∧ PR8 w' n0 g L st x.1 x.2.1 ∧ Frm (PM n0 g w) w w')

set_option maxRecDepth 100000 in
/-- Behind an error nothing is done. -/
theorem prim8_err (n0 g : Nat) (L : List Tok) (q : Q8) (w : World) (h : PW8 w n0 g L q) (he : q.err ≠ 0) :
    Calls Try.prog 66 #[.pointer (some ⟨g, 0, none⟩)] w (Post8 n0 g L w q) := by
  have H := Lib.hid h
  obtain ⟨hn0, hol, hp, htl, hL, A, c, Ao, co, hb, hsl, hown⟩ := h
  have c4 := cell_blk hb 4
  simp only [List.getElem?_toArray, List.getElem?_cons_succ, List.getElem?_cons_zero] at c4
  have he' : (q.err != 0) = true := by rw [bne_iff_ne]; exact he
  clear hb hsl hown htl he
  go_enter Try.func66, Try.ntmps66
  go_wp2
  ((try simp only [Exit.inBlock, Exit.then]); first | refine bodyPost_ret (results_none rfl _ _ _) rfl ?_ | refine bodyPost_end (results_none rfl _ _ _) rfl ?_)
  exact ⟨rfl, H.out, Frm.refl _ _⟩

set_option maxRecDepth 100000 in
set_option maxHeartbeats 1000000 in
theorem level8_err (n0 g : Nat) (L : List Tok) (q : Q8) (he : q.err ≠ 0) (d : Nat) : ∀ (l : Nat) (li : Int) (w : World), li = l → 1 ≤ l → l + d = 11 → PW8 w n0 g L q →
    Calls Try.prog 39 #[.pointer (some ⟨g, 0, none⟩), .int .i64 li] w (Post8 n0 g L w q) := by
  induction d with
  | zero =>
    intro l li w hli hl1 hl h
    obtain rfl : li = 11 := by omega
    have H := Lib.hid h; clear h
    go_enter Try.func39, Try.ntmps39
    go_wp2_with fail
    refine (prim8_err n0 g L q _ H.out he).mono ?_
    rintro e w1 ⟨rfl, hw1, hf1⟩
    go_wp2
    ((try simp only [Exit.inBlock, Exit.then]); first | refine bodyPost_ret (results_none rfl _ _ _) rfl ?_ | refine bodyPost_end (results_none rfl _ _ _) rfl ?_)
    exact ⟨rfl, hw1, hf1⟩
  | succ d ih =>
    intro l li w hli hl1 hl h
    have H := Lib.hid (ih (l + 1) (li + 1) w (by omega) (by omega) (by omega) h)
    have hneq : (li == 11) = false := by rw [beq_eq_false_iff_ne]; omega
    have hlb1 : 1 ≤ li := by omega
    have hlb2 : li ≤ 10 := by omega
    have Hli := Lib.hid hli; clear hli h ih
    go_enter Try.func39, Try.ntmps39
    go_wp2_with fail
    refine H.out.mono ?_
    rintro e w1 ⟨rfl, hw1, hf1⟩
    go_wp2_with fail
    go_loopg [4] 1 (fun k o wr => PW8 wr n0 g L q ∧ Frm (PM n0 g w) w wr)
    case atStart => exact ⟨hw1, hf1⟩
    case round =>
      obtain ⟨hpw, hfr⟩ := hrel
      have HPW := Lib.hid hpw
      obtain ⟨hn0, hol, hp, htl, hL, A, c, Ao, co, hb, hsl, hown⟩ := hpw
      have c4 := cell_blk hb 4
      simp only [List.getElem?_toArray, List.getElem?_cons_succ, List.getElem?_cons_zero] at c4
      have he' : (q.err == 0) = false := by rw [beq_eq_false_iff_ne]; exact he
      clear hb hsl hown htl hp hol
      go_wp2_with fail
      go_quiet (fail)
      go_wp2
      ((try simp only [Exit.inBlock, Exit.then]); first | refine bodyPost_ret (results_none rfl _ _ _) rfl ?_ | refine bodyPost_end (results_none rfl _ _ _) rfl ?_)
      exact ⟨rfl, HPW.out.drewN _, hfr.drewN _⟩

/-- The plain parser fails with an error, and not otherwise. -/
def EOk (st : PSt) (x : Bool × PSt × Int) : Prop := st.err = 0 → (x.1 = true → x.2.1.err = 0) ∧ (x.1 = false → x.2.1.err ≠ 0)
theorem EOk.fail {st : PSt} {e n : Int} (he : e ≠ 0) : EOk st ((pfail st e).1, (pfail st e).2, n) := by
  intro h
  refine ⟨fun h => by simp [pfail] at h, fun _ => ?_⟩
  simp [pfail, h, he]
theorem EOk.within {p : PSt → PRes} (hp : ∀ st x, p st = some x → EOk st x) {st : PSt} {x : Bool × PSt × Int} (h : pwithin p st = some x) : EOk st x := by
  unfold pwithin at h
  split at h
  · injection h with h; subst h; exact EOk.fail (by decide)
  · unfold pdown at h
    cases hq : p { st with depth := st.depth + 1, rest := st.rest.tail } with
    | none => rw [hq] at h; cases h
    | some y =>
      rw [hq] at h
      simp only [Option.map_some, Option.some.injEq] at h
      subst h
      have hy := hp _ _ hq
      exact fun he => hy he
theorem EOk.close {p : PSt → PRes} (hp : ∀ st x, p st = some x → EOk st x) : ∀ st x, pclose (p st) = some x → EOk st x := by
  intro st x h
  unfold pclose at h
  cases hq : p st with
  | none => rw [hq] at h; cases h
  | some y =>
    rw [hq] at h
    simp only [Option.map_some, Option.some.injEq] at h
    subst h
    have hy := hp _ _ hq
    intro he
    have hy := hy he
    split
    · rename_i hb
      have h0 := hy.1 hb
      unfold ptake
      split
      · exact ⟨fun _ => h0, fun h => by simp at h⟩
      · exact EOk.fail (n := 0) (by decide) h0
    · exact hy
theorem EOk.parens {p : PSt → PRes} (hp : ∀ st x, p st = some x → EOk st x) {st : PSt} {x : Bool × PSt × Int} (h : pparens p st = some x) : EOk st x := by
  unfold pparens at h
  split at h
  · exact EOk.within (p := fun s => pclose (p s)) (EOk.close hp) h
  · injection h with h; subst h; exact EOk.fail (by decide)
theorem EOk.zero {r : PRes} {st : PSt} (hr : ∀ x, r = some x → EOk st x) {x : Bool × PSt × Int} (h : pzero r = some x) : EOk st x := by
  unfold pzero at h
  cases hq : r with
  | none => rw [hq] at h; cases h
  | some y => rw [hq] at h; simp only [Option.map_some, Option.some.injEq] at h; subst h; exact hr y hq
theorem EOk.then_ {r : PRes} {st : PSt} (hr : ∀ x, r = some x → EOk st x) {k : Int} {t : Bs} {x : Bool × PSt × Int} (h : pthen r k t = some x) : EOk st x := by
  unfold pthen at h
  cases hq : r with
  | none => rw [hq] at h; cases h
  | some y =>
    rw [hq] at h
    simp only [Option.map_some, Option.some.injEq] at h
    subst h
    have hy := hr y hq
    intro he
    have hy := hy he
    split
    · rename_i hb; exact ⟨fun _ => hy.1 hb, fun h => by cases h⟩
    · rename_i hb; exact ⟨fun h => (by cases h), fun _ => hy.2 (by simpa using hb)⟩
theorem pr_err (f : Nat) : ∀ tag st x, pr f tag st = some x → EOk st x := by
  induction f with
  | zero => intro tag st x h; cases h
  | succ f ih =>
    intro tag st x h
    have triv : ∀ {s : PSt} {n : Int}, s.err = st.err → EOk st (true, s, n) := fun hs he => ⟨fun _ => hs.trans he, fun h => by cases h⟩
    have follow : ∀ {y : Bool × PSt × Int} {s : PSt} {z : Bool × PSt × Int}, EOk st y → y.1 = true → s.err = y.2.1.err → EOk s z → EOk st z := fun h1 hb hs h2 he => h2 (hs.trans ((h1 he).1 hb))
    have stop : ∀ {y : Bool × PSt × Int} {n : Int}, EOk st y → ¬ y.1 = true → EOk st (false, y.2.1, n) := fun h1 hb he => ⟨fun h => (by cases h), fun _ => (h1 he).2 (by simpa using hb)⟩
    cases tag with
    | nothing => rw [pr] at h; injection h with h; subst h; exact triv rfl
    | bin l =>
      rw [pr] at h
      split at h
      · exact ih _ _ _ h
      · obtain ⟨y, hy, h⟩ := bind_some h
        have h1 := ih _ _ _ hy
        split at h
        · rename_i hb; exact follow h1 hb rfl (ih _ _ _ h)
        · rename_i hb; injection h with h; subst h; exact stop h1 hb
    | loop l =>
      rw [pr] at h
      split at h
      · injection h with h; subst h; exact triv rfl
      · split at h
        · obtain ⟨y, hy, h⟩ := bind_some h
          have h1 : EOk st y := fun he => ih _ _ _ hy he
          split at h
          · rename_i hb; exact follow (s := (pput y.2.1 7 _ 0).2) h1 hb rfl (ih _ _ _ h)
          · rename_i hb; injection h with h; subst h; exact stop h1 hb
        · injection h with h; subst h; exact triv rfl
    | args n =>
      rw [pr] at h
      split at h
      · injection h with h; subst h; exact triv rfl
      · exact ih _ _ _ h
    | more n =>
      rw [pr] at h
      obtain ⟨y, hy, h⟩ := bind_some h
      have h1 := ih _ _ _ hy
      split at h
      · rename_i hb
        split at h
        · split at h
          · injection h with h; subst h; exact follow h1 hb rfl (EOk.fail (by decide))
          · exact follow (s := { y.2.1 with rest := y.2.1.rest.tail }) h1 hb rfl (ih _ _ _ h)
        · injection h with h; subst h; intro he; exact ⟨fun _ => (h1 he).1 hb, fun h => by cases h⟩
      · rename_i hb; injection h with h; subst h; exact stop h1 hb
    | single =>
      rw [pr] at h
      split at h
      · injection h with h; subst h; exact EOk.fail (by decide)
      · rename_i t r hr
        split at h
        · injection h with h; subst h; exact triv rfl
        · split at h
          · split at h
            · exact EOk.then_ (fun x hx => EOk.zero (fun y hy => EOk.within (ih _) hy) hx) h
            · exact EOk.zero (fun y hy => EOk.parens (ih _) hy) h
          · split at h
            · exact EOk.then_ (st := { st with rest := r }) (fun x hx => EOk.zero (fun y hy => EOk.parens (ih _) hy) hx) h
            · split at h
              · exact EOk.then_ (st := { st with rest := r }) (fun x hx => EOk.zero (fun y hy => EOk.parens (ih _) hy) hx) h
              · split at h
                · split at h
                  · exact EOk.then_ (st := { st with rest := r }) (fun x hx => EOk.parens (ih _) hx) h
                  · injection h with h; subst h; exact triv rfl
                · injection h with h; subst h; exact EOk.fail (by decide)

def LR (n0 g : Nat) (L : List Tok) (f l : Nat) (x : Bool × PSt × Int) (w : World) (st : PSt) (k : Nat) (wr : World) : Prop :=
  Frm (PM n0 g w) w wr ∧ ((∃ s, k ≤ f ∧ pr k (.loop l) s = some x ∧ PS wr n0 g L s ∧ s.err = 0 ∧ s.depth = st.depth ∧ s.m ≤ st.m) ∨ (x.1 = false ∧ PE wr n0 g L st x.2.1.err))

set_option maxRecDepth 100000 in
set_option maxHeartbeats 4000000 in
theorem level8_step (n0 g : Nat) (L : List Tok) (f : Nat) (ihL : ∀ f', f' ≤ f → WLevel n0 g L f') (ihP : WPrim n0 g L f) : WLevel n0 g L (f + 1) := by
  intro l li st w x hli h1 h11 hx hps he hd hd25 hm
  rw [pr] at hx
  by_cases hl : l = 11
  · rw [if_pos hl] at hx
    have H := Lib.hid (ihP st w x hx hps he hd hd25 hm)
    obtain rfl : li = 11 := by omega
    clear ihL ihP hx hps hli hl
    go_enter Try.func39, Try.ntmps39
    go_wp2_with fail
    refine H.out.mono ?_
    rintro e w1 ⟨rfl, hw1, hf1⟩
    go_wp2
    ((try simp only [Exit.inBlock, Exit.then]); first | refine bodyPost_ret (results_none rfl _ _ _) rfl ?_ | refine bodyPost_end (results_none rfl _ _ _) rfl ?_)
    exact ⟨rfl, hw1, hf1⟩
  · rw [if_neg hl] at hx
    obtain ⟨y, hy, hx⟩ := bind_some hx
    have hB := ihL f (Nat.le_refl f) (l + 1) (li + 1) st w y (by omega) (by omega) (by omega) hy hps he hd hd25 hm
    have hI := pr_inv _ _ _ _ hy
    have hE := pr_err _ _ _ _ hy he
    have hneq : (li == 11) = false := by rw [beq_eq_false_iff_ne]; omega
    have hlb1 : 1 ≤ li := by omega
    have hlb2 : li ≤ 10 := by omega
    have HB := Lib.hid hB; clear hB hy hps
    have IHL := Lib.hid ihL; clear ihL ihP hl
    have Hli := Lib.hid hli; clear hli
    have HI := Lib.hid hI; have HE := Lib.hid hE; clear hI hE
    have HX := Lib.hid hx; have Hhe := Lib.hid he; clear hx he
    go_enter Try.func39, Try.ntmps39
    go_wp2_with fail
    refine HB.out.mono ?_
    rintro e w1 ⟨rfl, hw1, hf1⟩
    have HW1 := Lib.hid hw1; clear hw1
    go_wp2_with fail
    go_loopg [4] f (fun k o wr => LR n0 g L f l x w st k wr)
    case atStart =>
      have hw1 := HW1.out
      have hx := HX.out
      cases hb : y.1
      · rw [hb] at hx
        injection hx with hx
        subst hx
        exact ⟨hf1, .inr ⟨rfl, hw1.2 hb⟩⟩
      · rw [hb, if_pos rfl] at hx
        exact ⟨hf1, .inl ⟨_, Nat.le_refl f, hx, (hw1.1 hb).1, (hw1.1 hb).2, HI.out.depth, HI.out.m⟩⟩
    case round =>
      obtain ⟨hfr, hrel⟩ := hrel
      have HFr := Lib.hid hfr; clear hfr
      clear HX HI HE HW1 HB hf1
      rcases hrel with ⟨s, hk, hp, ⟨pos, hrest, hpw⟩, hes, hds, hms⟩ | ⟨hxb, hpe⟩
      · have HPW := Lib.hid hpw
        obtain ⟨k, rfl⟩ : ∃ k', gk = k' + 1 := by
          cases gk with
          | zero => cases hp
          | succ k' => exact ⟨k', rfl⟩
        rw [pr] at hp
        obtain ⟨hn0, hol, hpl, htl, hL, A, c, Ao, co, hb, hsl, hown⟩ := hpw
        simp only at hpl hol
        have hsm : s.m = s.out.length + (L.length - pos) := by simp [PSt.m, hrest]
        have c0 := cell_blk hb 0
        have c1 := cell_blk hb 1
        have c4 := cell_blk hb 4
        have z1 := frz_blk hb 1
        simp only [List.getElem?_toArray, List.getElem?_cons_succ, List.getElem?_cons_zero] at c0 c1 c4
        have hle := hsl.le
        have he' : (s.err == 0) = true := by rw [hes]; rfl
        have HBK := Lib.hid hb; have HSL := Lib.hid hsl; have HOW := Lib.hid hown; have HTL := Lib.hid htl; clear hb hsl hown htl
        have HDS := Lib.hid hds; have HES := Lib.hid hes; clear hds hes
        by_cases hlt : pos < L.length
        · obtain ⟨b, o, hA, hSb, hbs, k1, k2⟩ := HSL.out.tok (k := pos) hlt
          subst hA
          rw [hrest, drop_get hlt] at hp
          simp only at hp
          have hlt' : (pos : Int) < (L.length : Int) := by omega
          have hge' : (0 : Int) ≤ (pos : Int) := by omega
          have htt : L[pos].text.length ≤ 9223372036854775807 := HTL.out _ (by simp)
          generalize ht : L[pos] = t at *
          have Ht := Lib.hid ht; clear ht
          have HRest := Lib.hid hrest; clear hrest
          have hlv := fun w => (level8_any t.text w).mono fun e w' h => And.intro h.1 h.2.symm
          by_cases hkd : t.kind = 3
          · have hkd' : (t.kind == 3) = true := by simpa using hkd
            by_cases hlvl : level t.text = l
            · rw [if_pos ⟨hkd, hlvl⟩] at hp
              obtain ⟨y, hy, hp⟩ := bind_some hp
              have hlq : (((level t.text : Nat) : Int) == li) = true := by rw [beq_iff_eq]; have := Hli.out; omega
              have hw2 : IntKind.i64.wrap ((pos : Int) + 1) = (pos : Int) + 1 := by simp [IntKind.wrap, IntKind.signed, IntKind.bits]; omega
              have HLV := Lib.hid hlv; have HP := Lib.hid hp; have HY := Lib.hid hy; have HLvl := Lib.hid hlvl; have HKd := Lib.hid hkd
              clear hlv hp hy hlvl hkd
              go_wp2_with fail
              go_quiet ((go_at_call 54; exact Calls.quiet_of_same (HLV.out _)))
              go_wp2_with fail
              go_quiet (fail)
              go_wp2_with fail
              refine (IHL.out k (by omega) (l + 1) (li + 1) { s with rest := L.drop (pos + 1) } _ y (by have := Hli.out; omega) (by omega) (by have := Hli.out; omega) HY.out ⟨pos + 1, rfl, (HPW.out.drewN _).set1 (pos + 1) (by omega)⟩ HES.out (by rw [HDS.out]; exact hd) (by rw [HDS.out]; exact hd25) ?_).mono ?_
              · show s.out.length + (L.drop (pos + 1)).length ≤ 256
                rw [List.length_drop]; omega
              rintro e w3 ⟨rfl, hw3, hf3⟩
              have hq3 : ∃ q3, PW8 w3 n0 g L q3 ∧ q3.out.length ≤ 300 ∧ ((y.1 = true ∧ y.2.1.rest = L.drop q3.pos ∧ q3.depth = y.2.1.depth ∧ q3.out = y.2.1.out ∧ q3.err = y.2.1.err) ∨ (y.1 = false ∧ q3.err = y.2.1.err ∧ st.depth - 1 ≤ q3.depth ∧ q3.depth ≤ st.depth ∧ q3.out.length + 1 + (L.length - q3.pos) ≤ st.m + 1)) := by
                have hIy := (pr_inv _ _ _ _ HY.out).m
                have hm1 : ({ s with rest := L.drop (pos + 1) } : PSt).m = s.out.length + (L.length - (pos + 1)) := by simp [PSt.m]
                cases hyb : y.1
                · obtain ⟨h1, q, h2, h3, h4, h5, h6⟩ := hw3.2 hyb
                  simp only at h4 h5
                  rw [hm1] at h6
                  have hds := HDS.out
                  exact ⟨q, h2, by omega, .inr ⟨rfl, h3, by omega, by omega, by omega⟩⟩
                · obtain ⟨⟨k', h1, h2⟩, h3⟩ := hw3.1 hyb
                  rw [hm1] at hIy
                  exact ⟨_, h2, by simp only [PSt.m] at hIy ⊢; omega, .inl ⟨rfl, h1, rfl, rfl, rfl⟩⟩
              obtain ⟨q3, hp3, ho3, hor⟩ := hq3
              have hgl := hp3.lt
              have HOR := Lib.hid hor; have HF3 := Lib.hid hf3; clear hor hf3 hw3
              obtain ⟨hn3, -, hpl3, htl3, hL3, A3, c3, Ao3, co3, hb3, hsl3, hown3⟩ := hp3
              have d2 := cell_blk hb3 2
              have y2 := frz_blk hb3 2
              simp only [List.getElem?_toArray, List.getElem?_cons_succ, List.getElem?_cons_zero] at d2
              have HB3 := Lib.hid hb3; have HS3 := Lib.hid hsl3; have HO3 := Lib.hid hown3; have HT3 := Lib.hid htl3; clear hb3 hsl3 hown3 htl3
              go_wp2_with (at_builtin; go_must (refine wpList_app1 rfl _ _ eltOpn rfl (by decide) rfl rfl rfl (HO3.out.alloc _) rfl [.int .i64 7, .string ⟨t.text.toArray⟩, .int .u32 0] ⟨7, t.text, 0⟩ (blkAt _ _ rfl) rfl ⟨rfl, rfl, rfl⟩ (by omega) (by omega) (by simp; omega) ?_); intro A' c' w4 hown' hg hat; have hb4 := grownBlk hg (blkOld HB3.out _) (HO3.out.ne_lt (Nat.lt_succ_self g)); have hc4 := cell_blk hb4 2; have hz4 := frz_blk hb4 2; simp only [List.getElem?_toArray, List.getElem?_cons_succ, List.getElem?_cons_zero] at hc4)
              have hput := put8 (o := ⟨7, t.text, 0⟩) hn3 (by omega) hpl3 HT3.out hL3 HB3.out HS3.out HO3.out hown' hg
              have hfin := PM.trans (PM.trans (PM.trans HFr.out (HPW.out.frm ((Frm.refl _ _).drewN _) _ _)) HF3.out) hput.2
              go_roundg k
              case measure => omega
              case rel =>
                refine ⟨hfin, ?_⟩
                have hp := HP.out
                rcases HOR.out with ⟨h1, h2, h3, h4, h5⟩ | ⟨h1, h2, h3, h4, h5⟩
                · left
                  rw [if_pos h1] at hp
                  have hyI := pr_inv _ _ _ _ HY.out
                  have hyE := (pr_err _ _ _ _ HY.out HES.out).1 h1
                  have hm1 : ({ s with rest := L.drop (pos + 1) } : PSt).m = s.out.length + (L.length - (pos + 1)) := by simp [PSt.m]
                  refine ⟨_, by omega, hp, ⟨q3.pos, h2, ?_⟩, hyE, hyI.depth.trans HDS.out, ?_⟩
                  · show PW8 _ n0 g L ⟨q3.pos, y.2.1.depth, y.2.1.out ++ [⟨7, t.text, 0⟩], y.2.1.err⟩
                    rw [← h3, ← h4, ← h5]
                    exact hput.1
                  · have := hyI.m
                    rw [hm1] at this
                    simp only [pput, PSt.m, List.length_append, List.length_cons, List.length_nil] at this ⊢
                    simp only [PSt.m] at hms hsm
                    omega
                · right
                  rw [if_neg (by rw [h1]; decide)] at hp
                  injection hp with hp
                  have hyE := (pr_err _ _ _ _ HY.out HES.out).2 h1
                  subst hp
                  exact ⟨rfl, hyE, _, hput.1, h2, h3, h4, by simp only [List.length_append, List.length_cons, List.length_nil]; omega⟩
            · rw [if_neg (fun h => hlvl h.2)] at hp
              injection hp with hp
              subst hp
              have hlq : (((level t.text : Nat) : Int) == li) = false := by rw [beq_eq_false_iff_ne]; have := Hli.out; omega
              have HLV := Lib.hid hlv
              clear hlv hlvl hkd
              go_wp2_with fail
              go_quiet ((go_at_call 54; exact Calls.quiet_of_same (HLV.out _)))
              go_wp2
              ((try simp only [Exit.inBlock, Exit.then]); first | refine bodyPost_ret (results_none rfl _ _ _) rfl ?_ | refine bodyPost_end (results_none rfl _ _ _) rfl ?_)
              exact ⟨rfl, ⟨fun _ => ⟨⟨pos, HRest.out, HPW.out.drewN _⟩, HES.out⟩, fun h => by cases h⟩, HFr.out.drewN _⟩
          · rw [if_neg (fun h => hkd h.1)] at hp
            injection hp with hp
            subst hp
            have hkd' : (t.kind == 3) = false := by simpa using hkd
            clear hlv hkd
            go_wp2_with fail
            go_quiet (fail)
            go_wp2
            ((try simp only [Exit.inBlock, Exit.then]); first | refine bodyPost_ret (results_none rfl _ _ _) rfl ?_ | refine bodyPost_end (results_none rfl _ _ _) rfl ?_)
            exact ⟨rfl, ⟨fun _ => ⟨⟨pos, HRest.out, HPW.out.drewN _⟩, HES.out⟩, fun h => by cases h⟩, HFr.out.drewN _⟩
        · have hr0 : L.drop pos = [] := List.drop_eq_nil_of_le (by omega)
          rw [hrest, hr0] at hp
          injection hp with hp
          subst hp
          have HRest := Lib.hid hrest; clear hrest hr0
          have HLT := Lib.hid hlt
          clear hlt hpl hk hms hsm hol
          go_wp2_with fail
          have hlt' : ¬ ((pos : Int) < (L.length : Int)) := by have := HLT.out; omega
          go_quiet (fail)
          go_wp2
          ((try simp only [Exit.inBlock, Exit.then]); first | refine bodyPost_ret (results_none rfl _ _ _) rfl ?_ | refine bodyPost_end (results_none rfl _ _ _) rfl ?_)
          exact ⟨rfl, ⟨fun _ => ⟨⟨pos, HRest.out, HPW.out.drewN _⟩, HES.out⟩, fun h => by cases h⟩, HFr.out.drewN _⟩
      · have HPE := Lib.hid hpe
        obtain ⟨hen, q, hpw, hqe, -⟩ := hpe
        have hpw' := hpw
        obtain ⟨hn0, hol, hp, htl, hL, A, c, Ao, co, hb, hsl, hown⟩ := hpw'
        have c4 := cell_blk hb 4
        simp only [List.getElem?_toArray, List.getElem?_cons_succ, List.getElem?_cons_zero] at c4
        have he' : (q.err == 0) = false := by rw [beq_eq_false_iff_ne]; rw [hqe]; exact hen
        have HXB := Lib.hid hxb
        clear hb hsl hown htl hp hol hpw hqe hen hxb
        go_wp2_with fail
        go_quiet (fail)
        go_wp2
        ((try simp only [Exit.inBlock, Exit.then]); first | refine bodyPost_ret (results_none rfl _ _ _) rfl ?_ | refine bodyPost_end (results_none rfl _ _ _) rfl ?_)
        refine ⟨rfl, ⟨fun h => (by rw [HXB.out] at h; cases h), fun _ => ?_⟩, HFr.out.drewN _⟩
        obtain ⟨hen, q, hpw, hr⟩ := HPE.out
        exact ⟨hen, q, hpw.drewN _, hr⟩
end Go.Proofs.Ytchdpjgncojhaaa
