/- Package super: New, Kids, Over, Down. -/
import Derived.Test.YtkkfjhaknbaiaaaSuper2
set_option maxRecDepth 100000
set_option linter.unusedVariables false
set_option linter.unusedSimpArgs false
namespace Go.Proofs.Ytkkfjhaknbaiaaa.Super
open Go Go.Proofs.Ytkkfjhaknbaiaaa.Eng Go.RowKit
structure SupS where
  strategy : Int
  most : Int
  window : Int
  kids : List (Bool × Bool)
  past : List Int
  last : Int
  over : Bool
theorem cloneKids (w : World) (v : Value) (xs : List _) (hx : Rd enK okK 2 w v xs) (hl : xs.length ≤ 1000000000) : Fc Try.prog 50 #[v] w (fun u w' => Sat (froz w) w' [Sl 35 2 enK u xs]) := by
  refine Fc.of Try.func50 rfl (by kernel_rfl) ?_
  have H := Sat.start w
  have hx := hx.fz
  rcases FSl.nilOr hx with ⟨EN1, EN2⟩ | ⟨b1, c1, V1⟩
  · subst EN1
    subst EN2
    refine rSlNil rfl ?_
    refine cT rfl ?_
    refine Done.mk ?_
    replace H := H.sl0 (en := enK) (s := 2) (35) (fun _ => rfl)
    exact H
  subst V1
  refine rSlNil rfl ?_
  refine cF rfl ?_
  refine rBuildSliceS H rfl rfl rfl rfl ?_
  clear H
  intro p1 w1 H
  refine H.ptSl (n := 0) (en := enK) (s := 2) 0 rfl [] rfl rfl (fun _ => rfl) rfl ?_
  clear H
  intro H
  refine rApR 2 H 0 rfl (H.rd hx) (fun y _ => rfl) rfl rfl rfl (by (simp only [List.length_append, List.length_set, List.length_cons, List.length_nil]; omega)) (by (simp only [List.length_append, List.length_set, List.length_cons, List.length_nil]; omega)) ?_
  intro v1
  clear H
  intro w2 H
  clear w1
  refine Done.mk ?_
  exact H
abbrev supC (s : SupS) (kv pv : Value) : List Value := [.int .i64 s.strategy, .int .i64 s.most, .int .i64 s.window, kv, pv, .int .i64 s.last, .bool s.over]
theorem kids {g : Glob} {w : World} {l : List As} {p : Nat} {kv pv : Value} {s : SupS} (H : Sat g w (Pt p (supC s kv pv) 104 :: Sl 35 2 enK kv s.kids :: l)) (hl : s.kids.length ≤ 8) :
    Fc Try.prog 36 #[.pointer (some ⟨p, 0, none⟩)] w (fun u w' => Sat g w' (Sl 35 2 enK u s.kids :: Pt p (supC s kv pv) 104 :: Sl 35 2 enK kv s.kids :: l)) := by
  refine Fc.of Try.func36 rfl (by kernel_rfl) ?_
  refine rFieldAt rfl ?_
  refine rLd (H.at 0 rfl) 3 rfl rfl rfl ?_
  refine CallP.mk (Fc.imp (Go.Proofs.Ytkkfjhaknbaiaaa.Super.cloneKids _ _ _ (H.rdo 1 rfl ?_) ?_) ?_)
  · exact fun _ _ => trivial
  · omega
  rintro v' w1 H'
  refine H.mergeK H' ?_
  clear H H'
  intro H
  refine Done.mk ?_
  exact H
theorem over {g : Glob} {w : World} {l : List As} {p : Nat} {kv pv : Value} {s : SupS} (H : Sat g w (Pt p (supC s kv pv) 104 :: l)) :
    Fc Try.prog 38 #[.pointer (some ⟨p, 0, none⟩)] w (fun u w' => u = .bool s.over ∧ w' = w) := by
  refine Fc.of Try.func38 rfl (by kernel_rfl) ?_
  refine rFieldAt rfl ?_
  refine rLd (H.at 0 rfl) 6 rfl rfl rfl ?_
  refine Done.mk ?_
  exact ⟨rfl, rfl⟩
def enB (b : Bool) : List Value := [.bool b]
def okB (_ : Bool) : Prop := True
theorem new (w : World) (s : Int) (v : Value) (xs : List Bool) (most window : Int) (hx : Rd enB okB 1 w v xs) :
    Fc Try.prog 35 #[.int .i64 s, v, .int .i64 most, .int .i64 window] w (fun r w' => (8 < xs.length ∧ r = .tuple #[.pointer none, .int .i64 2] ∧ Sat (froz w) w' []) ∨ (¬ (xs.length ≤ 8 ∧ isSt s ∧ 0 ≤ most ∧ most ≤ 64 ∧ isT window) ∧ r = .tuple #[.pointer none, .int .i64 1] ∧ Sat (froz w) w' []) ∨
      ((xs.length ≤ 8 ∧ isSt s ∧ 0 ≤ most ∧ most ≤ 64 ∧ isT window) ∧ ∃ p kv, r = .tuple #[.pointer (some ⟨p, 0, none⟩), .int .i64 0] ∧ Sat (froz w) w' [Pt p (supC ⟨s, most, window, xs.map (fun k => (true, k)), [], 0, false⟩ kv (.slice none 0 0)) 104, Sl 35 2 enK kv (xs.map (fun k => (true, k)))])) := by
  refine Fc.of Try.func35 rfl (by kernel_rfl) ?_
  have H := Sat.start w
  have hx := hx.fz
  refine rLenF hx rfl ?_
  refine cI (fun c1 => ?_) (fun c1 => ?_)
  · replace c1 := vLt_t (c1)
    refine Done.mk ?_
    refine (Or.inl ?_)
    refine ⟨?_, ?_⟩
    · omega
    refine ⟨?_, ?_⟩
    · rfl
    exact H
  replace c1 := vLt_f (c1)
  refine CallP.mk (Fc.imp (Go.Proofs.Ytkkfjhaknbaiaaa.Super.isStrategy _ _) ?_)
  rintro _ _ ⟨⟨b1, ⟨rfl, h1⟩⟩, rfl⟩
  refine br (fun c2 => ?_) (fun c2 => ?_)
  · replace c2 := iff_f h1 (not_t (c2))
    refine cT rfl ?_
    refine Done.mk ?_
    refine (Or.inr (Or.inl ?_))
    refine ⟨?_, ?_⟩
    · rintro ⟨x0_1, x1_1, x2_1, x3_1, x4_1⟩
      contradiction
    refine ⟨?_, ?_⟩
    · rfl
    exact H
  replace c2 := h1.1 (not_f (c2))
  refine br (fun c3 => ?_) (fun c3 => ?_)
  · replace c3 := vLt_t (c3)
    refine cT rfl ?_
    refine Done.mk ?_
    refine (Or.inr (Or.inl ?_))
    refine ⟨?_, ?_⟩
    · rintro ⟨x0_1, x1_1, x2_1, x3_1, x4_1⟩
      omega
    refine ⟨?_, ?_⟩
    · rfl
    exact H
  replace c3 := vLt_f (c3)
  refine br (fun c4 => ?_) (fun c4 => ?_)
  · replace c4 := vLt_t (c4)
    refine cT rfl ?_
    refine Done.mk ?_
    refine (Or.inr (Or.inl ?_))
    refine ⟨?_, ?_⟩
    · rintro ⟨x0_1, x1_1, x2_1, x3_1, x4_1⟩
      omega
    refine ⟨?_, ?_⟩
    · rfl
    exact H
  replace c4 := vLt_f (c4)
  refine CallP.mk (Fc.imp (Go.Proofs.Ytkkfjhaknbaiaaa.Super.isTime _ _) ?_)
  rintro _ _ ⟨⟨b2, ⟨rfl, h2⟩⟩, rfl⟩
  refine cI (fun c5 => ?_) (fun c5 => ?_)
  · replace c5 := iff_f h2 (not_t (c5))
    refine Done.mk ?_
    refine (Or.inr (Or.inl ?_))
    refine ⟨?_, ?_⟩
    · rintro ⟨x0_1, x1_1, x2_1, x3_1, x4_1⟩
      contradiction
    refine ⟨?_, ?_⟩
    · rfl
    exact H
  replace c5 := h2.1 (not_f (c5))
  refine rBuild rfl rfl rfl ?_
  refine rBoxS H ?_
  clear H
  intro p1 w1 H
  refine rLenF hx rfl ?_
  have hg : xs.length ≤ 8 ∧ isSt s ∧ 0 ≤ most ∧ most ≤ 64 ∧ isT window := ⟨by omega, by assumption, by omega, by omega, by assumption⟩
  replace H := H.sl0 (en := enK) (s := 2) 35 (fun _ => rfl)
  refine LoopP.rule (α := Nat × Value) (0, .slice none 0 0) (fun x => [(39, .int .i64 x.1)]) (fun x w' => x.1 ≤ xs.length ∧ Sat (froz w) w' [Pt p1 (supC ⟨s, most, window, [], [], 0, false⟩ x.2 (.slice none 0 0)) 104, Sl 35 2 enK x.2 ((xs.take x.1).map (fun k => (true, k)))]) (fun x => xs.length - x.1) (mt_cons rfl mt_nil) ⟨Nat.zero_le _, H.fronts [1] (fun H => H)⟩ ?_
  clear H
  rintro ⟨i, kv⟩ f w1 ⟨hi, H⟩
  simp only at hi H ⊢
  have htl : ((xs.take i).map (fun k => (true, k))).length ≤ 8 := by simp; omega
  refine cI (fun c6 => ?_) (fun c6 => ?_)
  · replace c6 := vLt_t (c6)
    refine bk ?_
    obtain ⟨x1, hx1⟩ : ∃ x, (xs)[(i)]? = some x := ⟨_, List.getElem?_eq_getElem (by omega)⟩
    obtain ⟨b3, o1, E1, F1, hok1⟩ := FSl.elt hx hx1
    refine rIxE E1 rfl rfl rfl ?_
    refine rLd (H.fat F1) 0 rfl rfl rfl ?_
    refine rFieldAt rfl ?_
    refine rLd (H.at 0 rfl) 3 rfl rfl rfl ?_
    refine rBuild rfl rfl rfl ?_
    refine rBuildSliceS H rfl rfl rfl rfl ?_
    clear H
    intro p2 w2 H
    clear w1
    refine rApS (ys := [⟨_, _⟩]) 2 H 2 rfl (H.at 0 rfl) rfl (fun y _ => rfl) rfl rfl rfl (by omega) (by omega) ?_
    intro v1
    clear H
    intro w3 H
    clear w2
    refine rFieldAt rfl ?_
    refine rStS H 1 rfl rfl rfl (H.one 2 rfl) ?_
    clear H
    intro w2 H
    clear w3
    refine eqI64 (by omega) ?_
    refine Nxt.mk (i + 1, v1) (mt_i rfl (by first | omega | (simp only; omega) | (simp; omega)) (mt_nil)) ?_ ?_
    · refine ⟨?_, ?_⟩
      · omega
      refine H.fronts [2, 2] ?_
      clear H
      intro H
      refine H.firsts 2 ?_
      clear H
      intro H
      refine H.cg (cgC rfl (cgC (cgSl ?_) (rfl)))
      (rw [take_succ' hx1, List.map_append]; rfl)
    omega
  replace c6 := vLt_f (c6)
  refine Done.mk ?_
  refine (Or.inr (Or.inr ?_))
  refine ⟨?_, ?_⟩
  · assumption
  refine ⟨p1, kv, ?_⟩
  refine ⟨?_, ?_⟩
  · rfl
  refine H.cg (cgC rfl (cgC (cgSl ?_) (rfl)))
  rw [List.take_of_length_le (by omega)]
def runs (b : Bool) (xs : List (Bool × Bool)) (i : Nat) : List (Bool × Bool) := xs.set i (b, keepAt xs i)
def setAll (b : Bool) (is : List Int) (xs : List (Bool × Bool)) : List (Bool × Bool) := is.foldl (fun xs i => runs b xs i.toNat) xs
def allOff (xs : List (Bool × Bool)) (j : Nat) : List (Bool × Bool) := xs.take (xs.length - j) ++ (xs.drop (xs.length - j)).map (fun k => (false, k.2))
theorem setAll_len (b : Bool) (is : List Int) (xs : List (Bool × Bool)) : (setAll b is xs).length = xs.length := by
  unfold setAll
  induction is generalizing xs with
  | nil => rfl
  | cons i is ih => rw [List.foldl_cons, ih]; simp [runs]
theorem setAll_snoc (b : Bool) (is : List Int) (i : Int) (xs : List (Bool × Bool)) : setAll b (is ++ [i]) xs = runs b (setAll b is xs) i.toNat := by
  unfold setAll; rw [List.foldl_append]; rfl
theorem allOff_len (xs : List (Bool × Bool)) (j : Nat) : (allOff xs j).length = xs.length := by simp [allOff]
theorem runs_of {b : Bool} {xs : List (Bool × Bool)} {i : Nat} {x : Bool × Bool} (h : xs[i]? = some x) : runs b xs i = xs.set i (b, x.2) := by rw [runs, keepAt_of h]
theorem allOff_get (xs : List (Bool × Bool)) (j k : Nat) : (allOff xs j)[k]? = (xs[k]?).map (fun x => if k < xs.length - j then x else (false, x.2)) := by
  unfold allOff
  by_cases h : k < xs.length - j
  · rw [List.getElem?_append_left (by rw [List.length_take]; omega), List.getElem?_take, if_pos h]
    cases xs[k]? <;> simp [h]
  · rw [List.getElem?_append_right (by simp; omega), List.getElem?_map, List.getElem?_drop]
    have e : xs.length - j + (k - (xs.take (xs.length - j)).length) = k := by simp; omega
    rw [e]; cases xs[k]? <;> simp [h]
theorem allOff_next {xs : List (Bool × Bool)} {j : Nat} (hj : j < xs.length) : (allOff xs j)[xs.length - 1 - j]? = xs[xs.length - 1 - j]? := by
  rw [allOff_get]
  have h : xs.length - 1 - j < xs.length - j := by omega
  simp only [h, if_true, Option.map_id']
theorem allOff_step {xs : List (Bool × Bool)} {j : Nat} (hj : j < xs.length) {x : Bool × Bool} (hx : (allOff xs j)[xs.length - 1 - j]? = some x) : allOff xs (j + 1) = (allOff xs j).set (xs.length - 1 - j) (false, x.2) := by
  apply List.ext_getElem?
  intro k
  rw [List.getElem?_set, allOff_get, allOff_get, allOff_len]
  rw [allOff_next hj] at hx
  by_cases h : xs.length - 1 - j = k
  · subst h
    have h1 : ¬ (xs.length - 1 - j < xs.length - (j + 1)) := by omega
    rw [if_pos rfl, if_pos (by omega), hx, Option.map_some, if_neg h1]
  · rw [if_neg h]
    cases xs[k]? with
    | none => rfl
    | some y =>
      rw [Option.map_some, Option.map_some]
      by_cases h3 : k < xs.length - j
      · rw [if_pos (by omega), if_pos h3]
      · rw [if_neg (by omega), if_neg h3]
theorem allOff_f {xs : List (Bool × Bool)} {j : Nat} (hj : j < xs.length) {x : Bool × Bool} (hx : (allOff xs j)[xs.length - 1 - j]? = some x) (hr : x.1 = false) : allOff xs (j + 1) = allOff xs j := by
  rw [allOff_step hj hx]
  apply List.ext_getElem?
  intro k
  rw [List.getElem?_set]
  split
  · rename_i h; subst h; rw [hx, if_pos (List.getElem?_eq_some_iff.1 hx).1, ← hr]
  · rfl
theorem allOff_all (xs : List (Bool × Bool)) : allOff xs xs.length = xs.map (fun k => (false, k.2)) := by simp [allOff]
theorem pick_cons (f0 : Nat) (p : Nat → Bool) (i : Nat) : pick f0 p (i + 1) = (if p f0 then [(f0 : Int)] else []) ++ pick (f0 + 1) p i := by
  unfold pick
  rw [List.range_succ_eq_map, List.map_cons, List.map_map, List.filter_cons, Nat.zero_add]
  have : List.map ((fun x => x + f0) ∘ Nat.succ) (List.range i) = List.map (fun x => x + (f0 + 1)) (List.range i) := by
    congr 1; funext x; simp; omega
  rw [this]
  split <;> simp
/-- What the over-loop has stopped after j steps. -/
def offL (xs : List (Bool × Bool)) (j : Nat) : List Int := (pick (xs.length - j) (runsAt xs) j).reverse
theorem offL_t {xs : List (Bool × Bool)} {j : Nat} (hj : j < xs.length) {x : Bool × Bool} (hx : (allOff xs j)[xs.length - 1 - j]? = some x) (hr : x.1 = true) : offL xs (j + 1) = offL xs j ++ [(xs.length : Int) - 1 - j] := by
  rw [allOff_next hj, show xs.length - 1 - j = xs.length - (j + 1) by omega] at hx
  have h0 : runsAt xs (xs.length - (j + 1)) = true := by rw [runsAt_of hx]; exact hr
  unfold offL
  rw [pick_cons, if_pos h0, List.reverse_append, show xs.length - (j + 1) + 1 = xs.length - j by omega]
  congr 1
  simp; omega
theorem offL_f {xs : List (Bool × Bool)} {j : Nat} (hj : j < xs.length) {x : Bool × Bool} (hx : (allOff xs j)[xs.length - 1 - j]? = some x) (hr : x.1 = false) : offL xs (j + 1) = offL xs j := by
  rw [allOff_next hj, show xs.length - 1 - j = xs.length - (j + 1) by omega] at hx
  have h0 : runsAt xs (xs.length - (j + 1)) = false := by rw [runsAt_of hx]; exact hr
  unfold offL
  rw [pick_cons, if_neg (by rw [h0]; nofun), List.nil_append, show xs.length - (j + 1) + 1 = xs.length - j by omega]
def pastS (S : SupS) (now : Int) : List Int := recent S.past now S.window
/-- What Down makes: the supervisor after it, who is stopped, who is started, is it over, the error. -/
structure DownR where
  S : SupS
  stop : List Int
  start : List Int
  over : Bool
  e : Int
open Classical in
noncomputable def downS (S : SupS) (kid now : Int) : DownR :=
  if S.over = true then ⟨S, [], [], false, 15⟩
  else if kid < 0 ∨ (S.kids.length : Int) ≤ kid ∨ ¬ isT now ∨ now < S.last then ⟨S, [], [], false, 1⟩
  else if runsAt S.kids kid.toNat = false then ⟨S, [], [], false, 13⟩
  else if keepAt S.kids kid.toNat = false then ⟨{ S with last := now, kids := runs false S.kids kid.toNat }, [], [], false, 0⟩
  else if S.most < (pastS S now).length then ⟨{ S with last := now, kids := allOff (runs false S.kids kid.toNat) S.kids.length, past := pastS S now, over := true }, offL (runs false S.kids kid.toNat) S.kids.length, [], true, 0⟩
  else ⟨{ S with last := now, kids := setAll true (startL S.strategy (runs false S.kids kid.toNat) kid.toNat) (setAll false (stopL S.strategy (runs false S.kids kid.toNat) kid.toNat) (runs false S.kids kid.toNat)), past := pastS S now },
      stopL S.strategy (runs false S.kids kid.toNat) kid.toNat, startL S.strategy (runs false S.kids kid.toNat) kid.toNat, false, 0⟩
structure SupI (S : SupS) : Prop where
  st : isSt S.strategy
  most : 0 ≤ S.most ∧ S.most ≤ 64
  win : isT S.window
  kids : S.kids.length ≤ 8
  past : ∀ x ∈ S.past, isT x
  pastL : S.over = false → S.past.length ≤ 64
theorem down {g : Glob} {w : World} {l : List As} {p : Nat} {kv pv : Value} {S : SupS} {kid now : Int} (H : Sat g w (Pt p (supC S kv pv) 104 :: Sl 35 2 enK kv S.kids :: Sl 3 1 enI pv S.past :: l)) (hI : SupI S) :
    Fc Try.prog 37 #[.pointer (some ⟨p, 0, none⟩), .int .i64 kid, .int .i64 now] w (fun r w' => ∃ R, R = downS S kid now ∧ ∃ u t pv', r = .tuple #[u, t, .bool R.over, .int .i64 R.e] ∧
      Sat g w' (Pt p (supC R.S kv pv') 104 :: Sl 35 2 enK kv R.S.kids :: Sl 3 1 enI pv' R.S.past :: Sl 3 1 enI u R.stop :: Sl 3 1 enI t R.start :: l)) := by
  refine Fc.of Try.func37 rfl (by kernel_rfl) ?_
  have hk8 := hI.kids
  refine bk ?_
  refine rFieldAt rfl ?_
  refine rLd (H.at 0 rfl) 6 rfl rfl rfl ?_
  refine cI (fun c1 => ?_) (fun c1 => ?_)
  rotate_left 1
  focus
    refine br (fun c2 => ?_) (fun c2 => ?_)
    focus
      replace c2 := vLt_t (c2)
      refine cT rfl ?_
    rotate_left 1
    focus
      replace c2 := vLt_f (c2)
      refine rFieldAt rfl ?_
      refine rLd (H.at 0 rfl) 3 rfl rfl rfl ?_
      refine rLenS H 1 rfl rfl ?_
      refine br (fun c3 => ?_) (fun c3 => ?_)
      focus
        replace c3 := vLe_t (c3)
        refine cT rfl ?_
      rotate_left 1
      focus
        replace c3 := vLe_f (c3)
        refine CallP.mk (Fc.imp (Go.Proofs.Ytkkfjhaknbaiaaa.Super.isTime _ _) ?_)
        rintro _ _ ⟨⟨b1, ⟨rfl, h1⟩⟩, rfl⟩
        refine br (fun c4 => ?_) (fun c4 => ?_)
        focus
          replace c4 := iff_f h1 (not_t (c4))
          refine cT rfl ?_
        rotate_left 1
        focus
          replace c4 := h1.1 (not_f (c4))
          refine rFieldAt rfl ?_
          refine rLd (H.at 0 rfl) 5 rfl rfl rfl ?_
          refine cI (fun c5 => ?_) (fun c5 => ?_)
          focus
            replace c5 := vLt_t (c5)
          rotate_left 1
          focus
            replace c5 := vLt_f (c5)
            refine rFieldAt rfl ?_
            refine rLd (H.at 0 rfl) 3 rfl rfl rfl ?_
            obtain ⟨x1, hx1⟩ : ∃ x, (S.kids)[(kid).toNat]? = some x := ⟨_, List.getElem?_eq_getElem (by omega)⟩
            obtain ⟨b2, o1, E1⟩ := H.elt 1 rfl (kid).toNat (by omega)
            refine rIxE E1 (by omega) rfl rfl ?_
            refine rFieldAt rfl ?_
            refine rLd (H.el 1 rfl E1 hx1) 0 rfl rfl rfl ?_
            refine cI (fun c6 => ?_) (fun c6 => ?_)
            focus
              replace c6 := not_t (c6)
            rotate_left 1
            focus
              replace c6 := not_f (c6)
              refine rFieldAt rfl ?_
              refine rStS H 0 rfl rfl rfl rfl ?_
              clear H
              intro w1 H
              refine rFieldAt rfl ?_
              refine rLd (H.at 0 rfl) 3 rfl rfl rfl ?_
              refine rIxE E1 (by omega) rfl rfl ?_
              refine rFieldAt rfl ?_
              refine rStE H 1 rfl E1 hx1 0 ⟨(false), (x1).snd⟩ rfl rfl rfl rfl ?_
              clear H
              intro w2 H
              clear w1
              refine rFieldAt rfl ?_
              refine rLd (H.at 0 rfl) 3 rfl rfl rfl ?_
              refine rIxE E1 (by omega) rfl rfl ?_
              refine rFieldAt rfl ?_
              have hx2 : (S.kids.set kid.toNat (false, x1.snd))[kid.toNat]? = some _ := setSelf hx1
              refine rLd (H.el 1 rfl E1 hx2) 1 rfl rfl rfl ?_
              refine cI (fun c7 => ?_) (fun c7 => ?_)
              focus
                replace c7 := not_t (c7)
              rotate_left 1
              focus
                replace c7 := not_f (c7)
              rotate_left 1
            rotate_left 2
          rotate_left 3
        rotate_left 4
      rotate_left 5
    rotate_left 6
  rotate_left 7
  · have e : downS S kid now = ⟨S, [], [], false, 15⟩ := by unfold downS; rw [if_pos (by assumption)]
    rw [e]
    refine Done.mk ?_
    refine ⟨{ S := S, stop := [], start := [], over := false, e := 15 }, ?_⟩
    refine ⟨?_, ?_⟩
    · rfl
    refine ⟨Value.slice none 0 0, Value.slice none 0 0, pv, ?_⟩
    refine ⟨?_, ?_⟩
    · rfl
    replace H := H.sl0 (en := enI) (s := 1) (3) (fun _ => rfl)
    replace H := H.sl0 (en := enI) (s := 1) (3) (fun _ => rfl)
    refine H.fronts [1, 1, 4, 4, 4] ?_
    clear H
    intro H
    exact H
  · have e : downS S kid now = ⟨S, [], [], false, 1⟩ := by unfold downS; rw [if_neg (by rw [c1]; nofun), if_pos (by omega)]
    rw [e]
    refine Done.mk ?_
    refine ⟨{ S := S, stop := [], start := [], over := false, e := 1 }, ?_⟩
    refine ⟨?_, ?_⟩
    · rfl
    refine ⟨Value.slice none 0 0, Value.slice none 0 0, pv, ?_⟩
    refine ⟨?_, ?_⟩
    · rfl
    replace H := H.sl0 (en := enI) (s := 1) (3) (fun _ => rfl)
    replace H := H.sl0 (en := enI) (s := 1) (3) (fun _ => rfl)
    refine H.fronts [1, 1, 4, 4, 4] ?_
    clear H
    intro H
    exact H
  · have e : downS S kid now = ⟨S, [], [], false, 1⟩ := by unfold downS; rw [if_neg (by rw [c1]; nofun), if_pos (by omega)]
    rw [e]
    refine Done.mk ?_
    refine ⟨{ S := S, stop := [], start := [], over := false, e := 1 }, ?_⟩
    refine ⟨?_, ?_⟩
    · rfl
    refine ⟨Value.slice none 0 0, Value.slice none 0 0, pv, ?_⟩
    refine ⟨?_, ?_⟩
    · rfl
    replace H := H.sl0 (en := enI) (s := 1) (3) (fun _ => rfl)
    replace H := H.sl0 (en := enI) (s := 1) (3) (fun _ => rfl)
    refine H.fronts [1, 1, 4, 4, 4] ?_
    clear H
    intro H
    exact H
  · have e : downS S kid now = ⟨S, [], [], false, 1⟩ := by unfold downS; rw [if_neg (by rw [c1]; nofun), if_pos (.inr (.inr (.inl c4)))]
    rw [e]
    refine Done.mk ?_
    refine ⟨{ S := S, stop := [], start := [], over := false, e := 1 }, ?_⟩
    refine ⟨?_, ?_⟩
    · rfl
    refine ⟨Value.slice none 0 0, Value.slice none 0 0, pv, ?_⟩
    refine ⟨?_, ?_⟩
    · rfl
    replace H := H.sl0 (en := enI) (s := 1) (3) (fun _ => rfl)
    replace H := H.sl0 (en := enI) (s := 1) (3) (fun _ => rfl)
    refine H.fronts [1, 1, 4, 4, 4] ?_
    clear H
    intro H
    exact H
  · have e : downS S kid now = ⟨S, [], [], false, 1⟩ := by unfold downS; rw [if_neg (by rw [c1]; nofun), if_pos (by omega)]
    rw [e]
    refine Done.mk ?_
    refine ⟨{ S := S, stop := [], start := [], over := false, e := 1 }, ?_⟩
    refine ⟨?_, ?_⟩
    · rfl
    refine ⟨Value.slice none 0 0, Value.slice none 0 0, pv, ?_⟩
    refine ⟨?_, ?_⟩
    · rfl
    replace H := H.sl0 (en := enI) (s := 1) (3) (fun _ => rfl)
    replace H := H.sl0 (en := enI) (s := 1) (3) (fun _ => rfl)
    refine H.fronts [1, 1, 4, 4, 4] ?_
    clear H
    intro H
    exact H
  · have e : downS S kid now = ⟨S, [], [], false, 13⟩ := by
      unfold downS; rw [if_neg (by rw [c1]; nofun), if_neg (by rintro (h | h | h | h) <;> first | omega | contradiction), if_pos (by rw [runsAt_of hx1]; exact c6)]
    rw [e]
    refine Done.mk ?_
    refine ⟨{ S := S, stop := [], start := [], over := false, e := 13 }, ?_⟩
    refine ⟨?_, ?_⟩
    · rfl
    refine ⟨Value.slice none 0 0, Value.slice none 0 0, pv, ?_⟩
    refine ⟨?_, ?_⟩
    · rfl
    replace H := H.sl0 (en := enI) (s := 1) (3) (fun _ => rfl)
    replace H := H.sl0 (en := enI) (s := 1) (3) (fun _ => rfl)
    refine H.fronts [1, 1, 4, 4, 4] ?_
    clear H
    intro H
    exact H
  · have e : downS S kid now = ⟨{ S with last := now, kids := runs false S.kids kid.toNat }, [], [], false, 0⟩ := by
      unfold downS; rw [if_neg (by rw [c1]; nofun), if_neg (by rintro (h | h | h | h) <;> first | omega | contradiction), if_neg (by rw [runsAt_of hx1, c6]; nofun), if_pos (by rw [keepAt_of hx1]; exact c7)]
    rw [e, runs_of hx1]
    refine Done.mk ?_
    refine ⟨{ S := { strategy := S.strategy, most := S.most, window := S.window, kids := S.kids.set kid.toNat (false, x1.snd), past := S.past, last := now, over := S.over }, stop := [], start := [], over := false, e := 0 }, ?_⟩
    refine ⟨?_, ?_⟩
    · rfl
    refine ⟨Value.slice none 0 0, Value.slice none 0 0, pv, ?_⟩
    refine ⟨?_, ?_⟩
    · rfl
    replace H := H.sl0 (en := enI) (s := 1) (3) (fun _ => rfl)
    replace H := H.sl0 (en := enI) (s := 1) (3) (fun _ => rfl)
    refine H.fronts [1, 1, 4, 4, 4] ?_
    clear H
    intro H
    exact H
  obtain ⟨k, rfl⟩ : ∃ k : Nat, kid = k := ⟨kid.toNat, by omega⟩
  have hlt : k < S.kids.length := by omega
  rw [Int.toNat_natCast] at hx1
  have hks := runs_of (b := false) hx1
  obtain ⟨ks, hke⟩ : ∃ ks, ks = runs false S.kids k := ⟨_, rfl⟩
  rw [Int.toNat_natCast] at H
  rw [← hks, ← hke] at H
  have hkl : ks.length = S.kids.length := by rw [hke]; simp [runs]
  have hkk : keepAt ks k = true := by
    rw [hke, hks, keepAt_of (setSelf hx1)]; exact c7
  have hpl := hI.pastL c1
  have hmo := hI.most; have hwi := hI.win; have hpa := hI.past; have hst := hI.st
  clear hx2 E1
  have hps : pastS S now = recent S.past now S.window := rfl
  have hD : downS S k now = if S.most < (pastS S now).length then ⟨{ S with last := now, kids := allOff ks ks.length, past := pastS S now, over := true }, offL ks ks.length, [], true, 0⟩
    else ⟨{ S with last := now, kids := setAll true (startL S.strategy ks k) (setAll false (stopL S.strategy ks k) ks), past := pastS S now }, stopL S.strategy ks k, startL S.strategy ks k, false, 0⟩ := by
    unfold downS
    rw [if_neg (by rw [c1]; nofun), if_neg (by rintro (h | h | h | h) <;> first | omega | contradiction), if_neg (by rw [Int.toNat_natCast, runsAt_of hx1, c6]; nofun), if_neg (by rw [Int.toNat_natCast, keepAt_of hx1, show x1.2 = true from c7]; nofun), Int.toNat_natCast, ← hke, hkl]
  refine drawzS H [] [(0, .pure), (1, .pure), (2, .pure), (3, .pure), (4, .held), (5, .pure), (6, .pure), (7, .pure), (8, .pure), (9, .held), (10, .pure), (11, .pure), (12, .pure), (13, .held), (14, .free), (15, .pure), (16, .pure), (17, .pure), (18, .pure), (19, .pure), (20, .pure), (21, .free), (22, .pure)] mixed (by kernel_rfl) (by kernel_rfl) ?_
  clear H
  intro w1 H
  clear w2
  refine tk (fun wx HS => rFieldAt rfl ⟨rfl, rfl⟩) ?_
  refine tk (fun wx HS => rLd (HS.at 0 rfl) 4 rfl rfl rfl ⟨rfl, rfl⟩) ?_
  refine tk (fun wx HS => rFieldAt rfl ⟨rfl, rfl⟩) ?_
  refine tk (fun wx HS => rLd (HS.at 0 rfl) 1 rfl rfl rfl ⟨rfl, rfl⟩) ?_
  refine tk (fun wx HS => rFieldAt rfl ⟨rfl, rfl⟩) ?_
  refine tk (fun wx HS => rLd (HS.at 0 rfl) 2 rfl rfl rfl ⟨rfl, rfl⟩) ?_
  refine CallP.mk (Fc.imp (Go.Proofs.Ytkkfjhaknbaiaaa.Super.past _ _ _ _ _ _ (H.rdo 2 rfl ?_) ?_ ?_ ?_ ?_ ?_) ?_)
  · exact fun _ _ => trivial
  · assumption
  · assumption
  · assumption
  · assumption
  · assumption
  rintro _ w2 ⟨u1, ⟨b3, ⟨rfl, ⟨h2, H'⟩⟩⟩⟩
  refine H.mergeK H' ?_
  clear H H'
  intro H
  refine tk (fun wx HS => rFieldAt rfl ⟨rfl, rfl⟩) ?_
  refine rStS H 1 rfl rfl rfl (H.one 0 rfl) ?_
  clear H
  intro w3 H
  clear w2
  refine cI (fun c8 => ?_) (fun c8 => ?_)
  focus
    replace c8 := h2.1 (c8)
    refine rFieldAt rfl ?_
    refine rStS H 1 rfl rfl rfl rfl ?_
    clear H
    intro w2 H
    clear w3
    refine rFieldAt rfl ?_
    refine rLd (H.at 1 rfl) 3 rfl rfl rfl ?_
    refine rLenS H 2 rfl rfl ?_
    refine eqI64 (by omega) ?_
  rotate_left 1
  focus
    replace c8 := iff_f h2 (c8)
    refine drawzS H [] [(0, .pure), (1, .pure), (2, .pure), (3, .held), (4, .pure), (5, .pure), (6, .pure), (7, .held), (8, .pure), (9, .free), (10, .pure), (11, .pure), (12, .pure), (13, .pure), (14, .pure), (15, .pure)] mixed (by kernel_rfl) (by kernel_rfl) ?_
    clear H
    intro w2 H
    clear w3
    refine tk (fun wx HS => rFieldAt rfl ⟨rfl, rfl⟩) ?_
    refine tk (fun wx HS => rLd (HS.at 1 rfl) 0 rfl rfl rfl ⟨rfl, rfl⟩) ?_
    refine tk (fun wx HS => rFieldAt rfl ⟨rfl, rfl⟩) ?_
    refine tk (fun wx HS => rLd (HS.at 1 rfl) 3 rfl rfl rfl ⟨rfl, rfl⟩) ?_
    refine CallP.mk (Fc.imp (Go.Proofs.Ytkkfjhaknbaiaaa.Super.plan _ _ _ _ _ (H.rdo 2 rfl ?_) ?_ ?_ ?_ ?_) ?_)
    · exact fun _ _ => trivial
    · omega
    · assumption
    · omega
    · assumption
    rintro _ w3 ⟨u2, ⟨t1, ⟨rfl, H'⟩⟩⟩
    refine H.mergeK H' ?_
    clear H H'
    intro H
    refine rLenS H 0 rfl rfl ?_
  rotate_left 1
  · rw [hD, hps, if_pos c8]
    replace H := H.sl0 (en := enI) (s := 1) 3 (fun _ => rfl)
    have h0 : allOff ks 0 = ks := by simp [allOff]
    refine LoopP.rule (α := Nat × Value) (0, .slice none 0 0) (fun x => [(10, .int .i64 ((ks.length : Int) - 1 - x.1)), (6, x.2)]) (fun x w' => x.1 ≤ ks.length ∧ Sat g w' (Sl 3 1 enI x.2 (offL ks x.1) :: Sl 3 1 enI u1 (recent S.past now S.window) :: Pt p [.int .i64 S.strategy, .int .i64 S.most, .int .i64 S.window, kv, u1, .int .i64 now, .bool true] 104 :: Sl 35 2 enK kv (allOff ks x.1) :: Sl 3 1 enI pv S.past :: l)) (fun x => ks.length - x.1) (mt_i rfl (by simp) (mt_cons rfl mt_nil)) ⟨Nat.zero_le _, by rw [h0]; exact H⟩ ?_
    clear H
    rintro ⟨i, vo⟩ f w1 ⟨hi, H⟩
    simp only at hi H ⊢
    have hal := allOff_len ks i
    have hol : (offL ks i).length ≤ i := by unfold offL; rw [List.length_reverse]; exact pick_len ..
    refine cI (fun c9 => ?_) (fun c9 => ?_)
    rotate_left
    · replace c9 := vLe_f (c9)
      refine Done.mk ?_
      refine ⟨{ S := { strategy := S.strategy, most := S.most, window := S.window, kids := allOff ks ks.length, past := recent S.past now S.window, last := now, over := true }, stop := offL ks ks.length, start := [], over := true, e := 0 }, ?_⟩
      refine ⟨?_, ?_⟩
      · rfl
      refine ⟨vo, Value.slice none 0 0, u1, ?_⟩
      refine ⟨?_, ?_⟩
      · rfl
      replace H := H.sl0 (en := enI) (s := 1) (3) (fun _ => rfl)
      refine H.fronts [0, 1, 2, 4, 4] ?_
      clear H
      intro H
      refine H.drop 5 ?_
      clear H
      intro H
      refine H.cg (cgC rfl (cgC (cgSl ?_) (cgC rfl (cgC (cgSl ?_) (cgC rfl (rfl))))))
      · rw [show i = ks.length by omega]
      rw [show i = ks.length by omega]
    replace c9 := vLe_t (c9)
    refine bk ?_
    refine rFieldAt rfl ?_
    refine rLd (H.at 2 rfl) 3 rfl rfl rfl ?_
    obtain ⟨x2, hx2⟩ : ∃ x, (allOff ks i)[(((ks.length) - 1) - (i))]? = some x := ⟨_, List.getElem?_eq_getElem (by omega)⟩
    obtain ⟨b4, o2, E1⟩ := H.elt 3 rfl (((ks.length) - 1) - (i)) (by omega)
    refine rIxE E1 (by omega) rfl rfl ?_
    refine rFieldAt rfl ?_
    refine rLd (H.el 3 rfl E1 hx2) 0 rfl rfl rfl ?_
    refine cI (fun c10 => ?_) (fun c10 => ?_)
    focus
      refine rBuildSliceS H rfl rfl rfl rfl ?_
      clear H
      intro p1 w3 H
      clear w1
      refine rApS (ys := [_]) 8 H 1 rfl (H.at 0 rfl) rfl (fun y _ => rfl) rfl rfl rfl (by omega) (by omega) ?_
      intro v1
      clear H
      intro w4 H
      clear w3
      refine rFieldAt rfl ?_
      refine rLd (H.at 3 rfl) 3 rfl rfl rfl ?_
      refine rIxE E1 (by omega) rfl rfl ?_
      refine rFieldAt rfl ?_
      refine rStE H 4 rfl E1 hx2 0 ⟨(false), (x2).snd⟩ rfl rfl rfl rfl ?_
      clear H
      intro w3 H
      clear w4
      refine eqI64 (by omega) ?_
    rotate_left 1
    focus
      refine eqI64 (by omega) ?_
    rotate_left 1
    · refine Nxt.mk (i + 1, v1) (mt_i rfl (by simp only; omega) (mt_cons rfl mt_nil)) ?_ (by simp only; omega)
      simp only
      refine ⟨?_, ?_⟩
      · omega
      refine H.fronts [5, 5, 5, 5, 5] ?_
      clear H
      intro H
      refine H.drop 5 ?_
      clear H
      intro H
      refine H.cg (cgC (cgSl ?_) (cgC rfl (cgC rfl (cgC (cgSl ?_) (cgC rfl (rfl))))))
      · exact (offL_t (by omega) (by assumption) (by assumption)).symm
      exact (allOff_step (by omega) (by assumption)).symm
    · refine Nxt.mk (i + 1, vo) (mt_i rfl (by simp only; omega) (mt_cons rfl mt_nil)) ?_ (by simp only; omega)
      simp only
      refine ⟨?_, ?_⟩
      · omega
      refine H.cg (cgC (cgSl ?_) (cgC rfl (cgC rfl (cgC (cgSl ?_) (cgC rfl (rfl))))))
      · exact (offL_f (by omega) (by assumption) (by assumption)).symm
      exact (allOff_f (by omega) (by assumption) (by assumption)).symm
  · rw [hD, hps, if_neg c8]
    have hb1 : ∀ x ∈ stopL S.strategy ks k, 0 ≤ x ∧ x < ks.length := by
      intro x hx
      obtain ⟨j, rfl, h1, h2, h3⟩ := pick_mem.1 (List.mem_reverse.1 hx)
      have := ends_le (strategy := S.strategy) (hkl ▸ hlt : k < ks.length)
      omega
    have hb2 : ∀ x ∈ startL S.strategy ks k, 0 ≤ x ∧ x < ks.length := by
      intro x hx
      obtain ⟨j, rfl, h1, h2, h3⟩ := pick_mem.1 hx
      have := ends_le (strategy := S.strategy) (hkl ▸ hlt : k < ks.length)
      omega
    obtain ⟨A, hA⟩ : ∃ A, A = stopL S.strategy ks k := ⟨_, rfl⟩
    obtain ⟨B, hB⟩ : ∃ B, B = startL S.strategy ks k := ⟨_, rfl⟩
    have hl1 : (stopL S.strategy ks k).length ≤ 8 := by
      unfold stopL; rw [List.length_reverse]
      have := ends_le (strategy := S.strategy) (hkl ▸ hlt : k < ks.length)
      exact Nat.le_trans (pick_len ..) (by omega)
    have hl2 : (startL S.strategy ks k).length ≤ 8 := by
      unfold startL
      have := ends_le (strategy := S.strategy) (hkl ▸ hlt : k < ks.length)
      exact Nat.le_trans (pick_len ..) (by omega)
    rw [← hA] at hb1 hl1 H ⊢
    rw [← hB] at hb2 hl2 H ⊢
    refine LoopP.rule (α := Nat) 0 (fun x => [(146, .int .i64 x)]) (fun x w' => x ≤ A.length ∧ Sat g w' (Sl 3 1 enI u2 A :: Sl 3 1 enI t1 B :: Sl 3 1 enI u1 (recent S.past now S.window) :: Pt p [.int .i64 S.strategy, .int .i64 S.most, .int .i64 S.window, kv, u1, .int .i64 now, .bool S.over] 104 :: Sl 35 2 enK kv (setAll false (A.take x) ks) :: Sl 3 1 enI pv S.past :: l)) (fun x => A.length - x) (mt_cons rfl mt_nil) ⟨Nat.zero_le _, H⟩ ?_
    clear H
    rintro i f w1 ⟨hi, H⟩
    simp only at hi H ⊢
    have hal := setAll_len false (A.take i) ks
    refine cI (fun c9 => ?_) (fun c9 => ?_)
    focus
      replace c9 := vLt_t (c9)
    rotate_left 1
    focus
      replace c9 := vLt_f (c9)
      refine rLenS H 1 rfl rfl ?_
    rotate_left 1
    · obtain ⟨x, hx⟩ : ∃ x, A[i]? = some x := ⟨_, List.getElem?_eq_getElem (by omega)⟩
      obtain ⟨m, rfl⟩ : ∃ m : Nat, x = m := ⟨x.toNat, by have := hb1 x (List.mem_of_getElem? hx); omega⟩
      have hm := hb1 _ (List.mem_of_getElem? hx)
      refine bk ?_
      obtain ⟨b4, o2, E1⟩ := H.elt 0 rfl (i) (by omega)
      refine rIxE E1 rfl rfl rfl ?_
      refine rLd (H.el 0 rfl E1 hx) 0 rfl rfl rfl ?_
      refine rFieldAt rfl ?_
      refine rLd (H.at 3 rfl) 3 rfl rfl rfl ?_
      obtain ⟨x2, hx2⟩ : ∃ x, (setAll false (List.take i A) ks)[(m)]? = some x := ⟨_, List.getElem?_eq_getElem (by omega)⟩
      obtain ⟨b5, o3, E2⟩ := H.elt 4 rfl (m) (by omega)
      refine rIxE E2 rfl rfl rfl ?_
      refine rFieldAt rfl ?_
      refine rStE H 4 rfl E2 hx2 0 ⟨(false), (x2).snd⟩ rfl rfl rfl rfl ?_
      clear H
      intro w4 H
      clear w1
      refine eqI64 (by omega) ?_
      refine Nxt.mk (i + 1) (mt_i rfl (by first | omega | (simp only; omega) | (simp; omega)) (mt_nil)) ?_ ?_
      · refine ⟨?_, ?_⟩
        · omega
        refine H.cg (cgC rfl (cgC rfl (cgC rfl (cgC rfl (cgC (cgSl ?_) (cgC rfl (rfl)))))))
        (rw [take_succ' hx, setAll_snoc, Int.toNat_natCast, runs_of (by assumption)]; done)
      omega
    · obtain rfl : i = A.length := by omega
      rw [List.take_length] at H hal
      obtain ⟨ks2, hk2⟩ : ∃ ks2, ks2 = setAll false A ks := ⟨_, rfl⟩
      rw [← hk2] at H hal ⊢
      refine LoopP.rule (α := Nat) 0 (fun x => [(160, .int .i64 x)]) (fun x w' => x ≤ B.length ∧ Sat g w' (Sl 3 1 enI u2 A :: Sl 3 1 enI t1 B :: Sl 3 1 enI u1 (recent S.past now S.window) :: Pt p [.int .i64 S.strategy, .int .i64 S.most, .int .i64 S.window, kv, u1, .int .i64 now, .bool S.over] 104 :: Sl 35 2 enK kv (setAll true (B.take x) ks2) :: Sl 3 1 enI pv S.past :: l)) (fun x => B.length - x) (mt_cons rfl mt_nil) ⟨Nat.zero_le _, H⟩ ?_
      clear H
      rintro i f w1 ⟨hi, H⟩
      try simp only at hi H ⊢
      have hal2 := setAll_len true (B.take i) ks2
      refine cI (fun c10 => ?_) (fun c10 => ?_)
      rotate_left
      · replace c10 := vLt_f (c10)
        refine Done.mk ?_
        refine ⟨{ S := { strategy := S.strategy, most := S.most, window := S.window, kids := setAll true B ks2, past := recent S.past now S.window, last := now, over := S.over }, stop := A, start := B, over := false, e := 0 }, ?_⟩
        refine ⟨?_, ?_⟩
        · rfl
        refine ⟨u2, t1, u1, ?_⟩
        refine ⟨?_, ?_⟩
        · rfl
        refine H.fronts [1, 1, 2, 4, 4] ?_
        clear H
        intro H
        refine H.drop 5 ?_
        clear H
        intro H
        refine H.cg (cgC rfl (cgC (cgSl ?_) (cgC rfl (cgC rfl (cgC rfl (rfl))))))
        (rw [show i = B.length by omega, List.take_length]; done)
      replace c10 := vLt_t (c10)
      · obtain ⟨x, hx⟩ : ∃ x, B[i]? = some x := ⟨_, List.getElem?_eq_getElem (by omega)⟩
        obtain ⟨m, rfl⟩ : ∃ m : Nat, x = m := ⟨x.toNat, by have := hb2 x (List.mem_of_getElem? hx); omega⟩
        have hm := hb2 _ (List.mem_of_getElem? hx)
        refine bk ?_
        obtain ⟨b4, o2, E1⟩ := H.elt 1 rfl (i) (by omega)
        refine rIxE E1 rfl rfl rfl ?_
        refine rLd (H.el 1 rfl E1 hx) 0 rfl rfl rfl ?_
        refine rFieldAt rfl ?_
        refine rLd (H.at 3 rfl) 3 rfl rfl rfl ?_
        obtain ⟨x2, hx2⟩ : ∃ x, (setAll true (List.take i B) ks2)[(m)]? = some x := ⟨_, List.getElem?_eq_getElem (by omega)⟩
        obtain ⟨b5, o3, E2⟩ := H.elt 4 rfl (m) (by omega)
        refine rIxE E2 rfl rfl rfl ?_
        refine rFieldAt rfl ?_
        refine rStE H 4 rfl E2 hx2 0 ⟨(true), (x2).snd⟩ rfl rfl rfl rfl ?_
        clear H
        intro w4 H
        clear w1
        refine eqI64 (by omega) ?_
        refine Nxt.mk (i + 1) (mt_i rfl (by first | omega | (simp only; omega) | (simp; omega)) (mt_nil)) ?_ ?_
        · refine ⟨?_, ?_⟩
          · omega
          refine H.cg (cgC rfl (cgC rfl (cgC rfl (cgC rfl (cgC (cgSl ?_) (cgC rfl (rfl)))))))
          (rw [take_succ' hx, setAll_snoc, Int.toNat_natCast, runs_of (by assumption)]; done)
        omega
end Go.Proofs.Ytkkfjhaknbaiaaa.Super
