/- Texts of this claim, one behind the other. -/
import Derived.Test.YtndhikahjmgamaaGreatDoorM2
import Derived.MapKept
import Derived.Maps.RangeRun
/- Package nest: the walker. -/
set_option maxRecDepth 100000
set_option maxHeartbeats 4000000
set_option linter.unusedVariables false
set_option linter.unusedSimpArgs false
namespace Go.Proofs.YtndhikahjmgamaaGreatDoor.Nest
open Go Go.Proofs.YtndhikahjmgamaaGreatDoor.Eng Go.RowKit
open Ins
section
variable {g : Glob} {w : World} {l : List As} {e : TypeId} {s j h : Nat} {α : Type} {en : α → List Value} {v v' : Value} {xs : List α}
/-- A row of which a beginning is kept. -/
theorem _root_.Go.Proofs.YtndhikahjmgamaaGreatDoor.Eng.Sat.ofVw (H : Sat g w l) (j : Nat) (hj : l[j]? = some (Sl e s en v xs)) (V : Vw v s xs.length 0 h v') : Sat g w (l.set j (Sl e s en v' (xs.take h))) := by
  obtain ⟨ad, cap, hv, hh, hnc, hcm, ha, rfl⟩ := V
  have ho := H.off j hj
  refine H.slSet (lo := 0) hj ?_ (Gr.same w ?_)
  · rcases ho.1 with ⟨h1, h2⟩ | ⟨gb, o, cap', cur, h1, h2, h3, h4, h5, h6, h7⟩
    · subst h2
      rw [h1] at hv
      injection hv with e1 e2 e3
      subst e1; subst e3
      have : h = 0 := by simpa using hh
      subst this
      exact ⟨.inl ⟨rfl, by simp⟩, ho.2⟩
    · rw [h1] at hv
      injection hv with e1 e2 e3
      subst e1; subst e3
      refine ⟨.inr ⟨gb, o, cap', cur, ?_, h2, h3, h4, by rw [List.length_take]; omega, h6, ?_⟩, ho.2⟩
      · rw [List.length_take, Nat.min_eq_left hh]
        simp [Addr.add_zero']
      · rw [List.length_take, Nat.min_eq_left hh, ← flat_take ho.2 xs h hh, ← h7, List.take_take]
        congr 1
        have := Nat.mul_le_mul_right s hh
        omega
  · rcases ho.1 with ⟨h1, h2⟩ | ⟨gb, o, cap', cur, h1, h2, h3, h4, h5, h6, h7⟩
    · rw [h1] at hv
      injection hv with e1 e2 e3
      subst e1; subst e3
      left; rw [h1]; simp [Value.ownBlock]
    · rw [h1] at hv
      injection hv with e1 e2 e3
      subst e1; subst e3
      left; rw [h1]; simp [Value.ownBlock, Addr.add_zero']
end
theorem begin_ (w : World) : Fc Tryz.prog 29 #[] w (fun v w' => ∃ p vo vl, v = .pointer (some ⟨p, 0, none⟩) ∧ Sat (froz w) w' [Pt p [vo, vl, .bool false] 118, Sl 3 1 enI vo ns0.op, Sl 5 1 enK vl ns0.last]) := by
  refine Fc.of Tryz.func29 rfl (by kernel_rfl) ?_
  have H := Sat.start w
  refine rBuildSliceS H rfl rfl rfl rfl ?_
  clear H
  intro p1 w1 H
  refine rBuildSliceS H rfl rfl rfl rfl ?_
  clear H
  intro p2 w2 H
  clear w1
  refine rBuild rfl rfl rfl ?_
  refine rBoxS H ?_
  clear H
  intro p3 w1 H
  clear w2
  refine H.ptSl (n := 1) (en := enK) (s := 1) 1 rfl [_] rfl rfl (fun _ => rfl) rfl ?_
  clear H
  intro H
  refine H.ptSl (n := 1) (en := enI) (s := 1) 2 rfl [_] rfl rfl (fun _ => rfl) rfl ?_
  clear H
  intro H
  refine Done.mk ?_
  refine ⟨p3, Value.slice (some { block := p1, off := 0 }) 1 1, Value.slice (some { block := p2, off := 0 }) 1 1, ?_⟩
  refine ⟨?_, ?_⟩
  · rfl
  refine H.fronts [1, 2, 2] ?_
  clear H
  intro H
  exact H
section
variable {g : Glob} {w : World} {l : List As}
theorem nx_deep {op last : List Int} {o k : Int} (ho : o = 2 ∨ o = 3 ∨ o = 4) (h : 12 ≤ op.length - 1) : nextS ⟨op, last, false⟩ o k = (⟨op, last, false⟩, -2, 7) := by
  unfold nextS; rw [if_neg (by simp), if_pos ho, if_pos h]
theorem nx_open {op last : List Int} {o k : Int} (ho : o = 2 ∨ o = 3 ∨ o = 4) (h : op.length - 1 < 12) : nextS ⟨op, last, false⟩ o k = (⟨op ++ [k], last ++ [o], false⟩, -2, 0) := by
  unfold nextS; rw [if_neg (by simp), if_pos ho, if_neg (by simp only; omega)]
theorem nx_else_no {op last : List Int} {o k x : Int} (ho : o = 5) (hx : last[op.length - 1]? = some x) (h : x ≠ 4) : nextS ⟨op, last, false⟩ o k = (⟨op, last, false⟩, -2, 4) := by
  unfold nextS; rw [if_neg (by simp), if_neg (by omega), if_pos ho, if_pos (by simp only [List.getD_eq_getElem?_getD, hx]; exact h)]
theorem nx_else {op last : List Int} {o k x y : Int} (ho : o = 5) (hx : last[op.length - 1]? = some x) (h : x = 4) (hy : op[op.length - 1]? = some y) : nextS ⟨op, last, false⟩ o k = (⟨op, last.set (op.length - 1) 5, false⟩, y, 0) := by
  unfold nextS; rw [if_neg (by simp), if_neg (by omega), if_pos ho, if_neg (by simp only [List.getD_eq_getElem?_getD, hx]; simpa using h)]
  simp only [List.getD_eq_getElem?_getD, hy]; rfl
theorem nx_end {op last : List Int} {o k y : Int} (ho : o = 11) (hy : op[op.length - 1]? = some y) : nextS ⟨op, last, false⟩ o k = (⟨op.take (op.length - 1), last.take (op.length - 1), decide (op.length - 1 = 0)⟩, y, 0) := by
  unfold nextS; rw [if_neg (by simp), if_neg (by omega), if_neg (by omega), if_pos ho]
  simp only [List.getD_eq_getElem?_getD, hy]; rfl
theorem nx_end' {op last : List Int} {o k y : Int} (ho : o = 11) (hy : op[op.length - 1]? = some y) (hp : 0 < op.length) : nextS ⟨op, last, false⟩ o k = (⟨op.take (op.length - 1), last.take (op.length - 1), vEq ((op.length : Int) - 1) 0⟩, y, 0) := by
  rw [nx_end ho hy, vEq_iff, show decide ((op.length : Int) - 1 = 0) = decide (op.length - 1 = 0) from decide_eq_decide.2 (by omega)]
theorem nx_else_ {op last : List Int} {o k : Int} (h2 : o ≠ 2) (h3 : o ≠ 3) (h4 : o ≠ 4) (h5 : o ≠ 5) (h11 : o ≠ 11) : nextS ⟨op, last, false⟩ o k = (⟨op, last, false⟩, -2, 0) := by
  unfold nextS; rw [if_neg (by simp), if_neg (by omega), if_neg h5, if_neg h11]
theorem next {p : Nat} {vo vl : Value} (st : NS) (hst : NOk st) (H : Sat g w (Pt p [vo, vl, .bool st.over] 118 :: Sl 3 1 enI vo st.op :: Sl 5 1 enK vl st.last :: l)) (o a b k : Int) (tv : Value) :
    Fc Tryz.prog 30 #[.pointer (some ⟨p, 0, none⟩), .agg #[.int .u8 o, .int .i64 a, .int .i64 b, tv], .int .i64 k] w
    (fun v w' => ∃ (op' last' : List Int) (ov' : Bool) (vo' vl' : Value) (is e : Int), v = .tuple #[.int .i64 is, .int .i64 e] ∧ nextS st o k = (⟨op', last', ov'⟩, is, e) ∧ Sat g w' (Pt p [vo', vl', .bool ov'] 118 :: Sl 3 1 enI vo' op' :: Sl 5 1 enK vl' last' :: l)) := by
  refine Fc.of Tryz.func30 rfl (by kernel_rfl) ?_
  obtain ⟨hs1, hs2, hs3⟩ := hst
  obtain ⟨op, last, ov⟩ := st
  simp only at hs1 hs2 hs3 H
  cases ov
  · have hs4 := hs2 rfl
    clear hs2
    refine rBoxS H ?_
    clear H
    intro p1 w1 H
    refine rFieldAt rfl ?_
    refine rLd (H.at 1 rfl) 0 rfl rfl rfl ?_
    refine rLenS H 2 rfl rfl ?_
    refine eqI64 (by omega) ?_
    refine bk ?_
    refine rFieldAt rfl ?_
    refine rLd (H.at 1 rfl) 2 rfl rfl rfl ?_
    refine cF rfl ?_
    refine rFieldAt rfl ?_
    refine rLd (H.at 0 rfl) 0 rfl rfl rfl ?_
    refine cI (fun c1 => ?_) (fun c1 => ?_)
    · replace c1 := vEq_t (c1)
      refine cT (vEq_T (by assumption)) ?_
      refine cI (fun c2 => ?_) (fun c2 => ?_)
      · replace c2 := vLe_t (c2)
        refine Done.mk ?_
        refine ⟨op, last, false, vo, vl, -2, 7, ?_⟩
        refine ⟨?_, ?_⟩
        · rfl
        refine ⟨?_, ?_⟩
        · exact nx_deep (by omega) (by omega)
        refine H.fronts [3, 3, 3] ?_
        clear H
        intro H
        refine H.drop 3 ?_
        clear H
        intro H
        exact H
      replace c2 := vLe_f (c2)
      refine rFieldAt rfl ?_
      refine rLd (H.at 1 rfl) 0 rfl rfl rfl ?_
      refine rBuildSliceS H rfl rfl rfl rfl ?_
      clear H
      intro p2 w2 H
      clear w1
      refine rApS (ys := [_]) 8 H 3 rfl (H.at 0 rfl) rfl (fun y _ => rfl) rfl rfl rfl (by omega) (by omega) ?_
      intro v1
      clear H
      intro w1 H
      clear w2
      refine rFieldAt rfl ?_
      refine rStS H 2 rfl rfl rfl (H.one 3 rfl) ?_
      clear H
      intro w2 H
      clear w1
      refine drawzS H [] [(0, .pure), (1, .pure), (2, .pure), (3, .pure), (4, .held), (5, .pure), (6, .held), (7, .forced), (8, .free), (9, .pure), (10, .pure), (11, .free)] mixed (by kernel_rfl) (by kernel_rfl) ?_
      clear H
      intro w1 H
      clear w2
      refine tk (fun wx HS => rFieldAt rfl ⟨rfl, rfl⟩) ?_
      refine tk (fun wx HS => rLd (HS.at 2 rfl) 1 rfl rfl rfl ⟨rfl, rfl⟩) ?_
      refine tk (fun wx HS => rFieldAt rfl ⟨rfl, rfl⟩) ?_
      refine tk (fun wx HS => rLd (HS.at 1 rfl) 0 rfl rfl rfl ⟨rfl, rfl⟩) ?_
      refine rBuildSliceS H rfl rfl rfl rfl ?_
      clear H
      intro p3 w2 H
      clear w1
      refine KeepP.mk (H.drop 0 (fun H => H)) ?_
      refine rApS (ys := [_]) 1 H 5 rfl (H.at 0 rfl) rfl (fun y _ => rfl) rfl rfl rfl (by omega) (by omega) ?_
      intro v2
      clear H
      intro w1 H
      clear w2
      refine tk (fun wx HS => rFieldAt rfl ⟨rfl, rfl⟩) ?_
      refine rStS H 3 rfl rfl rfl (H.one 5 rfl) ?_
      clear H
      intro w2 H
      clear w1
      refine Done.mk ?_
      refine ⟨op ++ [k], last ++ [o], false, v1, v2, -2, 0, ?_⟩
      refine ⟨?_, ?_⟩
      · rfl
      refine ⟨?_, ?_⟩
      · exact nx_open (by omega) (by omega)
      refine H.fronts [5, 5, 5] ?_
      clear H
      intro H
      refine H.drop 5 ?_
      clear H
      intro H
      refine H.drop 4 ?_
      clear H
      intro H
      refine H.drop 3 ?_
      clear H
      intro H
      exact H
    replace c1 := vEq_f (c1)
    refine rFieldAt rfl ?_
    refine rLd (H.at 0 rfl) 0 rfl rfl rfl ?_
    refine cI (fun c2 => ?_) (fun c2 => ?_)
    · replace c2 := vEq_t (c2)
      refine cT (vEq_T (by assumption)) ?_
      refine cI (fun c3 => ?_) (fun c3 => ?_)
      · replace c3 := vLe_t (c3)
        refine Done.mk ?_
        refine ⟨op, last, false, vo, vl, -2, 7, ?_⟩
        refine ⟨?_, ?_⟩
        · rfl
        refine ⟨?_, ?_⟩
        · exact nx_deep (by omega) (by omega)
        refine H.fronts [3, 3, 3] ?_
        clear H
        intro H
        refine H.drop 3 ?_
        clear H
        intro H
        exact H
      replace c3 := vLe_f (c3)
      refine rFieldAt rfl ?_
      refine rLd (H.at 1 rfl) 0 rfl rfl rfl ?_
      refine rBuildSliceS H rfl rfl rfl rfl ?_
      clear H
      intro p2 w2 H
      clear w1
      refine rApS (ys := [_]) 8 H 3 rfl (H.at 0 rfl) rfl (fun y _ => rfl) rfl rfl rfl (by omega) (by omega) ?_
      intro v1
      clear H
      intro w1 H
      clear w2
      refine rFieldAt rfl ?_
      refine rStS H 2 rfl rfl rfl (H.one 3 rfl) ?_
      clear H
      intro w2 H
      clear w1
      refine drawzS H [] [(0, .pure), (1, .pure), (2, .pure), (3, .pure), (4, .held), (5, .pure), (6, .held), (7, .forced), (8, .free), (9, .pure), (10, .pure), (11, .free)] mixed (by kernel_rfl) (by kernel_rfl) ?_
      clear H
      intro w1 H
      clear w2
      refine tk (fun wx HS => rFieldAt rfl ⟨rfl, rfl⟩) ?_
      refine tk (fun wx HS => rLd (HS.at 2 rfl) 1 rfl rfl rfl ⟨rfl, rfl⟩) ?_
      refine tk (fun wx HS => rFieldAt rfl ⟨rfl, rfl⟩) ?_
      refine tk (fun wx HS => rLd (HS.at 1 rfl) 0 rfl rfl rfl ⟨rfl, rfl⟩) ?_
      refine rBuildSliceS H rfl rfl rfl rfl ?_
      clear H
      intro p3 w2 H
      clear w1
      refine KeepP.mk (H.drop 0 (fun H => H)) ?_
      refine rApS (ys := [_]) 1 H 5 rfl (H.at 0 rfl) rfl (fun y _ => rfl) rfl rfl rfl (by omega) (by omega) ?_
      intro v2
      clear H
      intro w1 H
      clear w2
      refine tk (fun wx HS => rFieldAt rfl ⟨rfl, rfl⟩) ?_
      refine rStS H 3 rfl rfl rfl (H.one 5 rfl) ?_
      clear H
      intro w2 H
      clear w1
      refine Done.mk ?_
      refine ⟨op ++ [k], last ++ [o], false, v1, v2, -2, 0, ?_⟩
      refine ⟨?_, ?_⟩
      · rfl
      refine ⟨?_, ?_⟩
      · exact nx_open (by omega) (by omega)
      refine H.fronts [5, 5, 5] ?_
      clear H
      intro H
      refine H.drop 5 ?_
      clear H
      intro H
      refine H.drop 4 ?_
      clear H
      intro H
      refine H.drop 3 ?_
      clear H
      intro H
      exact H
    replace c2 := vEq_f (c2)
    refine rFieldAt rfl ?_
    refine rLd (H.at 0 rfl) 0 rfl rfl rfl ?_
    refine cI (fun c3 => ?_) (fun c3 => ?_)
    · replace c3 := vEq_t (c3)
      refine cI (fun c4 => ?_) (fun c4 => ?_)
      · replace c4 := vLe_t (c4)
        refine Done.mk ?_
        refine ⟨op, last, false, vo, vl, -2, 7, ?_⟩
        refine ⟨?_, ?_⟩
        · rfl
        refine ⟨?_, ?_⟩
        · exact nx_deep (by omega) (by omega)
        refine H.fronts [3, 3, 3] ?_
        clear H
        intro H
        refine H.drop 3 ?_
        clear H
        intro H
        exact H
      replace c4 := vLe_f (c4)
      refine rFieldAt rfl ?_
      refine rLd (H.at 1 rfl) 0 rfl rfl rfl ?_
      refine rBuildSliceS H rfl rfl rfl rfl ?_
      clear H
      intro p2 w2 H
      clear w1
      refine rApS (ys := [_]) 8 H 3 rfl (H.at 0 rfl) rfl (fun y _ => rfl) rfl rfl rfl (by omega) (by omega) ?_
      intro v1
      clear H
      intro w1 H
      clear w2
      refine rFieldAt rfl ?_
      refine rStS H 2 rfl rfl rfl (H.one 3 rfl) ?_
      clear H
      intro w2 H
      clear w1
      refine drawzS H [] [(0, .pure), (1, .pure), (2, .pure), (3, .pure), (4, .held), (5, .pure), (6, .held), (7, .forced), (8, .free), (9, .pure), (10, .pure), (11, .free)] mixed (by kernel_rfl) (by kernel_rfl) ?_
      clear H
      intro w1 H
      clear w2
      refine tk (fun wx HS => rFieldAt rfl ⟨rfl, rfl⟩) ?_
      refine tk (fun wx HS => rLd (HS.at 2 rfl) 1 rfl rfl rfl ⟨rfl, rfl⟩) ?_
      refine tk (fun wx HS => rFieldAt rfl ⟨rfl, rfl⟩) ?_
      refine tk (fun wx HS => rLd (HS.at 1 rfl) 0 rfl rfl rfl ⟨rfl, rfl⟩) ?_
      refine rBuildSliceS H rfl rfl rfl rfl ?_
      clear H
      intro p3 w2 H
      clear w1
      refine KeepP.mk (H.drop 0 (fun H => H)) ?_
      refine rApS (ys := [_]) 1 H 5 rfl (H.at 0 rfl) rfl (fun y _ => rfl) rfl rfl rfl (by omega) (by omega) ?_
      intro v2
      clear H
      intro w1 H
      clear w2
      refine tk (fun wx HS => rFieldAt rfl ⟨rfl, rfl⟩) ?_
      refine rStS H 3 rfl rfl rfl (H.one 5 rfl) ?_
      clear H
      intro w2 H
      clear w1
      refine Done.mk ?_
      refine ⟨op ++ [k], last ++ [o], false, v1, v2, -2, 0, ?_⟩
      refine ⟨?_, ?_⟩
      · rfl
      refine ⟨?_, ?_⟩
      · exact nx_open (by omega) (by omega)
      refine H.fronts [5, 5, 5] ?_
      clear H
      intro H
      refine H.drop 5 ?_
      clear H
      intro H
      refine H.drop 4 ?_
      clear H
      intro H
      refine H.drop 3 ?_
      clear H
      intro H
      exact H
    replace c3 := vEq_f (c3)
    refine rFieldAt rfl ?_
    refine rLd (H.at 0 rfl) 0 rfl rfl rfl ?_
    refine cI (fun c4 => ?_) (fun c4 => ?_)
    · replace c4 := vEq_t (c4)
      refine rFieldAt rfl ?_
      refine rLd (H.at 1 rfl) 1 rfl rfl rfl ?_
      obtain ⟨x1, hx1⟩ : ∃ x, (last)[((op.length) - 1)]? = some x := ⟨_, List.getElem?_eq_getElem (by omega)⟩
      obtain ⟨b1, o1, E1⟩ := H.elt 3 rfl ((op.length) - 1) (by omega)
      refine rIxE E1 (by omega) rfl rfl ?_
      refine rLd (H.el 3 rfl E1 hx1) 0 rfl rfl rfl ?_
      refine cI (fun c5 => ?_) (fun c5 => ?_)
      · replace c5 := vNe_t (c5)
        refine Done.mk ?_
        refine ⟨op, last, false, vo, vl, -2, 4, ?_⟩
        refine ⟨?_, ?_⟩
        · rfl
        refine ⟨?_, ?_⟩
        · exact nx_else_no (by omega) hx1 (by assumption)
        refine H.fronts [3, 3, 3] ?_
        clear H
        intro H
        refine H.drop 3 ?_
        clear H
        intro H
        exact H
      replace c5 := vNe_f (c5)
      refine rFieldAt rfl ?_
      refine rLd (H.at 1 rfl) 1 rfl rfl rfl ?_
      refine rIxE E1 (by omega) rfl rfl ?_
      refine rStE H 3 rfl E1 hx1 0 (5) rfl rfl rfl rfl ?_
      clear H
      intro w2 H
      clear w1
      refine rFieldAt rfl ?_
      refine rLd (H.at 1 rfl) 0 rfl rfl rfl ?_
      obtain ⟨x2, hx2⟩ : ∃ x, (op)[((op.length) - 1)]? = some x := ⟨_, List.getElem?_eq_getElem (by omega)⟩
      obtain ⟨b2, o2, E2⟩ := H.elt 2 rfl ((op.length) - 1) (by omega)
      refine rIxE E2 (by omega) rfl rfl ?_
      refine rLd (H.el 2 rfl E2 hx2) 0 rfl rfl rfl ?_
      refine Done.mk ?_
      refine ⟨op, last.set (op.length - 1) 5, false, vo, vl, x2, 0, ?_⟩
      refine ⟨?_, ?_⟩
      · rfl
      refine ⟨?_, ?_⟩
      · exact nx_else (by omega) hx1 (by assumption) (by assumption)
      refine H.fronts [3, 3, 3] ?_
      clear H
      intro H
      refine H.drop 3 ?_
      clear H
      intro H
      exact H
    replace c4 := vEq_f (c4)
    refine rFieldAt rfl ?_
    refine rLd (H.at 0 rfl) 0 rfl rfl rfl ?_
    refine cI (fun c5 => ?_) (fun c5 => ?_)
    · replace c5 := vEq_t (c5)
      refine rFieldAt rfl ?_
      refine rLd (H.at 1 rfl) 0 rfl rfl rfl ?_
      obtain ⟨x1, hx1⟩ : ∃ x, (op)[((op.length) - 1)]? = some x := ⟨_, List.getElem?_eq_getElem (by omega)⟩
      obtain ⟨b1, o1, E1⟩ := H.elt 2 rfl ((op.length) - 1) (by omega)
      refine rIxE E1 (by omega) rfl rfl ?_
      refine rLd (H.el 2 rfl E1 hx1) 0 rfl rfl rfl ?_
      refine drawzS H [] [(0, .pure), (1, .pure), (2, .pure), (3, .pure), (4, .pure), (5, .held), (6, .pure), (7, .pure), (8, .pure), (9, .pure), (10, .pure), (11, .held), (12, .pure), (13, .pure), (14, .pure), (15, .pure), (16, .free), (17, .pure), (18, .pure), (19, .free)] mixed (by kernel_rfl) (by kernel_rfl) ?_
      clear H
      intro w2 H
      clear w1
      refine tk (fun wx HS => rFieldAt rfl ⟨rfl, rfl⟩) ?_
      refine tk (fun wx HS => rLd (HS.at 1 rfl) 0 rfl rfl rfl ⟨rfl, rfl⟩) ?_
      obtain ⟨v1, V1⟩ := H.vw 2 rfl (0) (((op.length) - 1)) (by omega) (by omega)
      refine tk (fun wx HS => rSlVw V1 rfl rfl (.inl ⟨rfl, rfl⟩) (.inr ⟨_, by first | rfl | (congr 2; omega)⟩) ⟨rfl, rfl⟩) ?_
      refine tk (fun wx HS => rFieldAt rfl ⟨rfl, rfl⟩) ?_
      refine tk (fun wx HS => rLd (HS.at 1 rfl) 1 rfl rfl rfl ⟨rfl, rfl⟩) ?_
      obtain ⟨v2, V2⟩ := H.vw 3 rfl (0) (((op.length) - 1)) (by omega) (by omega)
      refine tk (fun wx HS => rSlVw V2 rfl rfl (.inl ⟨rfl, rfl⟩) (.inr ⟨_, by first | rfl | (congr 2; omega)⟩) ⟨rfl, rfl⟩) ?_
      refine tk (fun wx HS => rFieldAt rfl ⟨rfl, rfl⟩) ?_
      refine rStS H 1 rfl rfl rfl (by simp only [Bool.and_true, H.one 2 rfl, H.one 3 rfl, Vw.one V2, Vw.one V1]) ?_
      clear H
      intro w1 H
      clear w2
      refine tk (fun wx HS => rFieldAt rfl ⟨rfl, rfl⟩) ?_
      refine rStS H 1 rfl rfl rfl (by simp only [Bool.and_true, H.one 2 rfl, H.one 3 rfl, Vw.one V2, Vw.one V1]) ?_
      clear H
      intro w2 H
      clear w1
      refine rFieldAt rfl ?_
      refine rStS H 1 rfl rfl rfl rfl ?_
      clear H
      intro w1 H
      clear w2
      refine Done.mk ?_
      exact ⟨_, _, _, v1, v2, _, _, rfl, nx_end' (by omega) hx1 hs4, ((H.ofVw 2 rfl V1).ofVw 3 rfl V2).del 0⟩
    replace c5 := vEq_f (c5)
    refine Done.mk ?_
    refine ⟨op, last, false, vo, vl, -2, 0, ?_⟩
    refine ⟨?_, ?_⟩
    · rfl
    refine ⟨?_, ?_⟩
    · exact nx_else_ (by omega) (by omega) (by omega) (by omega) (by omega)
    refine H.fronts [3, 3, 3] ?_
    clear H
    intro H
    refine H.drop 3 ?_
    clear H
    intro H
    exact H
  · refine rBoxS H ?_
    clear H
    intro p1 w1 H
    refine rFieldAt rfl ?_
    refine rLd (H.at 1 rfl) 0 rfl rfl rfl ?_
    refine rLenS H 2 rfl rfl ?_
    refine eqI64 (by omega) ?_
    refine bk ?_
    refine rFieldAt rfl ?_
    refine rLd (H.at 1 rfl) 2 rfl rfl rfl ?_
    refine cT rfl ?_
    refine Done.mk ?_
    refine ⟨op, last, true, vo, vl, -2, 4, ?_⟩
    refine ⟨?_, ?_⟩
    · rfl
    refine ⟨?_, ?_⟩
    · rfl
    refine H.fronts [3, 3, 3] ?_
    clear H
    intro H
    refine H.drop 3 ?_
    clear H
    intro H
    exact H
end
end Go.Proofs.YtndhikahjmgamaaGreatDoor.Nest
/- Bodies that are written and read. -/
set_option maxRecDepth 100000
set_option linter.unusedVariables false
set_option linter.unusedSimpArgs false
namespace Go.Proofs.YtndhikahjmgamaaGreatDoor.Nest
open Go.Proofs.YtndhikahjmgamaaGreatDoor.Leb Go.Proofs.YtndhikahjmgamaaGreatDoor.Txt Go.Proofs.YtndhikahjmgamaaGreatDoor.Ins
def txtL (l : List InsD) : List UInt8 := l.flatMap txt
/-- What is read of a body, from byte k on, with what was read before. -/
def rdG : Nat → List UInt8 → Nat → List InsD → NS → List InsD × Nat × Int
  | 0, _, _, _, _ => ([], 0, 2)
  | f + 1, s, k, acc, st =>
    if st.over = true then (acc, k, 0)
    else if (rdI (s.drop k)).2.2 ≠ 0 then ([], 0, (rdI (s.drop k)).2.2)
    else if acc.length = 200 then ([], 0, 2)
    else if (nextS st (rdI (s.drop k)).1.op acc.length).2.2 ≠ 0 then ([], 0, (nextS st (rdI (s.drop k)).1.op acc.length).2.2)
    else rdG f s (k + (rdI (s.drop k)).2.1) (acc ++ [(rdI (s.drop k)).1]) (nextS st (rdI (s.drop k)).1.op acc.length).1
def rdB (s : List UInt8) : List InsD × Nat × Int := rdG 201 s 0 [] ns0
/-- What is so far read of s. -/
structure RdI (s : List UInt8) (acc : List InsD) (k : Nat) (st : NS) : Prop where
  eq : rdB s = rdG (201 - acc.length) s k acc st
  le : acc.length ≤ 200
  ks : k ≤ s.length
  st : st = stB acc acc.length
  far : SoFar acc acc.length
  tx : (txtL acc).length ≤ k
  ops : ∀ x ∈ acc, (0 ≤ x.op ∧ x.op ≤ 255) ∧ (-9223372036854775808 ≤ x.a ∧ x.a ≤ 9223372036854775807) ∧ -9223372036854775808 ≤ x.b ∧ x.b ≤ 9223372036854775807
theorem RdI.zero (s : List UInt8) : RdI s [] 0 ns0 := ⟨rfl, Nat.zero_le _, Nat.zero_le _, rfl, SoFar.zero _, Nat.zero_le _, nofun⟩
theorem stB_app (l r : List InsD) : ∀ k, k ≤ l.length → stB (l ++ r) k = stB l k
  | 0, _ => rfl
  | k + 1, h => by
    have hx : l[k]? = some l[k] := List.getElem?_eq_getElem h
    rw [stB_succ hx, stB_succ (by rw [List.getElem?_append_left h]; exact hx), stB_app l r k (by omega)]
theorem SoFar.app {l : List InsD} {k : Nat} (h : SoFar l k) (hk : k ≤ l.length) (r : List InsD) : SoFar (l ++ r) k := fun i x hi hx => by
  rw [List.getElem?_append_left (by omega)] at hx
  rw [stB_app _ _ _ (by omega)]
  exact h i x hi hx
theorem RdI.step {s : List UInt8} {acc : List InsD} {k n : Nat} {st st' : NS} {x : InsD} {is : Int} (h : RdI s acc k st) (ho : st.over = false) (hr : rdI (s.drop k) = (x, n, 0)) (hl : acc.length ≠ 200) (hn : nextS st x.op acc.length = (st', is, 0)) : RdI s (acc ++ [x]) (k + n) st' := by
  obtain ⟨h1, h2, h3, h4, h5, h6, h7⟩ := h
  obtain ⟨t1, t2, t3, t4, t5, t6, t7⟩ := rdI_told hr
  rw [List.length_drop] at t1
  have hlen : (acc ++ [x]).length = acc.length + 1 := by simp
  have hst : nextS (stB (acc ++ [x]) acc.length) x.op acc.length = (st', is, 0) := by rw [stB_app _ _ _ (Nat.le_refl _), ← h4]; exact hn
  have hx : (acc ++ [x])[acc.length]? = some x := by rw [List.getElem?_append_right (Nat.le_refl _)]; simp
  refine ⟨?_, by omega, by omega, ?_, ?_, ?_, fun y hy => ?_⟩
  · rw [h1, show 201 - acc.length = (201 - (acc ++ [x]).length) + 1 by omega, rdG, if_neg (by rw [ho]; simp), hr]
    simp only [hn]
    rw [if_neg (by simp), if_neg hl, if_neg (by simp)]
  · rw [hlen, stB_succ hx, hst]
  · rw [hlen]
    exact (h5.app (Nat.le_refl _) [x]).succ hx t4 (by rw [hst])
  · unfold txtL at *
    rw [List.flatMap_append, List.length_append, List.flatMap_cons, List.flatMap_nil, List.append_nil]; omega
  · rcases List.mem_append.1 hy with hy | hy
    · exact h7 y hy
    · rw [List.mem_singleton.1 hy]; exact ⟨⟨t2, t3⟩, t6, t7⟩
theorem RdI.bad {s : List UInt8} {acc : List InsD} {k n : Nat} {st : NS} {x : InsD} {e : Int} (h : RdI s acc k st) (ho : st.over = false) (hr : rdI (s.drop k) = (x, n, e)) (he : e ≠ 0) : rdB s = ([], 0, e) := by
  rw [h.eq, show 201 - acc.length = (200 - acc.length) + 1 by have := h.le; omega, rdG, if_neg (by rw [ho]; simp), hr]
  simp only
  rw [if_pos he]
theorem RdI.no {s : List UInt8} {acc : List InsD} {k n : Nat} {st st' : NS} {x : InsD} {is e : Int} (h : RdI s acc k st) (ho : st.over = false) (hr : rdI (s.drop k) = (x, n, 0)) (hl : acc.length ≠ 200) (hn : nextS st x.op acc.length = (st', is, e)) (he : e ≠ 0) : rdB s = ([], 0, e) := by
  rw [h.eq, show 201 - acc.length = (200 - acc.length) + 1 by have := h.le; omega, rdG, if_neg (by rw [ho]; simp), hr]
  simp only [hn]
  rw [if_neg (by simp), if_neg hl, if_pos he]
theorem RdI.over {s : List UInt8} {acc : List InsD} {k : Nat} {st : NS} (h : RdI s acc k st) (ho : st.over = true) : rdB s = (acc, k, 0) := by
  rw [h.eq, show 201 - acc.length = (200 - acc.length) + 1 by have := h.le; omega, rdG, if_pos ho]
/-- What was read is a body, and can be written with no more bytes. -/
theorem RdI.told {s : List UInt8} {acc : List InsD} {k : Nat} {st : NS} (h : RdI s acc k st) (ho : st.over = true) : chkB acc = 0 ∧ (txtL acc).length ≤ k ∧ k ≤ s.length := by
  refine ⟨?_, h.tx, h.ks⟩
  rw [chkB_end h.le h.far rfl, ← h.st, if_pos ho]
theorem over_no {st : NS} (h : st.over = true) (o k : Int) : (nextS st o k).2.2 = 4 := by unfold nextS; rw [if_pos h]
theorem chkB_ne {l : List InsD} (h : chkB l = 0) : l ≠ [] := by
  rintro rfl
  exact absurd h (by decide)
end Go.Proofs.YtndhikahjmgamaaGreatDoor.Nest
/- Package nest: Check alone. -/
set_option maxRecDepth 100000
set_option maxHeartbeats 4000000
set_option linter.unusedVariables false
set_option linter.unusedSimpArgs false
namespace Go.Proofs.YtndhikahjmgamaaGreatDoor.Nest
open Go Go.Proofs.YtndhikahjmgamaaGreatDoor.Eng Go.RowKit
open Ins
section
variable {g : Glob} {w : World} {l : List As}
theorem map_get {xs : List InsV} {k : Nat} {x : InsV} (h : xs[k]? = some x) : (xs.map InsV.d)[k]? = some x.d := by rw [List.getElem?_map, h]; rfl
theorem dd (x : InsV) : (⟨x.op, x.a, x.b, x.to⟩ : InsD) = x.d := rfl
section
variable {xs : List InsV} {k : Nat} {x : InsV} {r is e : Int} {st st' : NS}
theorem ck1 (hl : xs.length ≤ 200) (hF : SoFar (xs.map InsV.d) k) (hx : xs[k]? = some x) (h : r = chk ⟨x.op, x.a, x.b, x.to⟩) (hr : r ≠ 0) : r = chkB (xs.map InsV.d) := by
  rw [dd] at h
  rw [chkB_chk (by simpa using hl) hF (map_get hx) (h ▸ hr), h]
theorem ck2 (hl : xs.length ≤ 200) (hF : SoFar (xs.map InsV.d) k) (hx : xs[k]? = some x) (h : r = chk ⟨x.op, x.a, x.b, x.to⟩) (hr : r = 0) (hst : stB (xs.map InsV.d) k = st) (hn : nextS st x.op k = (st', is, e)) (he : e ≠ 0) : e = chkB (xs.map InsV.d) := by
  rw [dd, hr] at h
  have hn' : nextS (stB (xs.map InsV.d) k) x.d.op k = (st', is, e) := by rw [hst]; exact hn
  rw [chkB_next (by simpa using hl) hF (map_get hx) h.symm (by rw [hn']; exact he), hn']
theorem ck3 (hx : xs[k]? = some x) (hst : stB (xs.map InsV.d) k = st) (hn : nextS st x.op k = (st', is, e)) : stB (xs.map InsV.d) (k + 1) = st' := by
  rw [stB_succ (map_get hx), hst]; show (nextS st x.op k).1 = _; rw [hn]
theorem ck4 (hF : SoFar (xs.map InsV.d) k) (hx : xs[k]? = some x) (h : r = chk ⟨x.op, x.a, x.b, x.to⟩) (hr : r = 0) (hst : stB (xs.map InsV.d) k = st) (hn : nextS st x.op k = (st', is, e)) (he : e = 0) : SoFar (xs.map InsV.d) (k + 1) := by
  rw [dd, hr] at h
  exact hF.succ (map_get hx) h.symm (by rw [hst]; show (nextS st x.op k).2.2 = 0; rw [hn]; exact he)
theorem ck5 {op last : List Int} {ov : Bool} (hl : xs.length ≤ 200) (hF : SoFar (xs.map InsV.d) k) (hk : k = xs.length) (hst : stB (xs.map InsV.d) k = ⟨op, last, ov⟩) (ho : ov = false) : 3 = chkB (xs.map InsV.d) := by
  rw [chkB_end (by simpa using hl) hF (by simpa using hk), hst, ho]; rfl
theorem ck6 {op last : List Int} {ov : Bool} (hl : xs.length ≤ 200) (hF : SoFar (xs.map InsV.d) k) (hk : k = xs.length) (hst : stB (xs.map InsV.d) k = ⟨op, last, ov⟩) (ho : ov = true) : 0 = chkB (xs.map InsV.d) := by
  rw [chkB_end (by simpa using hl) hF (by simpa using hk), hst, ho]; rfl
end
theorem check (H : Sat g w l) (v : Value) (xs : List InsV) (hx : FSl g enV (okV g) 4 v xs) : Fc Tryz.prog 19 #[v] w (fun r w' => (∃ e, r = .int .i64 e ∧ e = chkB (xs.map InsV.d)) ∧ Sat g w' l) := by
  refine Fc.of Tryz.func19 rfl (by kernel_rfl) ?_
  have hml : (xs.map InsV.d).length = xs.length := List.length_map ..
  refine rLenF hx rfl ?_
  refine cI (fun c1 => ?_) (fun c1 => ?_)
  · replace c1 := vLt_t (c1)
    refine Done.mk ?_
    refine ⟨?_, ?_⟩
    · refine ⟨2, ?_⟩
      refine ⟨?_, ?_⟩
      · refine int_eq ?_
        omega
      exact (chkB_large (by omega)).symm
    exact H
  replace c1 := vLt_f (c1)
  refine CallP.mk (Fc.imp (Go.Proofs.YtndhikahjmgamaaGreatDoor.Nest.begin_ _) ?_)
  rintro _ w1 ⟨p1, ⟨vo1, ⟨vl1, ⟨rfl, H'⟩⟩⟩⟩
  refine H.mergeK H' ?_
  clear H H'
  intro H
  refine rLenF hx rfl ?_
  refine LoopP.rule (α := Nat × List Int × List Int × Bool × Value × Value) (0, ns0.op, ns0.last, ns0.over, vo1, vl1) (fun x_ => [(15, .int .i64 x_.1)]) (fun x_ w_ => (x_.1 ≤ xs.length) ∧ (stB (xs.map InsV.d) x_.1 = ⟨x_.2.1, x_.2.2.1, x_.2.2.2.1⟩) ∧ (SoFar (xs.map InsV.d) x_.1) ∧ Sat g w_ ((Pt p1 [x_.2.2.2.2.1, x_.2.2.2.2.2, .bool x_.2.2.2.1] 118 :: Sl 3 1 enI x_.2.2.2.2.1 x_.2.1 :: Sl 5 1 enK x_.2.2.2.2.2 x_.2.2.1 :: l))) (fun x_ => xs.length - x_.1) ?_ ?_ ?_
  · repeat first | exact mt_nil | refine mt_cons rfl ?_ | refine mt_i rfl (by first | omega | (simp only; omega) | (simp; omega) | (simp; done)) ?_
  · try simp only
    refine ⟨?_, ?_⟩
    · omega
    refine ⟨?_, ?_⟩
    · rfl
    refine ⟨?_, ?_⟩
    · exact SoFar.zero _
    exact H
  clear H
  rintro ⟨k, op, last, ov, vo, vl⟩ f_ w_ ⟨hk, hst, hF, H⟩
  try simp only at hk hst hF H ⊢
  have hok := stB_ok (xs.map InsV.d) k
  rw [hst] at hok
  refine cI (fun c2 => ?_) (fun c2 => ?_)
  · replace c2 := vLt_t (c2)
    refine bk ?_
    obtain ⟨x1, hx1⟩ : ∃ x, (xs)[(k)]? = some x := ⟨_, List.getElem?_eq_getElem (by omega)⟩
    obtain ⟨b1, o1, E1, F1, hok1⟩ := FSl.elt hx hx1
    have hok1_op := hok1.op
    have hok1_a := hok1.a
    have hok1_b := hok1.b
    have hok1_to := hok1.to
    refine rIxE E1 rfl rfl rfl ?_
    refine rLdA (H.fat F1) 0 rfl rfl rfl ?_
    refine rAllocS H rfl ?_
    clear H
    intro p2 w2 H
    clear w_
    refine rStAS H 0 rfl rfl rfl (by simp only [List.all_cons, List.all_nil, H.one 2 rfl, H.one 3 rfl, FSl.one hok1_to, FSl.one hx]; rfl) ?_
    clear H
    intro w3 H
    clear w2
    refine rLdA (H.at 0 rfl) 0 rfl rfl rfl ?_
    refine CallP.mk (Fc.imp (Go.Proofs.YtndhikahjmgamaaGreatDoor.Ins.check _ _ _ _ _ _ ?_ (H.rd hok1_to)) ?_)
    · assumption
    rintro _ w2 ⟨⟨r1, ⟨rfl, h1⟩⟩, H'⟩
    refine H.mergeK H' ?_
    clear H H'
    intro H
    refine cI (fun c3 => ?_) (fun c3 => ?_)
    · replace c3 := vNe_t (c3)
      refine Done.mk ?_
      refine ⟨?_, ?_⟩
      · refine ⟨r1, ?_⟩
        refine ⟨?_, ?_⟩
        · refine int_eq ?_
          omega
        exact ck1 (by omega) hF hx1 h1 (by assumption)
      refine H.drop 3 ?_
      clear H
      intro H
      refine H.drop 2 ?_
      clear H
      intro H
      refine H.drop 1 ?_
      clear H
      intro H
      refine H.drop 0 ?_
      clear H
      intro H
      exact H
    replace c3 := vNe_f (c3)
    refine rLdA (H.at 0 rfl) 0 rfl rfl rfl ?_
    refine H.fronts [3, 3, 3] ?_
    clear H
    intro H
    refine CallP.mk (Fc.imp (Go.Proofs.YtndhikahjmgamaaGreatDoor.Nest.next _ hok H _ _ _ _ _) ?_)
    clear H
    rintro _ w4 ⟨op'1, ⟨last'1, ⟨ov'1, ⟨vo'1, ⟨vl'1, ⟨is1, ⟨e1, ⟨rfl, ⟨h2, H⟩⟩⟩⟩⟩⟩⟩⟩⟩
    refine cI (fun c4 => ?_) (fun c4 => ?_)
    · replace c4 := vNe_t (c4)
      refine Done.mk ?_
      refine ⟨?_, ?_⟩
      · refine ⟨e1, ?_⟩
        refine ⟨?_, ?_⟩
        · refine int_eq ?_
          omega
        exact ck2 (by omega) hF hx1 h1 (by assumption) hst h2 (by assumption)
      refine H.drop 3 ?_
      clear H
      intro H
      refine H.drop 2 ?_
      clear H
      intro H
      refine H.drop 1 ?_
      clear H
      intro H
      refine H.drop 0 ?_
      clear H
      intro H
      exact H
    replace c4 := vNe_f (c4)
    refine eqI64 (by omega) ?_
    refine Nxt.mk ((k + 1, op'1, last'1, ov'1, vo'1, vl'1)) (mt_i rfl (by first | omega | (simp only; omega) | (simp; omega)) (mt_nil)) ?_ ?_
    · refine ⟨?_, ?_⟩
      · omega
      refine ⟨?_, ?_⟩
      · exact ck3 hx1 hst h2
      refine ⟨?_, ?_⟩
      · exact ck4 hF hx1 h1 (by assumption) hst h2 (by assumption)
      refine H.drop 3 ?_
      clear H
      intro H
      exact H
    omega
  replace c2 := vLt_f (c2)
  refine rFieldAt rfl ?_
  refine rLd (H.at 0 rfl) 2 rfl rfl rfl ?_
  refine cI (fun c3 => ?_) (fun c3 => ?_)
  · replace c3 := not_t (c3)
    refine Done.mk ?_
    refine ⟨?_, ?_⟩
    · refine ⟨3, ?_⟩
      refine ⟨?_, ?_⟩
      · refine int_eq ?_
        omega
      exact ck5 (by omega) hF (by omega) hst (by assumption)
    refine H.drop 2 ?_
    clear H
    intro H
    refine H.drop 1 ?_
    clear H
    intro H
    refine H.drop 0 ?_
    clear H
    intro H
    exact H
  replace c3 := not_f (c3)
  refine Done.mk ?_
  refine ⟨?_, ?_⟩
  · refine ⟨0, ?_⟩
    refine ⟨?_, ?_⟩
    · refine int_eq ?_
      omega
    exact ck6 (by omega) hF (by omega) hst (by assumption)
  refine H.drop 2 ?_
  clear H
  intro H
  refine H.drop 1 ?_
  clear H
  intro H
  refine H.drop 0 ?_
  clear H
  intro H
  exact H
end
end Go.Proofs.YtndhikahjmgamaaGreatDoor.Nest
/- Package leb: writing. -/
set_option maxRecDepth 100000
set_option maxHeartbeats 4000000
set_option linter.unusedVariables false
set_option linter.unusedSimpArgs false
namespace Go.Proofs.YtndhikahjmgamaaGreatDoor.Leb
open Go Go.Proofs.YtndhikahjmgamaaGreatDoor.Eng Go.RowKit
end Go.Proofs.YtndhikahjmgamaaGreatDoor.Leb
/- Package ins: Write. -/
set_option maxRecDepth 100000
set_option maxHeartbeats 4000000
set_option linter.unusedVariables false
set_option linter.unusedSimpArgs false
namespace Go.Proofs.YtndhikahjmgamaaGreatDoor.Ins
open Go Go.Proofs.YtndhikahjmgamaaGreatDoor.Eng Go.RowKit
open Leb
end Go.Proofs.YtndhikahjmgamaaGreatDoor.Ins
/- Package nest: Write. -/
set_option maxRecDepth 100000
set_option maxHeartbeats 4000000
set_option linter.unusedVariables false
set_option linter.unusedSimpArgs false
namespace Go.Proofs.YtndhikahjmgamaaGreatDoor.Nest
open Go Go.Proofs.YtndhikahjmgamaaGreatDoor.Eng Go.RowKit
open Ins
section
variable {g : Glob} {w : World} {l : List As}
end
end Go.Proofs.YtndhikahjmgamaaGreatDoor.Nest
/- Maps from texts to numbers, as functions with a size. -/
set_option maxRecDepth 100000
set_option linter.unusedVariables false
set_option linter.unusedSimpArgs false
namespace Go.Proofs.YtndhikahjmgamaaGreatDoor.Eng
open Go Go.RowKit
/-- What a list of pairs holds at a key. -/
def lk (m : List (List UInt8 × Int)) (k : List UInt8) : Option Int := match m with
  | [] => none
  | p :: r => if p.1 = k then some p.2 else lk r k
abbrev MF := List UInt8 → Option Int
def upd (f : List UInt8 → Option Int) (k : List UInt8) (o : Option Int) : List UInt8 → Option Int := fun x => if x = k then o else f x
def enM (p : List UInt8 × Int) : Value × Value := (.string (bs p.1), .int .i64 p.2)
def kv (e : MapEntry) : Value × Value := (e.key, e.val)
theorem lk_none {m : List (List UInt8 × Int)} {k : List UInt8} : lk m k = none ↔ ∀ p ∈ m, p.1 ≠ k := by
  induction m with
  | nil => simp [lk]
  | cons p r ih =>
    rw [lk]
    split
    · rename_i h; simp [h]
    · rename_i h; rw [ih]; simp [h]
/-- The entry of a key: its place, with nothing of that key ahead of it. -/
theorem lk_at {m : List (List UInt8 × Int)} {k : List UInt8} {v : Int} (h : lk m k = some v) : ∃ j, m[j]? = some (k, v) ∧ ∀ (i : Nat) (p : List UInt8 × Int), i < j → m[i]? = some p → p.1 ≠ k := by
  induction m with
  | nil => cases h
  | cons p r ih =>
    rw [lk] at h
    split at h
    · rename_i e
      obtain rfl := Option.some.inj h
      exact ⟨0, by subst e; rfl, fun i p hi => absurd hi (Nat.not_lt_zero i)⟩
    · rename_i e
      obtain ⟨j, h1, h2⟩ := ih h
      refine ⟨j + 1, h1, fun i q hi hq => ?_⟩
      cases i with
      | zero => obtain rfl := Option.some.inj hq; exact e
      | succ i => exact h2 i q (by omega) hq
theorem findNow_none {k : List UInt8} : ∀ (es : List MapEntry) (m : List (List UInt8 × Int)) (i : Nat), es.map kv = m.map enM → lk m k = none → Instr.findNow .string (.string (bs k)) es i = some none := by
  intro es
  induction es with
  | nil => intro m i _ _; rfl
  | cons e r ih =>
    intro m i he hl
    cases m with
    | nil => cases he
    | cons p m =>
      rw [List.map_cons, List.map_cons] at he
      injection he with h1 h2
      rw [lk] at hl
      split at hl
      · cases hl
      · rename_i hp
        have hk : e.key = .string (bs p.1) := congrArg Prod.fst h1
        have hs : Instr.sameNow .string (.string (bs k)) e.key = some false := by
          rw [hk]
          obtain ⟨r, h1, h2⟩ := MapKept.sameNow_of_keys (d := .string) (a := .string (bs k)) (b := .string (bs p.1)) trivial trivial
          rw [h1]
          cases r with
          | false => rfl
          | true =>
            have := h2.1 rfl
            simp only [Value.string.injEq] at this
            exact absurd (bs_inj this).symm hp
        rw [Instr.findNow, hs]
        exact ih m (i + 1) h2 hl
theorem findNow_some {k : List UInt8} {v : Int} : ∀ (es : List MapEntry) (m : List (List UInt8 × Int)) (i j : Nat), es.map kv = m.map enM → m[j]? = some (k, v) → (∀ (i' : Nat) (p : List UInt8 × Int), i' < j → m[i']? = some p → p.1 ≠ k) → Instr.findNow .string (.string (bs k)) es i = some (some (i + j, .int .i64 v)) := by
  intro es
  induction es with
  | nil =>
    intro m i j he hj _
    cases m with
    | nil => cases hj
    | cons p m => cases he
  | cons e r ih =>
    intro m i j he hj hb
    cases m with
    | nil => cases hj
    | cons p m =>
      rw [List.map_cons, List.map_cons] at he
      injection he with h1 h2
      have hk : e.key = .string (bs p.1) := congrArg Prod.fst h1
      have hv : e.val = .int .i64 p.2 := congrArg Prod.snd h1
      have hs : ∀ b, (k == p.1) = b → Instr.sameNow .string (.string (bs k)) e.key = some b := fun b hb => by
        rw [hk]
        obtain ⟨r, h1, h2⟩ := MapKept.sameNow_of_keys (d := .string) (a := .string (bs k)) (b := .string (bs p.1)) trivial trivial
        rw [h1, ← hb]
        congr 1
        rw [Bool.eq_iff_iff, h2, beq_iff_eq]
        simp only [Value.string.injEq]
        exact ⟨bs_inj, congrArg bs⟩
      cases j with
      | zero =>
        obtain rfl := Option.some.inj hj
        rw [Instr.findNow, hs true (by simp), hv]
        rfl
      | succ j =>
        have hne := hb 0 p (by omega) rfl
        rw [Instr.findNow, hs false (by simpa using fun h => hne h.symm)]
        have := ih m (i + 1) j h2 hj (fun i' q hi hq => hb (i' + 1) q (by omega) hq)
        rw [show i + (j + 1) = i + 1 + j by omega]
        exact this
structure MapOk (es : Array MapEntry) (clock : Nat) (f : List UInt8 → Option Int) (m : List (List UInt8 × Int)) : Prop where
  row : es.toList.map kv = m.map enM
  keys : (m.map (·.1)).Nodup
  lk : ∀ k, lk m k = f k
  born : ∀ e ∈ es.toList, e.born < clock
  apart : (es.toList.map (·.born)).Nodup
/-- A map in block b: what it holds, and how much. -/
def Mp (b : Nat) (f : List UInt8 → Option Int) (n : Nat) : As := fun h => ∃ es clock m, h b = some (.map es clock) ∧ MapOk es clock f m ∧ m.length = n
section
variable {P : Program} {g : Glob} {w w' : World} {l : List As} {f : List UInt8 → Option Int} {n n0 j b p : Nat} {t kt et ty : TypeId} {k : List UInt8} {v : Int}
theorem keyInt : MapKept.IsKey .string (.string (bs k)) := by trivial
theorem Sat.mp (H : Sat g w l) (j : Nat) (hj : l[j]? = some (Mp b f n)) : ∃ es clock m, w.heap[b]? = some (.map es clock) ∧ MapOk es clock f m ∧ m.length = n := by
  obtain ⟨a, ⟨es, clock, m, h1, h2, h3⟩, hs⟩ := H.part hj
  exact ⟨es, clock, m, hs b _ h1, h2, h3⟩
theorem rMakeMap {K : Value → World → Prop} (H : Sat g w l) (h : ∀ b w', Sat g w' (Mp b (fun _ => none) 0 :: l) → K (.map (some b)) w') : RunP P (Instr.makeMap t none) w K := by
  refine ⟨_, w.alloc (.map #[] 0), rfl, h _ _ (H.more ((Below.refl _ _).alloc (Nat.le_refl _) _) (a := fun k => if k = w.heap.size then some (.map #[] 0) else none) ⟨#[], 0, [], if_pos rfl, ⟨rfl, List.nodup_nil, fun _ => rfl, nofun, List.nodup_nil⟩, rfl⟩ (fun k o hk => ?_) fun k hk => if_neg (by omega))⟩
  dsimp only at hk
  split at hk
  · rename_i e; subst e; obtain rfl := Option.some.inj hk; exact heap_alloc_new w _
  · cases hk
theorem Sat.setMp {o : Obj} {A' : As} {es : Array MapEntry} {clock : Nat} {m : List (List UInt8 × Int)} (H : Sat g w l) (j : Nat) (hj : l[j]? = some (Mp b f n)) (hb : w.heap[b]? = some (.map es clock)) (hA : ∀ h : Hp, h b = some o → A' h) : Sat g { w with heap := w.heap.setIfInBounds b o } (l.set j A') := by
  obtain ⟨h1, h2⟩ := MapKept.heap_set (o' := o) hb
  refine H.step hj rfl rfl rfl fun a ha sa => ⟨fun k => if k = b then some o else none, hA _ (if_pos rfl), fun k o' hk => ?_, fun k hk hn => ?_⟩
  · dsimp only at hk
    split at hk
    · rename_i e; subst e; obtain rfl := Option.some.inj hk; exact h1
    · cases hk
  · obtain ⟨es', clock', m', h3, _⟩ := ha
    have hne : k ≠ b := fun e => by subst e; rw [h3] at hn; cases hn
    exact ⟨if_neg hne, h2 k hne⟩
theorem run_zero {z : Value} (w : World) (hz : (P.info? et).bind (fun i => i.zero) = some z) : (zeroValue et).run P w = .ok z w := by
  cases hi : P.info? et with
  | none => rw [hi] at hz; cases hz
  | some i =>
    rw [hi] at hz
    simp only [Option.bind_some] at hz
    simp [zeroValue, typeInfo, hi, hz]
theorem rMapGet {K : Value → World → Prop} (H : Sat g w l) (j : Nat) (hj : l[j]? = some (Mp b f n)) (ht : P.underlying t = some (.map kt et)) (hk : P.underlying kt = some .string) (hz : (P.info? et).bind (fun i => i.zero) = some (.int .i64 0))
    (h : ∀ x c, ((c = true ∧ f k = some x) ∨ (c = false ∧ f k = none ∧ x = 0)) → K (.tuple #[.int .i64 x, .bool c]) w) : RunP P (Instr.lookup t (.map (some b)) (.string (bs k)) true) w K := by
  obtain ⟨es, clock, m, hb, ok, hn⟩ := H.mp j hj
  have hl := ok.lk k
  cases hf : f k with
  | none =>
    rw [hf] at hl
    have h1 := findNow_none es.toList m 0 ok.row hl
    exact ⟨_, w, by simp [Instr.lookup, run_underlying ht, MapKept.run_getObj_map hb, MapKept.run_checkKey hk keyInt, MapKept.run_findKey hk h1, run_zero w hz, Result.andThen], h 0 false (.inr ⟨rfl, hf, rfl⟩)⟩
  | some x =>
    rw [hf] at hl
    obtain ⟨i, h2, h3⟩ := lk_at hl
    have h1 := findNow_some es.toList m 0 i ok.row h2 h3
    exact ⟨_, w, by simp [Instr.lookup, run_underlying ht, MapKept.run_getObj_map hb, MapKept.run_checkKey hk keyInt, MapKept.run_findKey hk h1, Result.andThen], h x true (.inl ⟨rfl, hf⟩)⟩
theorem lk_snoc {m : List (List UInt8 × Int)} {k : List UInt8} {v : Int} (h : lk m k = none) (x : List UInt8) : lk (m ++ [(k, v)]) x = if x = k then some v else lk m x := by
  induction m with
  | nil =>
    show (if k = x then some v else none) = _
    by_cases e : x = k
    · rw [if_pos e, if_pos e.symm]
    · rw [if_neg e, if_neg (Ne.symm e)]; rfl
  | cons p r ih =>
    rw [lk] at h
    split at h
    · cases h
    rename_i hp
    rw [List.cons_append, lk, lk]
    by_cases e : p.1 = x
    · rw [if_pos e, if_pos e, if_neg (fun e2 => hp (e.trans e2))]
    · rw [if_neg e, if_neg e]; exact ih h
theorem lk_set {m : List (List UInt8 × Int)} {k : List UInt8} {v v' : Int} {i : Nat} (hn : (m.map (·.1)).Nodup) (h : m[i]? = some (k, v)) (x : List UInt8) : lk (m.set i (k, v')) x = if x = k then some v' else lk m x := by
  induction m generalizing i with
  | nil => cases h
  | cons p r ih =>
    rw [List.map_cons, List.nodup_cons] at hn
    cases i with
    | zero =>
      obtain rfl := Option.some.inj h
      rw [List.set_cons_zero, lk, lk]
      by_cases e : x = k
      · rw [if_pos e, if_pos e.symm]
      · rw [if_neg e, if_neg (fun e2 => e e2.symm), if_neg (fun e2 => e e2.symm)]
    | succ i =>
      rw [List.set_cons_succ, lk, lk]
      have hpk : p.1 ≠ k := fun e => hn.1 (e ▸ List.mem_map.2 ⟨_, List.mem_of_getElem? h, rfl⟩)
      by_cases e : p.1 = x
      · rw [if_pos e, if_pos e, if_neg (fun e2 => hpk (e.trans e2))]
      · rw [if_neg e, if_neg e]; exact ih hn.2 h
theorem rMapPut {K : World → Prop} (H : Sat g w l) (j : Nat) (hj : l[j]? = some (Mp b f n)) (ht : P.underlying t = some (.map kt et)) (hk : P.underlying kt = some .string)
    (h : ∀ n', n' = (if f k = none then n + 1 else n) → setA l j (Mp b (upd f k (some v)) n') fun l' => ∀ w', Sat g w' l' → K w') : DoP P (Instr.mapUpdate t (.map (some b)) (.string (bs k)) (.int .i64 v)) w K := by
  obtain ⟨es, clock, m, hb, ok, hn⟩ := H.mp j hj
  have hl := ok.lk k
  have h := h _ rfl
  rw [setA_eq] at h
  cases hf : f k with
  | none =>
    rw [hf] at hl
    have h1 := findNow_none es.toList m 0 ok.row hl
    refine ⟨_, by simp [Instr.mapUpdate, run_underlying ht, MapKept.run_getObj_map hb, MapKept.run_checkKey hk keyInt, MapKept.run_findKey hk h1, MapKept.run_setObj_map _ hb, Result.andThen]; rfl, h _ (H.setMp (m := m) j hj hb fun hp e => ⟨_, _, m ++ [(k, v)], e, ⟨?_, ?_, fun x => ?_, ?_, ?_⟩, ?_⟩)⟩
    · rw [Array.toList_push, List.map_append, List.map_append, ok.row]; rfl
    · rw [List.map_append, List.nodup_append]
      refine ⟨ok.keys, by simp, fun a ha c hc e => ?_⟩
      obtain ⟨q, hq, rfl⟩ := List.mem_map.1 ha
      have hc : c = k := by simpa using hc
      exact lk_none.1 hl q hq (e.trans hc)
    · rw [lk_snoc hl]; unfold upd; rw [ok.lk]
    · intro e he
      rw [Array.toList_push] at he
      rcases List.mem_append.1 he with he | he
      · have := ok.born e he; omega
      · obtain rfl : e = _ := by simpa using he
        exact Nat.lt_succ_self _
    · rw [Array.toList_push, List.map_append, List.nodup_append]
      refine ⟨ok.apart, by simp, fun a ha c hc e => ?_⟩
      obtain ⟨q, hq, rfl⟩ := List.mem_map.1 ha
      have hc : c = clock := by simpa using hc
      have := ok.born q hq
      omega
    · rw [List.length_append, hn, if_pos hf]; rfl
  | some x =>
    rw [hf] at hl
    obtain ⟨i, h2, h3⟩ := lk_at hl
    have h1 := findNow_some es.toList m 0 i ok.row h2 h3
    rw [Nat.zero_add] at h1
    have hil : i < es.size := by
      have := congrArg List.length ok.row
      have := (List.getElem?_eq_some_iff.1 h2).1
      simp at *; omega
    have hei : kv es[i] = enM (k, x) := by
      have := congrArg (·[i]?) ok.row
      simp only [List.getElem?_map, h2, Option.map_some, Array.getElem?_toList, Array.getElem?_eq_getElem hil] at this
      exact Option.some.inj this
    have hke : es[i].key = .string (bs k) := congrArg Prod.fst hei
    have hmod : (es.modify i fun e => { e with key := .string (bs k), val := .int .i64 v }).toList = es.toList.set i { es[i] with key := .string (bs k), val := .int .i64 v } := by
      rw [Array.toList_modify]
      apply List.ext_getElem?
      intro q
      rw [List.getElem?_modify, List.getElem?_set]
      split
      · rename_i e
        subst e
        simp [hil]
      · simp
    refine ⟨_, by simp [Instr.mapUpdate, run_underlying ht, MapKept.run_getObj_map hb, MapKept.run_checkKey hk keyInt, MapKept.run_findKey hk h1, hil, hke, MapKept.run_keyThatStays (d := .string) keyInt, MapKept.run_setObj_map _ hb, Result.andThen]; rfl, h _ (H.setMp (m := m) j hj hb fun hp e => ⟨_, _, m.set i (k, v), e, ⟨?_, ?_, fun y => ?_, ?_, ?_⟩, ?_⟩)⟩
    · rw [hmod, List.map_set, List.map_set, ok.row]; rfl
    · rw [List.map_set]
      have : (m.map (·.1)).set i k = m.map (·.1) := by
        apply List.ext_getElem?
        intro q
        rw [List.getElem?_set]
        split
        · rename_i e
          subst e
          rw [if_pos (by simpa using (List.getElem?_eq_some_iff.1 h2).1), List.getElem?_map, h2]; rfl
        · rfl
      rw [this]; exact ok.keys
    · rw [lk_set ok.keys h2]; unfold upd; rw [ok.lk]
    · intro e he
      rw [hmod] at he
      rcases List.mem_or_eq_of_mem_set he with he | he
      · exact ok.born e he
      · rw [he]; exact ok.born es[i] (by simp)
    · rw [hmod, List.map_set]
      have : (es.toList.map (·.born)).set i es[i].born = es.toList.map (·.born) := by
        apply List.ext_getElem?
        intro q
        rw [List.getElem?_set]
        split
        · rename_i e
          subst e
          simp [hil]
        · rfl
      show ((es.toList.map (·.born)).set i es[i].born).Nodup
      rw [this]; exact ok.apart
    · rw [List.length_set, hn, if_neg (by rw [hf]; nofun)]
end
end Go.Proofs.YtndhikahjmgamaaGreatDoor.Eng
/- The document's Rest. -/
set_option maxRecDepth 100000
set_option maxHeartbeats 4000000
set_option linter.unusedVariables false
set_option linter.unusedSimpArgs false
namespace Go.Proofs.YtndhikahjmgamaaGreatDoor.Ref
open Go Go.Proofs.YtndhikahjmgamaaGreatDoor.Eng Go.RowKit
def enI (n : Int) : List Value := [.int .i64 n]
theorem rem_ways {a b : Int} (hb : 0 < b) (h : a < 0) : (vRem a b = 0 ∧ a % b = 0) ∨ (vRem a b < 0 ∧ a % b = vRem a b + b) := by
  unfold vRem
  rw [Int.tmod_eq_emod]
  have h1 := Int.emod_nonneg a (Int.ne_of_gt hb)
  have h2 := Int.emod_lt_of_pos a hb
  by_cases hd : b ∣ a
  · left
    have := Int.emod_eq_zero_of_dvd hd
    rw [if_pos (.inr hd)]
    omega
  · right
    rw [if_neg (by rintro (h' | h'); omega; exact hd h')]
    have : (b.natAbs : Int) = b := by omega
    rw [this]
    omega
theorem rest (n m : Int) (hn : -9223372036854775808 ≤ n ∧ n ≤ 9223372036854775807) (hm : 0 < m ∧ m ≤ 9223372036854775807) (w : World) : Fc Tryz.prog 12 #[.int .i64 n, .int .i64 m] w (fun v w' => v = .int .i64 (n % m) ∧ w = w') := by
  refine Fc.of Tryz.func12 rfl (by kernel_rfl) ?_
  have H := Sat.start w
  have h1 := Int.emod_nonneg n (Int.ne_of_gt hm.1)
  have h2 := Int.emod_lt_of_pos n hm.1
  rcases Int.lt_or_le n 0 with hlt | hge
  · have hw := rem_ways hm.1 hlt
    refine DivP.mk (by omega) ?_
    refine EqP.keep ?_
    refine cI (fun c1 => ?_) (fun c1 => ?_)
    · replace c1 := vLt_t (c1)
      refine eqI64 (by omega) ?_
      refine Done.mk ?_
      refine ⟨?_, ?_⟩
      · refine int_eq ?_
        omega
      rfl
    replace c1 := vLt_f (c1)
    refine Done.mk ?_
    refine ⟨?_, ?_⟩
    · refine int_eq ?_
      omega
    rfl
  · refine DivP.mk (by omega) ?_
    refine eqRem (by omega) ?_
    refine cF (vLt_F (by assumption)) ?_
    refine Done.mk ?_
    exact ⟨rfl, rfl⟩
end Go.Proofs.YtndhikahjmgamaaGreatDoor.Ref
/- What belongs together in a body: pairs that lie in one another, or apart. -/
set_option maxRecDepth 100000
set_option linter.unusedVariables false
set_option linter.unusedSimpArgs false
namespace Go.Proofs.YtndhikahjmgamaaGreatDoor.Nest
open Go.Proofs.YtndhikahjmgamaaGreatDoor.Leb Go.Proofs.YtndhikahjmgamaaGreatDoor.Txt Go.Proofs.YtndhikahjmgamaaGreatDoor.Ins
def gd (l : List Int) (i : Nat) : Int := l.getD i 0
theorem gd_set {l : List Int} {k i : Nat} {v : Int} (h : k < l.length) : gd (l.set k v) i = if i = k then v else gd l i := by
  unfold gd
  rw [List.getD_eq_getElem?_getD, List.getD_eq_getElem?_getD, List.getElem?_set]
  by_cases e : i = k
  · subst e; rw [if_pos rfl, if_pos h, if_pos rfl]; rfl
  · rw [if_neg (Ne.symm e), if_neg e]
theorem gd_self {l : List Int} {k : Nat} {v : Int} (h : k < l.length) : gd (l.set k v) k = v := by rw [gd_set h, if_pos rfl]
theorem gd_ne {l : List Int} {k i : Nat} {v : Int} (e : i ≠ k) : gd (l.set k v) i = gd l i := by
  unfold gd
  rw [List.getD_eq_getElem?_getD, List.getD_eq_getElem?_getD, List.getElem?_set_ne (Ne.symm e)]
theorem gd_of {l : List Int} {k : Nat} {v : Int} (h : l[k]? = some v) : gd l k = v := by
  unfold gd; rw [List.getD_eq_getElem?_getD, h]; rfl
def oo (l : List InsD) (i : Nat) : Int := ((l[i]?).map InsD.op).getD 0
theorem oo_of {l : List InsD} {i : Nat} {x : InsD} (h : l[i]? = some x) : oo l i = x.op := by unfold oo; rw [h]; rfl
def opn (l : List InsD) (i : Nat) : Prop := oo l i = 2 ∨ oo l i = 3 ∨ oo l i = 4
structure MI (l : List InsD) (k : Nat) (st : NS) (E L : List Int) : Prop where
  eL : E.length = l.length
  lL : L.length = l.length
  cur : st = stB l k
  inc : st.op.Pairwise (· < ·)
  mem : ∀ m ∈ st.op, m = -1 ∨ ∃ i : Nat, m = i ∧ i < k ∧ opn l i
  root : st.over = false → st.op[0]? = some (-1) ∧ st.last[0]? = some 2
  last : ∀ j i : Nat, st.op[j]? = some (i : Int) → gd E i = -1 ∧ ((st.last[j]? = some (oo l i) ∧ gd L i = -1) ∨ (st.last[j]? = some 5 ∧ oo l i = 4 ∧ ∃ h : Nat, gd L i = h ∧ i < h ∧ h < k ∧ oo l h = 5 ∧ gd L h = i))
  closed : ∀ i, i < k → opn l i → (i : Int) ∉ st.op → ∃ e : Nat, gd E i = e ∧ i < e ∧ e < k ∧ oo l e = 11 ∧ gd E e = i ∧ (gd L i = -1 ∨ ∃ h : Nat, gd L i = h ∧ i < h ∧ h < e ∧ oo l i = 4 ∧ oo l h = 5 ∧ gd L h = i ∧ gd E h = e) ∧ ∀ m ∈ st.op, ¬ ((i : Int) < m ∧ m < e)
  pair : ∀ i j, i < j → j < k → opn l i → opn l j → (i : Int) ∉ st.op → (j : Int) ∉ st.op → gd E j < gd E i ∨ gd E i < j
theorem MI.zero {l : List InsD} {E L : List Int} (h1 : E.length = l.length) (h2 : L.length = l.length) : MI l 0 ns0 E L := by
  refine ⟨h1, h2, rfl, by simp [ns0], fun m hm => ?_, fun _ => ⟨rfl, rfl⟩, fun j i h => ?_, fun i h => absurd h (Nat.not_lt_zero i), fun i j _ h => absurd h (Nat.not_lt_zero j)⟩
  · left; simpa [ns0] using hm
  · have := List.mem_of_getElem? h
    simp [ns0] at this
theorem inc_ne {l : List Int} (h : l.Pairwise (· < ·)) {i j : Nat} {x : Int} (h1 : l[i]? = some x) (h2 : l[j]? = some x) : i = j := by
  have key : ∀ {a b : Nat}, a < b → l[a]? = some x → l[b]? = some x → False := fun {a b} hab ha hb => by
    obtain ⟨ha1, ha2⟩ := List.getElem?_eq_some_iff.1 ha
    obtain ⟨hb1, hb2⟩ := List.getElem?_eq_some_iff.1 hb
    have := List.pairwise_iff_getElem.1 h a b ha1 hb1 hab
    rw [ha2, hb2] at this; omega
  rcases Nat.lt_trichotomy i j with h3 | h3 | h3
  · exact (key h3 h1 h2).elim
  · exact h3
  · exact (key h3 h2 h1).elim
/-- Nothing is opened or shut. -/
theorem MI.plain {l : List InsD} {k : Nat} {op last : List Int} {E L : List Int} {x : InsD} {is : Int} (h : MI l k ⟨op, last, false⟩ E L) (hx : l[k]? = some x) (h2 : x.op ≠ 2) (h3 : x.op ≠ 3) (h4 : x.op ≠ 4) (h5 : x.op ≠ 5) (h11 : x.op ≠ 11) (hn : nextS ⟨op, last, false⟩ x.op k = (⟨op, last, false⟩, is, 0)) : MI l (k + 1) ⟨op, last, false⟩ (E.set k (-1)) (L.set k (-1)) := by
  have hox := oo_of hx
  have hno : ∀ i, opn l i → i ≠ k := fun i hi e => by subst e; unfold opn at hi; omega
  obtain ⟨e1, e2, e3, e4, e5, e6, e7, e8, e9⟩ := h
  refine ⟨by simpa using e1, by simpa using e2, by rw [stB_succ hx, ← e3, hn], e4, fun m hm => ?_, e6, fun j i hj => ?_, fun i hi ho hm => ?_, fun i j hij hj oi oj mi mj => ?_⟩
  · rcases e5 m hm with r | ⟨i, r1, r2, r3⟩
    · exact .inl r
    · exact .inr ⟨i, r1, by omega, r3⟩
  · obtain ⟨a1, a2⟩ := e7 j i hj
    have hik : i ≠ k := by
      rcases e5 _ (List.mem_of_getElem? hj) with r | ⟨i', r1, r2, r3⟩ <;> omega
    rw [gd_ne hik, gd_ne hik]
    refine ⟨a1, a2.imp id fun ⟨b1, b2, q, b3, b4, b5, b6, b7⟩ => ⟨b1, b2, q, b3, b4, by omega, b6, ?_⟩⟩
    rw [gd_ne (by omega)]; exact b7
  · have hik := hno i ho
    obtain ⟨e, a1, a2, a3, a4, a5, a6, a7⟩ := e8 i (by omega) ho hm
    rw [gd_ne hik, gd_ne hik]
    refine ⟨e, a1, a2, by omega, a4, by rw [gd_ne (by omega)]; exact a5, a6.imp id fun ⟨q, b1, b2, b3, b4, b5, b6, b7⟩ => ⟨q, b1, b2, b3, b4, b5, by rw [gd_ne (by omega)]; exact b6, by rw [gd_ne (by omega)]; exact b7⟩, a7⟩
  · rw [gd_ne (hno i oi), gd_ne (hno j oj)]
    exact e9 i j hij (by have := hno j oj; omega) oi oj mi mj
theorem MI.opens {l : List InsD} {k : Nat} {op last : List Int} {E L : List Int} {x : InsD} {is : Int} (h : MI l k ⟨op, last, false⟩ E L) (hx : l[k]? = some x) (ho : x.op = 2 ∨ x.op = 3 ∨ x.op = 4) (hn : nextS ⟨op, last, false⟩ x.op k = (⟨op ++ [(k : Int)], last ++ [x.op], false⟩, is, 0)) : MI l (k + 1) ⟨op ++ [(k : Int)], last ++ [x.op], false⟩ (E.set k (-1)) (L.set k (-1)) := by
  have hox := oo_of hx
  have hlt := (List.getElem?_eq_some_iff.1 hx).1
  have hok := stB_ok l k
  obtain ⟨e1, e2, e3, e4, e5, e6, e7, e8, e9⟩ := h
  rw [← e3] at hok
  have hlen := hok.len
  simp only at hlen e3 e4 e5 e6 e7 e8 e9
  have hopn : opn l k := by unfold opn; rw [hox]; exact ho
  refine ⟨by simpa using e1, by simpa using e2, by rw [stB_succ hx, ← e3, hn], ?_, fun m hm => ?_, fun _ => ?_, fun j i hj => ?_, fun i hi hoi hm => ?_, fun i j hij hj oi oj mi mj => ?_⟩
  · rw [List.pairwise_append]
    refine ⟨e4, by simp, fun a ha b hb => ?_⟩
    rw [List.mem_singleton.1 hb]
    rcases e5 a ha with r | ⟨i, r1, r2, r3⟩ <;> omega
  · rcases List.mem_append.1 hm with hm | hm
    · rcases e5 m hm with r | ⟨i, r1, r2, r3⟩
      · exact .inl r
      · exact .inr ⟨i, r1, by omega, r3⟩
    · exact .inr ⟨k, List.mem_singleton.1 hm, by omega, hopn⟩
  · obtain ⟨r1, r2⟩ := e6 trivial
    have l1 := (List.getElem?_eq_some_iff.1 r1).1
    exact ⟨by rw [List.getElem?_append_left l1]; exact r1, by rw [List.getElem?_append_left (by omega)]; exact r2⟩
  · rw [List.getElem?_append] at hj
    split at hj
    · rename_i hjl
      obtain ⟨a1, a2⟩ := e7 j i hj
      have hik : i ≠ k := by
        rcases e5 _ (List.mem_of_getElem? hj) with r | ⟨i', r1, r2, r3⟩ <;> omega
      rw [gd_ne hik, gd_ne hik, List.getElem?_append_left (by omega)]
      refine ⟨a1, a2.imp id fun ⟨b1, b2, q, b3, b4, b5, b6, b7⟩ => ⟨b1, b2, q, b3, b4, by omega, b6, ?_⟩⟩
      rw [gd_ne (by omega)]; exact b7
    · rename_i hjl
      have hj0 : j = op.length := by
        have := (List.getElem?_eq_some_iff.1 hj).1
        simp at this; omega
      subst hj0
      simp at hj
      have : i = k := by omega
      subst this
      rw [gd_self (by omega), gd_self (by omega)]
      refine ⟨rfl, .inl ⟨?_, rfl⟩⟩
      rw [← hlen, List.getElem?_append_right (Nat.le_refl _), hox]; simp
  · have hm1 : (i : Int) ∉ op := fun h => hm (List.mem_append_left _ h)
    have hik : i ≠ k := fun e => hm (by subst e; simp)
    obtain ⟨e, a1, a2, a3, a4, a5, a6, a7⟩ := e8 i (by omega) hoi hm1
    rw [gd_ne hik, gd_ne hik]
    refine ⟨e, a1, a2, by omega, a4, by rw [gd_ne (by omega)]; exact a5, a6.imp id fun ⟨q, b1, b2, b3, b4, b5, b6, b7⟩ => ⟨q, b1, b2, b3, b4, b5, by rw [gd_ne (by omega)]; exact b6, by rw [gd_ne (by omega)]; exact b7⟩, fun m hm => ?_⟩
    rcases List.mem_append.1 hm with hm | hm
    · exact a7 m hm
    · rw [List.mem_singleton.1 hm]; omega
  · have m1 : (i : Int) ∉ op := fun h => mi (List.mem_append_left _ h)
    have m2 : (j : Int) ∉ op := fun h => mj (List.mem_append_left _ h)
    have hik : i ≠ k := fun e => mi (by subst e; simp)
    have hjk : j ≠ k := fun e => mj (by subst e; simp)
    rw [gd_ne hik, gd_ne hjk]
    exact e9 i j hij (by omega) oi oj m1 m2
/-- The top of the stack, where it is not the body itself. -/
theorem MI.top {l : List InsD} {k : Nat} {op last : List Int} {E L : List Int} (h : MI l k ⟨op, last, false⟩ E L) {y : Int} (hy : op[op.length - 1]? = some y) : (y = -1 ∧ op.length = 1 ∧ last[op.length - 1]? = some 2) ∨ ∃ i : Nat, y = i ∧ i < k ∧ opn l i ∧ 1 < op.length := by
  obtain ⟨r1, r2⟩ := h.root rfl
  simp only at r1 r2
  by_cases h1 : op.length = 1
  · left
    rw [h1] at hy ⊢
    rw [show 1 - 1 = 0 from rfl, r1] at hy
    exact ⟨(Option.some.inj hy).symm, rfl, r2⟩
  · right
    rcases h.mem y (List.mem_of_getElem? hy) with r | ⟨i, q1, q2, q3⟩
    · exfalso
      subst r
      have := inc_ne h.inc r1 hy
      have := (List.getElem?_eq_some_iff.1 r1).1
      omega
    · have := (List.getElem?_eq_some_iff.1 hy).1
      exact ⟨i, q1, q2, q3, by omega⟩
theorem MI.else_ {l : List InsD} {k : Nat} {op last : List Int} {E L : List Int} {x : InsD} {y z : Int} (h : MI l k ⟨op, last, false⟩ E L) (hx : l[k]? = some x) (ho : x.op = 5) (hz : last[op.length - 1]? = some z) (hz4 : z = 4) (hy : op[op.length - 1]? = some y)
    (hn : nextS ⟨op, last, false⟩ x.op k = (⟨op, last.set (op.length - 1) 5, false⟩, y, 0)) : MI l (k + 1) ⟨op, last.set (op.length - 1) 5, false⟩ (E.set k (-1)) (((L.set k (-1)).set k y).set y.toNat k) ∧ 0 ≤ y ∧ y.toNat < l.length := by
  subst hz4
  have hox := oo_of hx
  have hlt := (List.getElem?_eq_some_iff.1 hx).1
  have ht := h.top hy
  rw [hz] at ht
  obtain ⟨i0, rfl, hi0, hop0, hl1⟩ : ∃ i : Nat, y = i ∧ i < k ∧ opn l i ∧ 1 < op.length := by
    rcases ht with ⟨_, _, r⟩ | r
    · cases r
    · exact r
  rw [Int.toNat_natCast]
  obtain ⟨e1, e2, e3, e4, e5, e6, e7, e8, e9⟩ := h
  simp only at e3 e4 e5 e6 e7 e8 e9
  have hno : ∀ i, opn l i → i ≠ k := fun i hi e => by subst e; unfold opn at hi; omega
  have h50 : ∀ i, oo l i = 5 → i ≠ i0 := fun i hi e => by subst e; unfold opn at hop0; omega
  have gL : ∀ i, i ≠ k → i ≠ i0 → gd (((L.set k (-1)).set k (i0 : Int)).set i0 k) i = gd L i := fun i h1 h2 => by rw [gd_ne h2, gd_ne h1, gd_ne h1]
  have hl0 : oo l i0 = 4 := by
    obtain ⟨_, r | ⟨r1, r2, _⟩⟩ := e7 _ _ hy
    · rw [hz] at r; exact (Option.some.inj r.1).symm
    · exact r2
  refine ⟨⟨by simpa using e1, by simpa using e2, by rw [stB_succ hx, ← e3, hn], e4, fun m hm => ?_, fun _ => ?_, fun j i hj => ?_, fun i hi hoi hm => ?_, fun i j hij hj oi oj mi mj => ?_⟩, by omega, by omega⟩
  · rcases e5 m hm with r | ⟨i, r1, r2, r3⟩
    · exact .inl r
    · exact .inr ⟨i, r1, by omega, r3⟩
  · obtain ⟨r1, r2⟩ := e6 trivial
    refine ⟨r1, ?_⟩
    show (last.set _ 5)[0]? = _
    rw [List.getElem?_set_ne (by omega)]; exact r2
  · have hj : op[j]? = some (i : Int) := hj
    have hik : i ≠ k := by
      rcases e5 _ (List.mem_of_getElem? hj) with r | ⟨i', r1, r2, r3⟩ <;> omega
    by_cases hjt : j = op.length - 1
    · subst hjt
      rw [hy] at hj
      have : i = i0 := by have := Option.some.inj hj; omega
      subst this
      refine ⟨by rw [gd_ne hik]; exact (e7 _ _ hy).1, .inr ⟨?_, hl0, k, gd_self (by simp; omega), hi0, by omega, by rw [hox]; exact ho, ?_⟩⟩
      · show (last.set _ 5)[_]? = _
        rw [List.getElem?_set_self (List.getElem?_eq_some_iff.1 hz).1]
      · rw [gd_ne (Ne.symm hik), gd_self (by simp; omega)]
    · have hi0' : i ≠ i0 := fun e => by subst e; exact hjt (inc_ne e4 hj hy)
      obtain ⟨a1, a2⟩ := e7 j i hj
      rw [gd_ne hik, gL i hik hi0']
      have hls : (last.set (op.length - 1) 5)[j]? = last[j]? := List.getElem?_set_ne (by omega)
      refine ⟨a1, ?_⟩
      show ((last.set (op.length - 1) 5)[j]? = _ ∧ _) ∨ ((last.set (op.length - 1) 5)[j]? = _ ∧ _)
      rw [hls]
      exact a2.imp id fun ⟨b1, b2, q, b3, b4, b5, b6, b7⟩ => ⟨b1, b2, q, b3, b4, by omega, b6, by rw [gL q (by omega) (h50 q b6)]; exact b7⟩
  · have hik := hno i hoi
    have hi0' : i ≠ i0 := fun e => hm (by subst e; exact List.mem_of_getElem? hy)
    obtain ⟨e, a1, a2, a3, a4, a5, a6, a7⟩ := e8 i (by omega) hoi hm
    rw [gd_ne hik, gL i hik hi0']
    exact ⟨e, a1, a2, by omega, a4, by rw [gd_ne (by omega)]; exact a5, a6.imp id fun ⟨q, b1, b2, b3, b4, b5, b6, b7⟩ => ⟨q, b1, b2, b3, b4, b5, by rw [gL q (by omega) (h50 q b5)]; exact b6, by rw [gd_ne (by omega)]; exact b7⟩, a7⟩
  · rw [gd_ne (hno i oi), gd_ne (hno j oj)]
    exact e9 i j hij (by have := hno j oj; omega) oi oj mi mj
theorem MI.end_root {l : List InsD} {k : Nat} {op last : List Int} {E L : List Int} {x : InsD} {y : Int} {q : Bool} (h : MI l k ⟨op, last, false⟩ E L) (hx : l[k]? = some x) (ho : x.op = 11) (hy : op[op.length - 1]? = some y) (hy0 : y < 0)
    (hn : nextS ⟨op, last, false⟩ x.op k = (⟨op.take (op.length - 1), last.take (op.length - 1), q⟩, y, 0)) : MI l (k + 1) ⟨op.take (op.length - 1), last.take (op.length - 1), q⟩ ((E.set k (-1)).set k y) (L.set k (-1)) := by
  have hox := oo_of hx
  have hlt := (List.getElem?_eq_some_iff.1 hx).1
  obtain ⟨rfl, hl1, _⟩ : y = -1 ∧ op.length = 1 ∧ last[op.length - 1]? = some 2 := by
    rcases h.top hy with r | ⟨i, r, _⟩
    · exact r
    · omega
  have hq : q = true := by
    have := nextS
    unfold nextS at hn
    rw [if_neg (by simp), if_neg (by omega), if_neg (by omega), if_pos ho] at hn
    injection hn with hn _
    injection hn with _ _ hn
    rw [← hn]; simp [hl1]
  have hop : op = [-1] := by
    match op, hl1 with
    | [a], _ => have hy : [a][0]? = some (-1) := hy; rw [show a = -1 from Option.some.inj hy]
  subst hop
  obtain ⟨e1, e2, e3, e4, e5, e6, e7, e8, e9⟩ := h
  simp only at e3 e4 e5 e6 e7 e8 e9
  have hno : ∀ i, opn l i → i ≠ k := fun i hi e => by subst e; unfold opn at hi; omega
  refine ⟨by simpa using e1, by simpa using e2, by rw [stB_succ hx, ← e3, hn], by simp, (fun m hm => by simp at hm), (fun h => by rw [hq] at h; cases h), (fun j i hj => by simp at hj), fun i hi hoi hm => ?_, fun i j hij hj oi oj mi mj => ?_⟩
  · have hik := hno i hoi
    obtain ⟨e, a1, a2, a3, a4, a5, a6, a7⟩ := e8 i (by omega) hoi (by simp)
    rw [gd_ne hik, gd_ne hik, gd_ne hik]
    exact ⟨e, a1, a2, by omega, a4, by rw [gd_ne (by omega), gd_ne (by omega)]; exact a5, a6.imp id fun ⟨q, b1, b2, b3, b4, b5, b6, b7⟩ => ⟨q, b1, b2, b3, b4, b5, by rw [gd_ne (by omega)]; exact b6, by rw [gd_ne (by omega), gd_ne (by omega)]; exact b7⟩, fun m hm => by simp at hm⟩
  · rw [gd_ne (hno i oi), gd_ne (hno j oj), gd_ne (hno i oi), gd_ne (hno j oj)]
    exact e9 i j hij (by have := hno j oj; omega) oi oj (by simp) (by simp)
theorem take_last {l : List Int} {y : Int} (hy : l[l.length - 1]? = some y) : l = l.take (l.length - 1) ++ [y] := by
  have hlt := (List.getElem?_eq_some_iff.1 hy).1
  conv => lhs; rw [← List.take_length (l := l), show l.length = (l.length - 1) + 1 by omega, List.take_add_one, hy]
  rfl
theorem MI.end_ {l : List InsD} {k : Nat} {op last : List Int} {E L E' : List Int} {x : InsD} {y : Int} {q : Bool} (h : MI l k ⟨op, last, false⟩ E L) (hx : l[k]? = some x) (ho : x.op = 11) (hy : op[op.length - 1]? = some y) (hy0 : 0 ≤ y)
    (hn : nextS ⟨op, last, false⟩ x.op k = (⟨op.take (op.length - 1), last.take (op.length - 1), q⟩, y, 0))
    (hE : E' = if 0 ≤ gd (L.set k (-1)) y.toNat then (((E.set k (-1)).set k y).set y.toNat k).set (gd (L.set k (-1)) y.toNat).toNat k else ((E.set k (-1)).set k y).set y.toNat k) :
    MI l (k + 1) ⟨op.take (op.length - 1), last.take (op.length - 1), q⟩ E' (L.set k (-1)) ∧ y.toNat < l.length ∧ (0 ≤ gd (L.set k (-1)) y.toNat → (gd (L.set k (-1)) y.toNat).toNat < l.length) := by
  have hox := oo_of hx
  have hlt := (List.getElem?_eq_some_iff.1 hx).1
  obtain ⟨i0, rfl, hi0, hop0, hl1⟩ : ∃ i : Nat, y = i ∧ i < k ∧ opn l i ∧ 1 < op.length := by
    rcases h.top hy with ⟨r, _⟩ | r
    · omega
    · exact r
  rw [Int.toNat_natCast] at *
  have hok := stB_ok l k
  obtain ⟨e1, e2, e3, e4, e5, e6, e7, e8, e9⟩ := h
  rw [← e3] at hok
  have hlen := hok.len
  simp only at hlen e3 e4 e5 e6 e7 e8 e9
  have hq : q = false := by
    unfold nextS at hn
    rw [if_neg (by simp), if_neg (by omega), if_neg (by omega), if_pos ho] at hn
    injection hn with hn _
    injection hn with _ _ hn
    rw [← hn]; simp; omega
  have hi0k : i0 ≠ k := by omega
  have hno : ∀ i, opn l i → i ≠ k := fun i hi e => by subst e; unfold opn at hi; omega
  rw [gd_ne hi0k] at hE ⊢
  obtain ⟨a0, aL⟩ := e7 _ _ hy
  -- the else of the block, if there is one
  have hh : gd L i0 = -1 ∨ ∃ h : Nat, gd L i0 = h ∧ i0 < h ∧ h < k ∧ oo l h = 5 ∧ gd L h = i0 ∧ oo l i0 = 4 := by
    rcases aL with ⟨_, r⟩ | ⟨_, r0, r⟩
    · exact .inl r
    · obtain ⟨h, r1, r2, r3, r4, r5⟩ := r; exact .inr ⟨h, r1, r2, r3, r4, r5, r0⟩
  have hEl : E'.length = l.length := by rw [hE]; split <;> simpa using e1
  have gk : gd E' k = i0 := by
    rcases hh with r | ⟨h, r1, r2, r3, r4, r5, r6⟩
    · rw [hE, if_neg (by omega), gd_ne (Ne.symm hi0k), gd_self (by simp; omega)]
    · rw [hE, if_pos (by omega), r1, Int.toNat_natCast, gd_ne (by omega), gd_ne (Ne.symm hi0k), gd_self (by simp; omega)]
  have g0 : gd E' i0 = k := by
    rcases hh with r | ⟨h, r1, r2, r3, r4, r5, r6⟩
    · rw [hE, if_neg (by omega), gd_self (by simp; omega)]
    · rw [hE, if_pos (by omega), r1, Int.toNat_natCast, gd_ne (by omega), gd_self (by simp; omega)]
  have gE : ∀ i, i ≠ k → i ≠ i0 → (gd L i0 ≠ i) → gd E' i = gd E i := fun i h1 h2 h3 => by
    rw [hE]
    split
    · rw [gd_ne (by omega), gd_ne h2, gd_ne h1, gd_ne h1]
    · rw [gd_ne h2, gd_ne h1, gd_ne h1]
  have hsp := take_last hy
  have htm : ∀ m ∈ op.take (op.length - 1), m ∈ op ∧ m < (i0 : Int) := fun m hm => by
    refine ⟨List.mem_of_mem_take hm, ?_⟩
    rw [hsp, List.pairwise_append] at e4
    exact e4.2.2 m hm _ (List.mem_singleton_self _)
  have hni : ∀ i : Nat, (i : Int) ∉ op.take (op.length - 1) → i ≠ i0 → (i : Int) ∉ op := fun i h1 h2 h3 => by
    rw [hsp] at h3
    rcases List.mem_append.1 h3 with r | r
    · exact h1 r
    · have := List.mem_singleton.1 r; omega
  have hLn : ∀ i, opn l i → gd L i0 ≠ i := fun i hi e => by
    rcases hh with r | ⟨h, r1, r2, r3, r4, r5, r6⟩
    · omega
    · have : h = i := by omega
      subst this; unfold opn at hi; omega
  have hL11 : ∀ i, oo l i = 11 → gd L i0 ≠ i := fun i hi e => by
    rcases hh with r | ⟨h, r1, r2, r3, r4, r5, r6⟩
    · omega
    · have : h = i := by omega
      subst this; omega
  -- a closed pair ahead of this one
  have hcl : ∀ i, i < k → opn l i → (i : Int) ∉ op → ∃ e : Nat, gd E' i = e ∧ gd E i = e ∧ i < e ∧ e < k ∧ oo l e = 11 ∧ gd E' e = i ∧ (gd L i = -1 ∨ ∃ h : Nat, gd L i = h ∧ i < h ∧ h < e ∧ oo l i = 4 ∧ oo l h = 5 ∧ gd L h = i ∧ gd E' h = e) ∧ ∀ m ∈ op, ¬ ((i : Int) < m ∧ m < e) := fun i hi hoi hm => by
    have hi0' : i ≠ i0 := fun e => hm (by subst e; exact List.mem_of_getElem? hy)
    obtain ⟨e, a1, a2, a3, a4, a5, a6, a7⟩ := e8 i hi hoi hm
    refine ⟨e, by rw [gE i (by omega) hi0' (hLn i hoi)]; exact a1, a1, a2, a3, a4, ?_, a6.imp id fun ⟨q, b1, b2, b3, b4, b5, b6, b7⟩ => ⟨q, b1, b2, b3, b4, b5, b6, ?_⟩, a7⟩
    · rw [gE e (by omega) (fun h => by subst h; unfold opn at hop0; omega) (hL11 e a4)]; exact a5
    · rw [gE q (by omega) (fun h => by subst h; unfold opn at hop0; omega) (fun h => ?_)]
      · exact b7
      · rcases hh with r | ⟨h', r1, r2, r3, r4, r5, r6⟩
        · omega
        · have : h' = q := by omega
          subst this; omega
  refine ⟨⟨hEl, by simpa using e2, by rw [stB_succ hx, ← e3, hn], ?_, fun m hm => ?_, fun _ => ?_, fun j i hj => ?_, fun i hi hoi hm => ?_, fun i j hij hj oi oj mi mj => ?_⟩, by omega, fun h0 => ?_⟩
  · exact e4.sublist (List.take_sublist _ _)
  · rcases e5 m (htm m hm).1 with r | ⟨i, r1, r2, r3⟩
    · exact .inl r
    · exact .inr ⟨i, r1, by omega, r3⟩
  · obtain ⟨r1, r2⟩ := e6 trivial
    refine ⟨?_, ?_⟩
    · show (op.take _)[0]? = _
      rw [List.getElem?_take, if_pos (by omega)]; exact r1
    · show (last.take _)[0]? = _
      rw [List.getElem?_take, if_pos (by omega)]; exact r2
  · have hj : (op.take (op.length - 1))[j]? = some (i : Int) := hj
    have hmi := htm _ (List.mem_of_getElem? hj)
    rw [List.getElem?_take] at hj
    split at hj
    · rename_i hjl
      obtain ⟨a1, a2⟩ := e7 j i hj
      have hoi : opn l i := by
        rcases e5 _ hmi.1 with r | ⟨i', r1, r2, r3⟩
        · omega
        · have : i = i' := by omega
          subst this; exact r3
      have hi0' : i ≠ i0 := by omega
      have hik := hno i hoi
      rw [gE i hik hi0' (hLn i hoi), gd_ne hik]
      refine ⟨a1, ?_⟩
      show ((last.take (op.length - 1))[j]? = _ ∧ _) ∨ ((last.take (op.length - 1))[j]? = _ ∧ _)
      rw [List.getElem?_take, if_pos hjl]
      exact a2.imp id fun ⟨b1, b2, p, b3, b4, b5, b6, b7⟩ => ⟨b1, b2, p, b3, b4, by omega, b6, by rw [gd_ne (by omega)]; exact b7⟩
    · cases hj
  · have hik := hno i hoi
    by_cases hi0' : i = i0
    · subst hi0'
      rw [g0, gd_ne hik]
      refine ⟨k, rfl, hi0, by omega, by rw [hox]; exact ho, by rw [gk], ?_, fun m hm => ?_⟩
      · rcases hh with r | ⟨h, r1, r2, r3, r4, r5, r6⟩
        · exact .inl r
        · refine .inr ⟨h, r1, r2, r3, r6, r4, by rw [gd_ne (by omega)]; exact r5, ?_⟩
          rw [hE, if_pos (by omega), r1, Int.toNat_natCast, gd_self (by simp; omega)]
      · have := (htm m hm).2; omega
    · have hm' := hni i hm hi0'
      obtain ⟨e, a1, _, a2, a3, a4, a5, a6, a7⟩ := hcl i (by omega) hoi hm'
      rw [a1, gd_ne hik]
      exact ⟨e, rfl, a2, by omega, a4, a5, a6.imp id fun ⟨p, b1, b2, b3, b4, b5, b6, b7⟩ => ⟨p, b1, b2, b3, b4, b5, by rw [gd_ne (by omega)]; exact b6, b7⟩, fun m hm => a7 m (htm m hm).1⟩
  · have hik := hno i oi
    have hjk := hno j oj
    by_cases hi0' : i = i0
    · subst hi0'
      obtain ⟨e, a1, _, a2, a3, _⟩ := hcl j (by have := hj; clear hh aL hcl e7 e8 e9; omega) oj (hni j mj (by clear hh aL hcl e7 e8 e9; omega))
      left; rw [a1, g0]; exact Int.ofNat_lt.2 a3
    · by_cases hj0' : j = i0
      · subst hj0'
        obtain ⟨e, a1, _, a2, a3, a4, a5, _, a7⟩ := hcl i (by clear hh aL hcl e7 e8 e9; omega) oi (hni i mi hi0')
        have := a7 _ (List.mem_of_getElem? hy)
        right; rw [a1]
        have hne : e ≠ j := fun h => by subst h; clear hh aL hcl e7 e8 e9 a5; unfold opn at oj; omega
        clear hh aL hcl e7 e8 e9
        omega
      · obtain ⟨e, a1, b1, _⟩ := hcl i (by omega) oi (hni i mi hi0')
        obtain ⟨e', a1', b1', _⟩ := hcl j (by omega) oj (hni j mj hj0')
        have := e9 i j hij (by omega) oi oj (hni i mi hi0') (hni j mj hj0')
        rw [a1, a1']; rw [b1, b1'] at this; exact this
  · rcases hh with r | ⟨h, r1, r2, r3, r4, r5, r6⟩
    · omega
    · rw [r1]; omega
section
variable {l : List InsD} {k : Nat} {op last : List Int} {E L : List Int} {x : InsD} {is : Int} {st' : NS}
theorem nx_ways {o : Int} (hn : nextS ⟨op, last, false⟩ o k = (st', is, 0)) :
    ((o = 2 ∨ o = 3 ∨ o = 4) ∧ st' = ⟨op ++ [(k : Int)], last ++ [o], false⟩) ∨ (o = 5 ∧ last.getD (op.length - 1) 0 = 4 ∧ st' = ⟨op, last.set (op.length - 1) 5, false⟩ ∧ is = op.getD (op.length - 1) 0) ∨
    (o = 11 ∧ st' = ⟨op.take (op.length - 1), last.take (op.length - 1), decide (op.length - 1 = 0)⟩ ∧ is = op.getD (op.length - 1) 0) ∨ ((o ≠ 2 ∧ o ≠ 3 ∧ o ≠ 4 ∧ o ≠ 5 ∧ o ≠ 11) ∧ st' = ⟨op, last, false⟩) := by
  unfold nextS at hn
  rw [if_neg (by simp)] at hn
  split at hn
  · rename_i ho
    split at hn
    · cases hn
    · injection hn with h1 _; exact .inl ⟨ho, h1.symm⟩
  rename_i h1
  split at hn
  · rename_i ho
    split at hn
    · cases hn
    · rename_i h4
      injection hn with a b; injection b with b _
      exact .inr (.inl ⟨ho, Decidable.not_not.1 h4, a.symm, b.symm⟩)
  rename_i h2
  split at hn
  · rename_i ho
    injection hn with a b; injection b with b _
    exact .inr (.inr (.inl ⟨ho, a.symm, b.symm⟩))
  · rename_i h3
    injection hn with a b
    exact .inr (.inr (.inr ⟨by omega, a.symm⟩))
theorem MI.tops (h : MI l k ⟨op, last, false⟩ E L) : (∃ y, op[op.length - 1]? = some y) ∧ ∃ z, last[op.length - 1]? = some z := by
  have hok := stB_ok l k
  rw [← h.cur] at hok
  have h1 := hok.pos rfl
  have h2 := hok.len
  simp only at h1 h2
  exact ⟨⟨_, List.getElem?_eq_getElem (by omega)⟩, ⟨_, List.getElem?_eq_getElem (by omega)⟩⟩
theorem getD_some {l : List Int} {i : Nat} {y : Int} (h : l[i]? = some y) : l.getD i 0 = y := by rw [List.getD_eq_getElem?_getD, h]; rfl
theorem MI.step_o (h : MI l k ⟨op, last, false⟩ E L) (hx : l[k]? = some x) (hn : nextS ⟨op, last, false⟩ x.op k = (st', is, 0)) (h5 : x.op ≠ 5) (h11 : x.op ≠ 11) : MI l (k + 1) st' (E.set k (-1)) (L.set k (-1)) := by
  rcases nx_ways hn with ⟨ho, rfl⟩ | ⟨ho, _⟩ | ⟨ho, _⟩ | ⟨ho, rfl⟩
  · exact h.opens hx ho hn
  · exact absurd ho h5
  · exact absurd ho h11
  · exact h.plain hx ho.1 ho.2.1 ho.2.2.1 h5 h11 hn
theorem MI.step_else (h : MI l k ⟨op, last, false⟩ E L) (hx : l[k]? = some x) (hn : nextS ⟨op, last, false⟩ x.op k = (st', is, 0)) (h5 : x.op = 5) : MI l (k + 1) st' (E.set k (-1)) (((L.set k (-1)).set k is).set is.toNat k) ∧ 0 ≤ is ∧ is.toNat < l.length := by
  obtain ⟨⟨y, hy⟩, ⟨z, hz⟩⟩ := h.tops
  rcases nx_ways hn with ⟨ho, _⟩ | ⟨ho, h4, rfl, h7⟩ | ⟨ho, _⟩ | ⟨ho, _⟩
  · omega
  · rw [getD_some hz] at h4
    rw [getD_some hy] at h7
    subst h7
    exact h.else_ hx ho hz h4 hy hn
  · omega
  · exact absurd h5 ho.2.2.2.1
theorem MI.step_end (h : MI l k ⟨op, last, false⟩ E L) (hx : l[k]? = some x) (hn : nextS ⟨op, last, false⟩ x.op k = (st', is, 0)) (h11 : x.op = 11) :
    (is < 0 ∧ MI l (k + 1) st' ((E.set k (-1)).set k is) (L.set k (-1))) ∨
    (0 ≤ is ∧ is.toNat < l.length ∧ ((gd (L.set k (-1)) is.toNat < 0 ∧ MI l (k + 1) st' (((E.set k (-1)).set k is).set is.toNat k) (L.set k (-1))) ∨
      (0 ≤ gd (L.set k (-1)) is.toNat ∧ (gd (L.set k (-1)) is.toNat).toNat < l.length ∧ MI l (k + 1) st' ((((E.set k (-1)).set k is).set is.toNat k).set (gd (L.set k (-1)) is.toNat).toNat k) (L.set k (-1))))) := by
  obtain ⟨⟨y, hy⟩, _⟩ := h.tops
  rcases nx_ways hn with ⟨ho, _⟩ | ⟨ho, _⟩ | ⟨ho, rfl, h7⟩ | ⟨ho, _⟩
  · omega
  · omega
  · rw [getD_some hy] at h7
    subst h7
    rcases Int.lt_or_le is 0 with h0 | h0
    · exact .inl ⟨h0, h.end_root hx ho hy h0 hn⟩
    · right
      have := fun E' hE => h.end_ (E' := E') hx ho hy h0 hn hE
      rcases Int.lt_or_le (gd (L.set k (-1)) is.toNat) 0 with h8 | h8
      · obtain ⟨a, b, _⟩ := this _ rfl
        rw [if_neg (by omega)] at a
        exact ⟨h0, b, .inl ⟨h8, a⟩⟩
      · obtain ⟨a, b, c⟩ := this _ rfl
        rw [if_pos h8] at a
        exact ⟨h0, b, .inr ⟨h8, c h8, a⟩⟩
  · exact absurd h11 ho.2.2.2.2
theorem MI.step_end' (h : MI l k ⟨op, last, false⟩ E L) (hx : l[k]? = some x) (hn : nextS ⟨op, last, false⟩ x.op k = (st', is, 0)) (h11 : x.op = 11) :
    (is < 0 ∧ MI l (k + 1) st' ((E.set k (-1)).set k is) (L.set k (-1))) ∨
    (∃ z, 0 ≤ is ∧ is.toNat < l.length ∧ (L.set k (-1))[is.toNat]? = some z ∧ z < 0 ∧ MI l (k + 1) st' (((E.set k (-1)).set k is).set is.toNat k) (L.set k (-1))) ∨
    (∃ z, 0 ≤ is ∧ is.toNat < l.length ∧ (L.set k (-1))[is.toNat]? = some z ∧ 0 ≤ z ∧ z.toNat < l.length ∧ MI l (k + 1) st' ((((E.set k (-1)).set k is).set is.toNat k).set z.toNat k) (L.set k (-1))) := by
  rcases h.step_end hx hn h11 with r | ⟨h1, h2, r⟩
  · exact .inl r
  · obtain ⟨z, hz⟩ : ∃ z, (L.set k (-1))[is.toNat]? = some z := ⟨_, List.getElem?_eq_getElem (by rw [List.length_set, h.lL]; exact h2)⟩
    rw [gd_of hz] at r
    rcases r with ⟨r1, r2⟩ | ⟨r1, r2, r3⟩
    · exact .inr (.inl ⟨z, h1, h2, hz, r1, r2⟩)
    · exact .inr (.inr ⟨z, h1, h2, hz, r1, r2, r3⟩)
/-- What Match says of a whole body. -/
theorem MI.done {l : List InsD} {op last : List Int} (h : MI l l.length ⟨op, last, true⟩ E L) (hl : l ≠ []) : op = [] := by
  -- the last one shut the body itself
  obtain ⟨n, hn⟩ : ∃ n, l.length = n + 1 := ⟨l.length - 1, by have := List.length_pos_iff.2 hl; omega⟩
  have key : ∀ k, (stB l k).over = true → (stB l k).op = [] := by
    intro k
    induction k with
    | zero => intro h; cases h
    | succ k ih =>
      intro ho
      cases hx : l[k]? with
      | none =>
        have e : stB l (k + 1) = stB l k := by
          show (match l[k]? with | none => stB l k | some x => (nextS (stB l k) x.op k).1) = _
          rw [hx]
        rw [e] at ho ⊢; exact ih ho
      | some x =>
        rw [stB_succ hx] at ho ⊢
        unfold nextS at ho ⊢
        split
        · rename_i h1; exact ih h1
        rename_i h1
        rw [if_neg h1] at ho
        split
        · rename_i h2
          rw [if_pos h2] at ho
          split
          · rename_i h3; rw [if_pos h3] at ho; exact absurd ho h1
          · rename_i h3; rw [if_neg h3] at ho; exact absurd ho h1
        rename_i h2
        rw [if_neg h2] at ho
        split
        · rename_i h3
          rw [if_pos h3] at ho
          split
          · rename_i h4; rw [if_pos h4] at ho; exact absurd ho h1
          · rename_i h4; rw [if_neg h4] at ho; exact absurd ho h1
        rename_i h3
        rw [if_neg h3] at ho
        split
        · rename_i h4
          rw [if_pos h4] at ho
          have : (stB l k).op.length - 1 = 0 := by simpa using ho
          show (stB l k).op.take _ = []
          rw [this]; rfl
        · rename_i h4; rw [if_neg h4] at ho; exact absurd ho h1
  have := key l.length (by rw [← h.cur])
  rw [← h.cur] at this; exact this
end
end Go.Proofs.YtndhikahjmgamaaGreatDoor.Nest
/- What belongs together in a body, once more: which block each end and each else belongs to. -/
set_option maxRecDepth 100000
set_option linter.unusedVariables false
set_option linter.unusedSimpArgs false
namespace Go.Proofs.YtndhikahjmgamaaGreatDoor.Nest
open Go.Proofs.YtndhikahjmgamaaGreatDoor.Leb Go.Proofs.YtndhikahjmgamaaGreatDoor.Txt Go.Proofs.YtndhikahjmgamaaGreatDoor.Ins
/-- The block that is open innermost. -/
def tp (st : NS) : Int := st.op.getD (st.op.length - 1) 0
def tl (st : NS) : Int := st.last.getD (st.op.length - 1) 0
structure MK (l : List InsD) (k : Nat) (st : NS) (E L : List Int) : Prop where
  mi : MI l k st E L
  e : ∀ e, e < k → oo l e = 11 → gd E e = tp (stB l e)
  h : ∀ h, h < k → oo l h = 5 → gd L h = tp (stB l h)
  q : ∀ e i : Nat, e < k → oo l e = 11 → tp (stB l e) = i → tl (stB l e) = 5 → i < k ∧ 0 ≤ gd L i
section
variable {l : List InsD} {k : Nat} {op last : List Int} {E L : List Int} {x : InsD} {is : Int} {st st' : NS}
theorem MK.cur (h : MK l k st E L) : st = stB l k := h.mi.cur
theorem MK.eL (h : MK l k st E L) : E.length = l.length := h.mi.eL
theorem MK.lL (h : MK l k st E L) : L.length = l.length := h.mi.lL
theorem MK.zero (h1 : E.length = l.length) (h2 : L.length = l.length) : MK l 0 ns0 E L := ⟨MI.zero h1 h2, nofun, nofun, nofun⟩
theorem MK.step_o (h : MK l k ⟨op, last, false⟩ E L) (hx : l[k]? = some x) (hn : nextS ⟨op, last, false⟩ x.op k = (st', is, 0)) (h5 : x.op ≠ 5) (h11 : x.op ≠ 11) : MK l (k + 1) st' (E.set k (-1)) (L.set k (-1)) := by
  have hox := oo_of hx
  refine ⟨h.mi.step_o hx hn h5 h11, fun e he ho => ?_, fun e he ho => ?_, fun e i he ho ht hl => ?_⟩
  · have : e ≠ k := fun c => by subst c; omega
    rw [gd_ne this]; exact h.e e (by omega) ho
  · have : e ≠ k := fun c => by subst c; omega
    rw [gd_ne this]; exact h.h e (by omega) ho
  · have : e ≠ k := fun c => by subst c; omega
    obtain ⟨q1, q2⟩ := h.q e i (by omega) ho ht hl
    rw [gd_ne (by omega)]; exact ⟨by omega, q2⟩
theorem MI.tpk (h : MI l k ⟨op, last, false⟩ E L) {y : Int} (hy : op[op.length - 1]? = some y) : tp (stB l k) = y := by
  rw [← h.cur]; unfold tp; exact getD_some hy
theorem MK.step_else (h : MK l k ⟨op, last, false⟩ E L) (hx : l[k]? = some x) (hn : nextS ⟨op, last, false⟩ x.op k = (st', is, 0)) (h5 : x.op = 5) : MK l (k + 1) st' (E.set k (-1)) (((L.set k (-1)).set k is).set is.toNat k) ∧ 0 ≤ is ∧ is.toNat < l.length := by
  obtain ⟨m1, m2, m3⟩ := h.mi.step_else hx hn h5
  have hox := oo_of hx
  have hlt := (List.getElem?_eq_some_iff.1 hx).1
  obtain ⟨⟨y, hy⟩, ⟨z, hz⟩⟩ := h.mi.tops
  have hyi : is = y := by
    rcases nx_ways hn with ⟨ho, _⟩ | ⟨_, _, _, h7⟩ | ⟨ho, _⟩ | ⟨ho, _⟩
    · omega
    · rw [getD_some hy] at h7; exact h7
    · omega
    · exact absurd h5 ho.2.2.2.1
  subst hyi
  obtain ⟨i0, rfl, hi0, hop0, _⟩ : ∃ i : Nat, is = i ∧ i < k ∧ opn l i ∧ 1 < op.length := by
    rcases h.mi.top hy with ⟨r, _⟩ | r
    · omega
    · exact r
  rw [Int.toNat_natCast] at *
  have hn0 : ∀ j, (oo l j = 11 ∨ oo l j = 5) → j ≠ i0 := fun j hj c => by subst c; unfold opn at hop0; omega
  have hL : L.length = l.length := h.lL
  refine ⟨⟨m1, fun e he ho => ?_, fun e he ho => ?_, fun e i he ho ht hl => ?_⟩, m2, m3⟩
  · have : e ≠ k := fun c => by subst c; omega
    rw [gd_ne this]; exact h.e e (by omega) ho
  · rw [gd_ne (hn0 e (.inr ho))]
    by_cases c : e = k
    · subst c
      rw [gd_self (by simp; omega)]
      exact (h.mi.tpk hy).symm
    · rw [gd_ne c, gd_ne c]; exact h.h e (by omega) ho
  · have : e ≠ k := fun c => by subst c; omega
    obtain ⟨q1, q2⟩ := h.q e i (by omega) ho ht hl
    refine ⟨by omega, ?_⟩
    by_cases c : i = i0
    · subst c
      rw [gd_self (by simp; omega)]; omega
    · rw [gd_ne c, gd_ne (by omega), gd_ne (by omega)]; exact q2
theorem MK.step_end' (h : MK l k ⟨op, last, false⟩ E L) (hx : l[k]? = some x) (hn : nextS ⟨op, last, false⟩ x.op k = (st', is, 0)) (h11 : x.op = 11) :
    (is < 0 ∧ MK l (k + 1) st' ((E.set k (-1)).set k is) (L.set k (-1))) ∨
    (∃ z, 0 ≤ is ∧ is.toNat < l.length ∧ (L.set k (-1))[is.toNat]? = some z ∧ z < 0 ∧ MK l (k + 1) st' (((E.set k (-1)).set k is).set is.toNat k) (L.set k (-1))) ∨
    (∃ z, 0 ≤ is ∧ is.toNat < l.length ∧ (L.set k (-1))[is.toNat]? = some z ∧ 0 ≤ z ∧ z.toNat < l.length ∧ MK l (k + 1) st' ((((E.set k (-1)).set k is).set is.toNat k).set z.toNat k) (L.set k (-1))) := by
  have hox := oo_of hx
  have hlt := (List.getElem?_eq_some_iff.1 hx).1
  obtain ⟨⟨y, hy⟩, ⟨z9, hz9⟩⟩ := h.mi.tops
  have hyi : is = y := by
    rcases nx_ways hn with ⟨ho, _⟩ | ⟨ho, _⟩ | ⟨_, _, h7⟩ | ⟨ho, _⟩
    · omega
    · omega
    · rw [getD_some hy] at h7; exact h7
    · exact absurd h11 ho.2.2.2.2
  subst hyi
  have htp := h.mi.tpk hy
  have hE : E.length = l.length := h.eL
  have hL : L.length = l.length := h.lL
  -- what stays of the elses
  have hh : ∀ e, e < k + 1 → oo l e = 5 → gd (L.set k (-1)) e = tp (stB l e) := fun e he ho => by
    have : e ≠ k := fun c => by subst c; omega
    rw [gd_ne this]; exact h.h e (by omega) ho
  have hq : ∀ e i : Nat, e < k + 1 → oo l e = 11 → tp (stB l e) = i → tl (stB l e) = 5 → i < k + 1 ∧ 0 ≤ gd (L.set k (-1)) i := fun e i he ho ht hl => by
    by_cases c : e = k
    · subst c
      have hi : is = (i : Int) := htp.symm.trans ht
      obtain ⟨i0, h1, hi0, _, _⟩ : ∃ i0 : Nat, is = i0 ∧ i0 < e ∧ opn l i0 ∧ 1 < op.length := by
        rcases h.mi.top hy with ⟨r, _⟩ | r
        · omega
        · exact r
      obtain rfl : i = i0 := by omega
      rw [gd_ne (by omega)]
      refine ⟨by omega, ?_⟩
      rw [hi] at hy
      obtain ⟨_, r | ⟨_, _, q, r3, _⟩⟩ := h.mi.last _ _ hy
      · exfalso
        rw [← h.cur] at hl
        unfold tl at hl
        simp only at hl r
        rw [getD_some r.1] at hl
        rcases h.mi.mem _ (List.mem_of_getElem? hy) with r2 | ⟨j, r1, _, r3⟩
        · omega
        · obtain rfl : i = j := by omega
          unfold opn at r3; omega
      · rw [r3]; omega
    · obtain ⟨q1, q2⟩ := h.q e i (by omega) ho ht hl
      rw [gd_ne (by omega)]; exact ⟨by omega, q2⟩
  rcases h.mi.step_end' hx hn h11 with ⟨r1, r2⟩ | ⟨z, r1, r2, r3, r4, r5⟩ | ⟨z, r1, r2, r3, r4, r5, r6⟩
  · refine .inl ⟨r1, r2, fun e he ho => ?_, hh, hq⟩
    by_cases c : e = k
    · subst c; rw [gd_self (by simp; omega)]; exact htp.symm
    · rw [gd_ne c, gd_ne c]; exact h.e e (by omega) ho
  · obtain ⟨i0, rfl, hi0, hop0, _⟩ : ∃ i : Nat, is = i ∧ i < k ∧ opn l i ∧ 1 < op.length := by
      rcases h.mi.top hy with ⟨r, _⟩ | r
      · omega
      · exact r
    refine .inr (.inl ⟨z, r1, r2, r3, r4, r5, fun e he ho => ?_, hh, hq⟩)
    rw [Int.toNat_natCast]
    have : e ≠ i0 := fun c => by subst c; unfold opn at hop0; omega
    rw [gd_ne this]
    by_cases c : e = k
    · subst c; rw [gd_self (by simp; omega)]; exact htp.symm
    · rw [gd_ne c, gd_ne c]; exact h.e e (by omega) ho
  · obtain ⟨i0, rfl, hi0, hop0, _⟩ : ∃ i : Nat, is = i ∧ i < k ∧ opn l i ∧ 1 < op.length := by
      rcases h.mi.top hy with ⟨r, _⟩ | r
      · omega
      · exact r
    rw [Int.toNat_natCast] at *
    refine .inr (.inr ⟨z, r1, r2, r3, r4, r5, r6, fun e he ho => ?_, hh, hq⟩)
    have hz : z = gd L i0 := by
      have := gd_of r3
      rw [gd_ne (by omega)] at this; exact this.symm
    have h5 : oo l z.toNat = 5 := by
      obtain ⟨_, r | ⟨_, _, q, q3, _, _, q6, _⟩⟩ := h.mi.last _ _ hy
      · omega
      · rw [hz, q3, Int.toNat_natCast]; exact q6
    rw [gd_ne (fun c => by subst c; omega)]
    have : e ≠ i0 := fun c => by subst c; unfold opn at hop0; omega
    rw [gd_ne this]
    by_cases c : e = k
    · subst c; rw [gd_self (by simp; omega)]; exact htp.symm
    · rw [gd_ne c, gd_ne c]; exact h.e e (by omega) ho
end
end Go.Proofs.YtndhikahjmgamaaGreatDoor.Nest
/- Package nest: Match, with what each end and each else belongs to. -/
set_option maxRecDepth 100000
set_option maxHeartbeats 4000000
set_option linter.unusedVariables false
set_option linter.unusedSimpArgs false
namespace Go.Proofs.YtndhikahjmgamaaGreatDoor.Nest
open Go Go.Proofs.YtndhikahjmgamaaGreatDoor.Eng Go.RowKit
open Ins
section
variable {g : Glob} {w : World} {l : List As}
theorem match_ (H : Sat g w l) (v : Value) (xs : List InsV) (hx : FSl g enV (okV g) 4 v xs) : Fc Tryz.prog 14 #[v] w (fun r w' => ∃ (u1 u2 : Value) (E L : List Int) (e : Int), r = .tuple #[u1, u2, .int .i64 e] ∧ e = chkB (xs.map InsV.d) ∧ ((e ≠ 0 ∧ E = [] ∧ L = []) ∨ (e = 0 ∧ ∃ op last, MK (xs.map InsV.d) xs.length ⟨op, last, true⟩ E L)) ∧ Sat g w' (Sl 3 1 enI u1 E :: Sl 3 1 enI u2 L :: l)) := by
  refine Fc.of Tryz.func14 rfl (by kernel_rfl) ?_
  have hml : (xs.map InsV.d).length = xs.length := List.length_map ..
  by_cases hc : chkB (xs.map InsV.d) = 0
  · obtain ⟨hl, hF, hov⟩ := chkB_ok hc
    rw [hml] at hl hF hov
    refine CallP.mk (Fc.imp (Go.Proofs.YtndhikahjmgamaaGreatDoor.Nest.check H _ _ hx) ?_)
    clear H
    rintro _ w1 ⟨⟨e1, ⟨rfl, h1⟩⟩, H⟩
    refine cF (vNe_F (by omega)) ?_
    refine drawtS H [] (.op 0 .pure (.op 1 .pure (.op 3 .pure (.op 4 .pure (.fork (.op 2 .free (.op 6 .pure (.op 5 .free (.op 7 .pure .nil)))) (.op 5 .free (.op 2 .free (.op 6 .pure (.op 7 .pure .nil))))))))) mixed (by kernel_rfl) ?_
    clear H
    intro w2 H
    clear w1
    refine tk (fun wx HS => rLenF hx rfl ⟨rfl, rfl⟩) ?_
    refine tk (fun wx HS => rLenF hx rfl ⟨rfl, rfl⟩) ?_
    refine ⟨?_, ?_⟩
    focus
      refine rMakeS (en := enI) (s := 1) H (0) ((xs.length)) ((xs.length)) 8 rfl rfl rfl (fun _ => rfl) (by omega) (by omega) (by omega) (by omega) (by omega) ?_
      intro v1
      clear H
      intro w1 H
      clear w2
      refine rMakeS (en := enI) (s := 1) H (0) ((xs.length)) ((xs.length)) 8 rfl rfl rfl (fun _ => rfl) (by omega) (by omega) (by omega) (by omega) (by omega) ?_
      intro v2
      clear H
      intro w2 H
      clear w1
      refine CallP.mk (Fc.imp (Go.Proofs.YtndhikahjmgamaaGreatDoor.Nest.begin_ _) ?_)
      rintro _ w1 ⟨p1, ⟨vo1, ⟨vl1, ⟨rfl, H'⟩⟩⟩⟩
      refine H.mergeK H' ?_
      clear H H'
      intro H
      refine rLenF hx rfl ?_
    rotate_left 1
    focus
      refine rMakeS (en := enI) (s := 1) H (0) ((xs.length)) ((xs.length)) 8 rfl rfl rfl (fun _ => rfl) (by omega) (by omega) (by omega) (by omega) (by omega) ?_
      intro v1
      clear H
      intro w1 H
      clear w2
      refine rMakeS (en := enI) (s := 1) H (0) ((xs.length)) ((xs.length)) 8 rfl rfl rfl (fun _ => rfl) (by omega) (by omega) (by omega) (by omega) (by omega) ?_
      intro v2
      clear H
      intro w2 H
      clear w1
      refine CallP.mk (Fc.imp (Go.Proofs.YtndhikahjmgamaaGreatDoor.Nest.begin_ _) ?_)
      rintro _ w1 ⟨p1, ⟨vo1, ⟨vl1, ⟨rfl, H'⟩⟩⟩⟩
      refine H.mergeK H' ?_
      clear H H'
      intro H
      refine rLenF hx rfl ?_
    rotate_left 1
    focus
      generalize v1 = ue at *
      generalize v2 = ul at *
    rotate_left
    focus
      generalize v2 = ue at *
      generalize v1 = ul at *
    rotate_left
    · refine LoopP.rule (α := Nat × List Int × List Int × Bool × Value × Value × List Int × List Int) (0, ns0.op, ns0.last, ns0.over, vo1, vl1, List.replicate xs.length 0, List.replicate xs.length 0) (fun x_ => [(26, .int .i64 x_.1)]) (fun x_ w_ => (x_.1 ≤ xs.length) ∧ (MK (xs.map InsV.d) x_.1 ⟨x_.2.1, x_.2.2.1, x_.2.2.2.1⟩ x_.2.2.2.2.2.2.1 x_.2.2.2.2.2.2.2) ∧ Sat g w_ ((Pt p1 [x_.2.2.2.2.1, x_.2.2.2.2.2.1, .bool x_.2.2.2.1] 118 :: Sl 3 1 enI x_.2.2.2.2.1 x_.2.1 :: Sl 5 1 enK x_.2.2.2.2.2.1 x_.2.2.1 :: Sl 3 1 enI ue x_.2.2.2.2.2.2.1 :: Sl 3 1 enI ul x_.2.2.2.2.2.2.2 :: l))) (fun x_ => xs.length - x_.1) ?_ ?_ ?_
      · repeat first | exact mt_nil | refine mt_cons rfl ?_ | refine mt_i rfl (by first | omega | (simp only; omega) | (simp; omega) | (simp; done)) ?_
      · try simp only
        refine ⟨?_, ?_⟩
        · omega
        refine ⟨?_, ?_⟩
        · exact MK.zero (by simp) (by simp)
        refine H.fronts [3, 4, 4, 4, 4] ?_
        clear H
        intro H
        exact H
      clear H
      rintro ⟨k, op, last, ov, vo, vl, E, L⟩ f_ w_ ⟨hk, hM, H⟩
      try simp only at hk hM H ⊢
      have hEl := hM.eL
      have hLl := hM.lL
      rw [hml] at hEl hLl
      rcases Nat.lt_or_ge k xs.length with hlt | hge
      · obtain ⟨x, hxk⟩ : ∃ x, xs[k]? = some x := ⟨_, List.getElem?_eq_getElem hlt⟩
        have hmx := map_get hxk
        have hc2 := (hF k _ hlt hmx).2
        have hok := stB_ok (xs.map InsV.d) k
        rw [← hM.cur] at hc2 hok
        have hov : ov = false := by
          cases ov
          · rfl
          · rw [over_no rfl] at hc2; cases hc2
        subst hov
        change (nextS ⟨op, last, false⟩ x.op k).2.2 = 0 at hc2
        by_cases h5 : x.op = 5
        · refine cT (vLt_T (by omega)) ?_
          refine bk ?_
          obtain ⟨b1, o1, E1, F1, hok1⟩ := FSl.elt hx hxk
          have hok1_op := hok1.op
          have hok1_a := hok1.a
          have hok1_b := hok1.b
          have hok1_to := hok1.to
          refine rIxE E1 rfl rfl rfl ?_
          refine rLdA (H.fat F1) 0 rfl rfl rfl ?_
          refine rAllocS H rfl ?_
          clear H
          intro p2 w3 H
          clear w_
          refine rStAS H 0 rfl rfl rfl (by simp only [List.all_cons, List.all_nil, H.one 2 rfl, H.one 3 rfl, H.one 4 rfl, H.one 5 rfl, FSl.one hok1_to, FSl.one hx]; rfl) ?_
          clear H
          intro w4 H
          clear w3
          obtain ⟨x1, hx1⟩ : ∃ x, (E)[(k)]? = some x := ⟨_, List.getElem?_eq_getElem (by omega)⟩
          obtain ⟨b2, o2, E2⟩ := H.elt 4 rfl (k) (by omega)
          refine rIxE E2 rfl rfl rfl ?_
          refine rStE H 4 rfl E2 hx1 0 (-1) rfl rfl rfl rfl ?_
          clear H
          intro w3 H
          clear w4
          obtain ⟨x2, hx2⟩ : ∃ x, (L)[(k)]? = some x := ⟨_, List.getElem?_eq_getElem (by omega)⟩
          obtain ⟨b3, o3, E3⟩ := H.elt 5 rfl (k) (by omega)
          refine rIxE E3 rfl rfl rfl ?_
          refine rStE H 5 rfl E3 hx2 0 (-1) rfl rfl rfl rfl ?_
          clear H
          intro w4 H
          clear w3
          refine rLdA (H.at 0 rfl) 0 rfl rfl rfl ?_
          refine H.fronts [3, 3, 3] ?_
          clear H
          intro H
          refine CallP.mk (Fc.imp (Go.Proofs.YtndhikahjmgamaaGreatDoor.Nest.next _ hok H _ _ _ _ _) ?_)
          clear H
          rintro _ w3 ⟨op'1, ⟨last'1, ⟨ov'1, ⟨vo'1, ⟨vl'1, ⟨is1, ⟨e2, ⟨rfl, ⟨h2, H⟩⟩⟩⟩⟩⟩⟩⟩⟩
          rw [h2] at hc2
          simp only at hc2
          subst hc2
          obtain ⟨hM2, hb1, hb2⟩ := hM.step_else hmx h2 h5
          rw [hml] at hb2
          refine bk ?_
          refine rFieldAt rfl ?_
          refine rLd (H.at 3 rfl) 0 rfl rfl rfl ?_
          refine cT (vEq_T (by assumption)) ?_
          refine rIxE E3 rfl rfl rfl ?_
          have hx3 : (L.set k (-1))[k]? = some _ := setSelf hx2
          refine rStE H 5 rfl E3 hx3 0 (is1) rfl rfl rfl rfl ?_
          clear H
          intro w5 H
          clear w3
          obtain ⟨x3, hx4⟩ : ∃ x, ((L.set k (-1)).set k is1)[(is1).toNat]? = some x := ⟨_, List.getElem?_eq_getElem (by (simp only [List.length_append, List.length_set, List.length_cons, List.length_nil]; omega))⟩
          obtain ⟨b4, o4, E4⟩ := H.elt 5 rfl (is1).toNat (by (simp only [List.length_append, List.length_set, List.length_cons, List.length_nil]; omega))
          refine rIxE E4 (by omega) rfl rfl ?_
          refine rStE H 5 rfl E4 hx4 0 ((↑k : Int)) rfl rfl rfl rfl ?_
          clear H
          intro w3 H
          clear w5
          refine eqI64 (by omega) ?_
          refine Nxt.mk ((k + 1, op'1, last'1, ov'1, vo'1, vl'1, E.set k (-1), ((L.set k (-1)).set k is1).set is1.toNat (↑k : Int))) (mt_i rfl (by first | omega | (simp only; omega) | (simp; omega)) (mt_nil)) ?_ ?_
          · refine ⟨?_, ?_⟩
            · assumption
            refine ⟨?_, ?_⟩
            · exact hM2
            refine H.fronts [5, 5, 4, 4, 4] ?_
            clear H
            intro H
            refine H.drop 5 ?_
            clear H
            intro H
            exact H
          omega
        by_cases h11 : x.op = 11
        · refine cT (vLt_T (by omega)) ?_
          refine bk ?_
          obtain ⟨b1, o1, E1, F1, hok1⟩ := FSl.elt hx hxk
          have hok1_op := hok1.op
          have hok1_a := hok1.a
          have hok1_b := hok1.b
          have hok1_to := hok1.to
          refine rIxE E1 rfl rfl rfl ?_
          refine rLdA (H.fat F1) 0 rfl rfl rfl ?_
          refine rAllocS H rfl ?_
          clear H
          intro p2 w3 H
          clear w_
          refine rStAS H 0 rfl rfl rfl (by simp only [List.all_cons, List.all_nil, H.one 2 rfl, H.one 3 rfl, H.one 4 rfl, H.one 5 rfl, FSl.one hok1_to, FSl.one hx]; rfl) ?_
          clear H
          intro w4 H
          clear w3
          obtain ⟨x1, hx1⟩ : ∃ x, (E)[(k)]? = some x := ⟨_, List.getElem?_eq_getElem (by omega)⟩
          obtain ⟨b2, o2, E2⟩ := H.elt 4 rfl (k) (by omega)
          refine rIxE E2 rfl rfl rfl ?_
          refine rStE H 4 rfl E2 hx1 0 (-1) rfl rfl rfl rfl ?_
          clear H
          intro w3 H
          clear w4
          obtain ⟨x2, hx2⟩ : ∃ x, (L)[(k)]? = some x := ⟨_, List.getElem?_eq_getElem (by omega)⟩
          obtain ⟨b3, o3, E3⟩ := H.elt 5 rfl (k) (by omega)
          refine rIxE E3 rfl rfl rfl ?_
          refine rStE H 5 rfl E3 hx2 0 (-1) rfl rfl rfl rfl ?_
          clear H
          intro w4 H
          clear w3
          refine rLdA (H.at 0 rfl) 0 rfl rfl rfl ?_
          refine H.fronts [3, 3, 3] ?_
          clear H
          intro H
          refine CallP.mk (Fc.imp (Go.Proofs.YtndhikahjmgamaaGreatDoor.Nest.next _ hok H _ _ _ _ _) ?_)
          clear H
          rintro _ w3 ⟨op'1, ⟨last'1, ⟨ov'1, ⟨vo'1, ⟨vl'1, ⟨is1, ⟨e2, ⟨rfl, ⟨h2, H⟩⟩⟩⟩⟩⟩⟩⟩⟩
          rw [h2] at hc2
          simp only at hc2
          subst hc2
          rcases hM.step_end' hmx h2 h11 with ⟨hb1, hM2⟩ | ⟨z, hb1, hb2, hz, hb3, hM2⟩ | ⟨z, hb1, hb2, hz, hb3, hb4, hM2⟩
          refine bk ?_
          refine rFieldAt rfl ?_
          refine rLd (H.at 3 rfl) 0 rfl rfl rfl ?_
          refine cF (vEq_F (by assumption)) ?_
          refine rFieldAt rfl ?_
          refine rLd (H.at 3 rfl) 0 rfl rfl rfl ?_
          refine cT (vEq_T (by assumption)) ?_
          refine rIxE E2 rfl rfl rfl ?_
          have hx3 : (E.set k (-1))[k]? = some _ := setSelf hx1
          refine rStE H 4 rfl E2 hx3 0 (is1) rfl rfl rfl rfl ?_
          clear H
          intro w5 H
          clear w3
          refine cF (vLe_F (by assumption)) ?_
          refine eqI64 (by omega) ?_
          refine Nxt.mk ((k + 1, op'1, last'1, ov'1, vo'1, vl'1, (E.set k (-1)).set k is1, L.set k (-1))) (mt_i rfl (by first | omega | (simp only; omega) | (simp; omega)) (mt_nil)) ?_ ?_
          · refine ⟨?_, ?_⟩
            · assumption
            refine ⟨?_, ?_⟩
            · exact hM2
            refine H.fronts [5, 5, 4, 4, 4] ?_
            clear H
            intro H
            refine H.drop 5 ?_
            clear H
            intro H
            exact H
          · omega
          · refine bk ?_
            refine rFieldAt rfl ?_
            refine rLd (H.at 3 rfl) 0 rfl rfl rfl ?_
            refine cF (vEq_F (by assumption)) ?_
            refine rFieldAt rfl ?_
            refine rLd (H.at 3 rfl) 0 rfl rfl rfl ?_
            refine cT (vEq_T (by assumption)) ?_
            refine rIxE E2 rfl rfl rfl ?_
            have hx3 : (E.set k (-1))[k]? = some _ := setSelf hx1
            refine rStE H 4 rfl E2 hx3 0 (is1) rfl rfl rfl rfl ?_
            clear H
            intro w5 H
            clear w3
            refine cT (vLe_T (by assumption)) ?_
            obtain ⟨x3, hx4⟩ : ∃ x, ((E.set k (-1)).set k is1)[(is1).toNat]? = some x := ⟨_, List.getElem?_eq_getElem (by (simp only [List.length_append, List.length_set, List.length_cons, List.length_nil]; omega))⟩
            obtain ⟨b4, o4, E4⟩ := H.elt 4 rfl (is1).toNat (by (simp only [List.length_append, List.length_set, List.length_cons, List.length_nil]; omega))
            refine rIxE E4 (by omega) rfl rfl ?_
            refine rStE H 4 rfl E4 hx4 0 ((↑k : Int)) rfl rfl rfl rfl ?_
            clear H
            intro w3 H
            clear w5
            obtain ⟨b5, o5, E5⟩ := H.elt 5 rfl (is1).toNat (by (simp only [List.length_append, List.length_set, List.length_cons, List.length_nil]; omega))
            refine rIxE E5 (by omega) rfl rfl ?_
            refine rLd (H.el 5 rfl E5 hz) 0 rfl rfl rfl ?_
            refine cF (vLe_F (by assumption)) ?_
            refine eqI64 (by omega) ?_
            refine Nxt.mk ((k + 1, op'1, last'1, ov'1, vo'1, vl'1, ((E.set k (-1)).set k is1).set is1.toNat (↑k : Int), L.set k (-1))) (mt_i rfl (by first | omega | (simp only; omega) | (simp; omega)) (mt_nil)) ?_ ?_
            · refine ⟨?_, ?_⟩
              · assumption
              refine ⟨?_, ?_⟩
              · exact hM2
              refine H.fronts [5, 5, 4, 4, 4] ?_
              clear H
              intro H
              refine H.drop 5 ?_
              clear H
              intro H
              exact H
            omega
          refine bk ?_
          refine rFieldAt rfl ?_
          refine rLd (H.at 3 rfl) 0 rfl rfl rfl ?_
          refine cF (vEq_F (by assumption)) ?_
          refine rFieldAt rfl ?_
          refine rLd (H.at 3 rfl) 0 rfl rfl rfl ?_
          refine cT (vEq_T (by assumption)) ?_
          refine rIxE E2 rfl rfl rfl ?_
          have hx3 : (E.set k (-1))[k]? = some _ := setSelf hx1
          refine rStE H 4 rfl E2 hx3 0 (is1) rfl rfl rfl rfl ?_
          clear H
          intro w5 H
          clear w3
          refine cT (vLe_T (by assumption)) ?_
          obtain ⟨x3, hx4⟩ : ∃ x, ((E.set k (-1)).set k is1)[(is1).toNat]? = some x := ⟨_, List.getElem?_eq_getElem (by (simp only [List.length_append, List.length_set, List.length_cons, List.length_nil]; omega))⟩
          obtain ⟨b4, o4, E4⟩ := H.elt 4 rfl (is1).toNat (by (simp only [List.length_append, List.length_set, List.length_cons, List.length_nil]; omega))
          refine rIxE E4 (by omega) rfl rfl ?_
          refine rStE H 4 rfl E4 hx4 0 ((↑k : Int)) rfl rfl rfl rfl ?_
          clear H
          intro w3 H
          clear w5
          obtain ⟨b5, o5, E5⟩ := H.elt 5 rfl (is1).toNat (by (simp only [List.length_append, List.length_set, List.length_cons, List.length_nil]; omega))
          refine rIxE E5 (by omega) rfl rfl ?_
          refine rLd (H.el 5 rfl E5 hz) 0 rfl rfl rfl ?_
          refine cT (vLe_T (by assumption)) ?_
          obtain ⟨x4, hx5⟩ : ∃ x, (((E.set k (-1)).set k is1).set is1.toNat (↑k : Int))[(z).toNat]? = some x := ⟨_, List.getElem?_eq_getElem (by (simp only [List.length_append, List.length_set, List.length_cons, List.length_nil]; omega))⟩
          obtain ⟨b6, o6, E6⟩ := H.elt 4 rfl (z).toNat (by (simp only [List.length_append, List.length_set, List.length_cons, List.length_nil]; omega))
          refine rIxE E6 (by omega) rfl rfl ?_
          refine rStE H 4 rfl E6 hx5 0 ((↑k : Int)) rfl rfl rfl rfl ?_
          clear H
          intro w5 H
          clear w3
          refine eqI64 (by omega) ?_
          refine Nxt.mk ((k + 1, op'1, last'1, ov'1, vo'1, vl'1, (((E.set k (-1)).set k is1).set is1.toNat (↑k : Int)).set z.toNat (↑k : Int), L.set k (-1))) (mt_i rfl (by first | omega | (simp only; omega) | (simp; omega)) (mt_nil)) ?_ ?_
          · refine ⟨?_, ?_⟩
            · assumption
            refine ⟨?_, ?_⟩
            · exact hM2
            refine H.fronts [5, 5, 4, 4, 4] ?_
            clear H
            intro H
            refine H.drop 5 ?_
            clear H
            intro H
            exact H
          omega
        · refine cT (vLt_T (by omega)) ?_
          refine bk ?_
          obtain ⟨b1, o1, E1, F1, hok1⟩ := FSl.elt hx hxk
          have hok1_op := hok1.op
          have hok1_a := hok1.a
          have hok1_b := hok1.b
          have hok1_to := hok1.to
          refine rIxE E1 rfl rfl rfl ?_
          refine rLdA (H.fat F1) 0 rfl rfl rfl ?_
          refine rAllocS H rfl ?_
          clear H
          intro p2 w3 H
          clear w_
          refine rStAS H 0 rfl rfl rfl (by simp only [List.all_cons, List.all_nil, H.one 2 rfl, H.one 3 rfl, H.one 4 rfl, H.one 5 rfl, FSl.one hok1_to, FSl.one hx]; rfl) ?_
          clear H
          intro w4 H
          clear w3
          obtain ⟨x1, hx1⟩ : ∃ x, (E)[(k)]? = some x := ⟨_, List.getElem?_eq_getElem (by omega)⟩
          obtain ⟨b2, o2, E2⟩ := H.elt 4 rfl (k) (by omega)
          refine rIxE E2 rfl rfl rfl ?_
          refine rStE H 4 rfl E2 hx1 0 (-1) rfl rfl rfl rfl ?_
          clear H
          intro w3 H
          clear w4
          obtain ⟨x2, hx2⟩ : ∃ x, (L)[(k)]? = some x := ⟨_, List.getElem?_eq_getElem (by omega)⟩
          obtain ⟨b3, o3, E3⟩ := H.elt 5 rfl (k) (by omega)
          refine rIxE E3 rfl rfl rfl ?_
          refine rStE H 5 rfl E3 hx2 0 (-1) rfl rfl rfl rfl ?_
          clear H
          intro w4 H
          clear w3
          refine rLdA (H.at 0 rfl) 0 rfl rfl rfl ?_
          refine H.fronts [3, 3, 3] ?_
          clear H
          intro H
          refine CallP.mk (Fc.imp (Go.Proofs.YtndhikahjmgamaaGreatDoor.Nest.next _ hok H _ _ _ _ _) ?_)
          clear H
          rintro _ w3 ⟨op'1, ⟨last'1, ⟨ov'1, ⟨vo'1, ⟨vl'1, ⟨is1, ⟨e2, ⟨rfl, ⟨h2, H⟩⟩⟩⟩⟩⟩⟩⟩⟩
          rw [h2] at hc2
          simp only at hc2
          subst hc2
          refine bk ?_
          refine rFieldAt rfl ?_
          refine rLd (H.at 3 rfl) 0 rfl rfl rfl ?_
          refine cF (vEq_F (by assumption)) ?_
          refine rFieldAt rfl ?_
          refine rLd (H.at 3 rfl) 0 rfl rfl rfl ?_
          refine cF (vEq_F (by assumption)) ?_
          refine eqI64 (by omega) ?_
          refine Nxt.mk ((k + 1, op'1, last'1, ov'1, vo'1, vl'1, E.set k (-1), L.set k (-1))) (mt_i rfl (by first | omega | (simp only; omega) | (simp; omega)) (mt_nil)) ?_ ?_
          · refine ⟨?_, ?_⟩
            · assumption
            refine ⟨?_, ?_⟩
            · exact hM.step_o hmx h2 h5 h11
            refine H.fronts [5, 5, 4, 4, 4] ?_
            clear H
            intro H
            refine H.drop 5 ?_
            clear H
            intro H
            exact H
          omega
      · obtain rfl : k = xs.length := by omega
        rw [← hM.cur] at hov
        have hov : ov = true := hov
        subst hov
        refine cF (vLt_F (by omega)) ?_
        refine Done.mk ?_
        refine ⟨ue, ul, E, L, 0, ?_⟩
        refine ⟨?_, ?_⟩
        · rfl
        refine ⟨?_, ?_⟩
        · omega
        refine ⟨?_, ?_⟩
        · exact .inr ⟨rfl, _, _, hM⟩
        refine H.fronts [4, 4] ?_
        clear H
        intro H
        refine H.drop 4 ?_
        clear H
        intro H
        refine H.drop 3 ?_
        clear H
        intro H
        refine H.drop 2 ?_
        clear H
        intro H
        exact H
    · refine LoopP.rule (α := Nat × List Int × List Int × Bool × Value × Value × List Int × List Int) (0, ns0.op, ns0.last, ns0.over, vo1, vl1, List.replicate xs.length 0, List.replicate xs.length 0) (fun x_ => [(26, .int .i64 x_.1)]) (fun x_ w_ => (x_.1 ≤ xs.length) ∧ (MK (xs.map InsV.d) x_.1 ⟨x_.2.1, x_.2.2.1, x_.2.2.2.1⟩ x_.2.2.2.2.2.2.1 x_.2.2.2.2.2.2.2) ∧ Sat g w_ ((Pt p1 [x_.2.2.2.2.1, x_.2.2.2.2.2.1, .bool x_.2.2.2.1] 118 :: Sl 3 1 enI x_.2.2.2.2.1 x_.2.1 :: Sl 5 1 enK x_.2.2.2.2.2.1 x_.2.2.1 :: Sl 3 1 enI ue x_.2.2.2.2.2.2.1 :: Sl 3 1 enI ul x_.2.2.2.2.2.2.2 :: l))) (fun x_ => xs.length - x_.1) ?_ ?_ ?_
      · repeat first | exact mt_nil | refine mt_cons rfl ?_ | refine mt_i rfl (by first | omega | (simp only; omega) | (simp; omega) | (simp; done)) ?_
      · try simp only
        refine ⟨?_, ?_⟩
        · omega
        refine ⟨?_, ?_⟩
        · exact MK.zero (by simp) (by simp)
        exact H
      clear H
      rintro ⟨k, op, last, ov, vo, vl, E, L⟩ f_ w_ ⟨hk, hM, H⟩
      try simp only at hk hM H ⊢
      have hEl := hM.eL
      have hLl := hM.lL
      rw [hml] at hEl hLl
      rcases Nat.lt_or_ge k xs.length with hlt | hge
      · obtain ⟨x, hxk⟩ : ∃ x, xs[k]? = some x := ⟨_, List.getElem?_eq_getElem hlt⟩
        have hmx := map_get hxk
        have hc2 := (hF k _ hlt hmx).2
        have hok := stB_ok (xs.map InsV.d) k
        rw [← hM.cur] at hc2 hok
        have hov : ov = false := by
          cases ov
          · rfl
          · rw [over_no rfl] at hc2; cases hc2
        subst hov
        change (nextS ⟨op, last, false⟩ x.op k).2.2 = 0 at hc2
        by_cases h5 : x.op = 5
        · refine cT (vLt_T (by omega)) ?_
          refine bk ?_
          obtain ⟨b1, o1, E1, F1, hok1⟩ := FSl.elt hx hxk
          have hok1_op := hok1.op
          have hok1_a := hok1.a
          have hok1_b := hok1.b
          have hok1_to := hok1.to
          refine rIxE E1 rfl rfl rfl ?_
          refine rLdA (H.fat F1) 0 rfl rfl rfl ?_
          refine rAllocS H rfl ?_
          clear H
          intro p2 w3 H
          clear w_
          refine rStAS H 0 rfl rfl rfl (by simp only [List.all_cons, List.all_nil, H.one 2 rfl, H.one 3 rfl, H.one 4 rfl, H.one 5 rfl, FSl.one hok1_to, FSl.one hx]; rfl) ?_
          clear H
          intro w4 H
          clear w3
          obtain ⟨x1, hx1⟩ : ∃ x, (E)[(k)]? = some x := ⟨_, List.getElem?_eq_getElem (by omega)⟩
          obtain ⟨b2, o2, E2⟩ := H.elt 4 rfl (k) (by omega)
          refine rIxE E2 rfl rfl rfl ?_
          refine rStE H 4 rfl E2 hx1 0 (-1) rfl rfl rfl rfl ?_
          clear H
          intro w3 H
          clear w4
          obtain ⟨x2, hx2⟩ : ∃ x, (L)[(k)]? = some x := ⟨_, List.getElem?_eq_getElem (by omega)⟩
          obtain ⟨b3, o3, E3⟩ := H.elt 5 rfl (k) (by omega)
          refine rIxE E3 rfl rfl rfl ?_
          refine rStE H 5 rfl E3 hx2 0 (-1) rfl rfl rfl rfl ?_
          clear H
          intro w4 H
          clear w3
          refine rLdA (H.at 0 rfl) 0 rfl rfl rfl ?_
          refine H.fronts [3, 3, 3] ?_
          clear H
          intro H
          refine CallP.mk (Fc.imp (Go.Proofs.YtndhikahjmgamaaGreatDoor.Nest.next _ hok H _ _ _ _ _) ?_)
          clear H
          rintro _ w3 ⟨op'1, ⟨last'1, ⟨ov'1, ⟨vo'1, ⟨vl'1, ⟨is1, ⟨e2, ⟨rfl, ⟨h2, H⟩⟩⟩⟩⟩⟩⟩⟩⟩
          rw [h2] at hc2
          simp only at hc2
          subst hc2
          obtain ⟨hM2, hb1, hb2⟩ := hM.step_else hmx h2 h5
          rw [hml] at hb2
          refine bk ?_
          refine rFieldAt rfl ?_
          refine rLd (H.at 3 rfl) 0 rfl rfl rfl ?_
          refine cT (vEq_T (by assumption)) ?_
          refine rIxE E3 rfl rfl rfl ?_
          have hx3 : (L.set k (-1))[k]? = some _ := setSelf hx2
          refine rStE H 5 rfl E3 hx3 0 (is1) rfl rfl rfl rfl ?_
          clear H
          intro w5 H
          clear w3
          obtain ⟨x3, hx4⟩ : ∃ x, ((L.set k (-1)).set k is1)[(is1).toNat]? = some x := ⟨_, List.getElem?_eq_getElem (by (simp only [List.length_append, List.length_set, List.length_cons, List.length_nil]; omega))⟩
          obtain ⟨b4, o4, E4⟩ := H.elt 5 rfl (is1).toNat (by (simp only [List.length_append, List.length_set, List.length_cons, List.length_nil]; omega))
          refine rIxE E4 (by omega) rfl rfl ?_
          refine rStE H 5 rfl E4 hx4 0 ((↑k : Int)) rfl rfl rfl rfl ?_
          clear H
          intro w3 H
          clear w5
          refine eqI64 (by omega) ?_
          refine Nxt.mk ((k + 1, op'1, last'1, ov'1, vo'1, vl'1, E.set k (-1), ((L.set k (-1)).set k is1).set is1.toNat (↑k : Int))) (mt_i rfl (by first | omega | (simp only; omega) | (simp; omega)) (mt_nil)) ?_ ?_
          · refine ⟨?_, ?_⟩
            · assumption
            refine ⟨?_, ?_⟩
            · exact hM2
            refine H.fronts [5, 5, 4, 4, 4] ?_
            clear H
            intro H
            refine H.drop 5 ?_
            clear H
            intro H
            exact H
          omega
        by_cases h11 : x.op = 11
        · refine cT (vLt_T (by omega)) ?_
          refine bk ?_
          obtain ⟨b1, o1, E1, F1, hok1⟩ := FSl.elt hx hxk
          have hok1_op := hok1.op
          have hok1_a := hok1.a
          have hok1_b := hok1.b
          have hok1_to := hok1.to
          refine rIxE E1 rfl rfl rfl ?_
          refine rLdA (H.fat F1) 0 rfl rfl rfl ?_
          refine rAllocS H rfl ?_
          clear H
          intro p2 w3 H
          clear w_
          refine rStAS H 0 rfl rfl rfl (by simp only [List.all_cons, List.all_nil, H.one 2 rfl, H.one 3 rfl, H.one 4 rfl, H.one 5 rfl, FSl.one hok1_to, FSl.one hx]; rfl) ?_
          clear H
          intro w4 H
          clear w3
          obtain ⟨x1, hx1⟩ : ∃ x, (E)[(k)]? = some x := ⟨_, List.getElem?_eq_getElem (by omega)⟩
          obtain ⟨b2, o2, E2⟩ := H.elt 4 rfl (k) (by omega)
          refine rIxE E2 rfl rfl rfl ?_
          refine rStE H 4 rfl E2 hx1 0 (-1) rfl rfl rfl rfl ?_
          clear H
          intro w3 H
          clear w4
          obtain ⟨x2, hx2⟩ : ∃ x, (L)[(k)]? = some x := ⟨_, List.getElem?_eq_getElem (by omega)⟩
          obtain ⟨b3, o3, E3⟩ := H.elt 5 rfl (k) (by omega)
          refine rIxE E3 rfl rfl rfl ?_
          refine rStE H 5 rfl E3 hx2 0 (-1) rfl rfl rfl rfl ?_
          clear H
          intro w4 H
          clear w3
          refine rLdA (H.at 0 rfl) 0 rfl rfl rfl ?_
          refine H.fronts [3, 3, 3] ?_
          clear H
          intro H
          refine CallP.mk (Fc.imp (Go.Proofs.YtndhikahjmgamaaGreatDoor.Nest.next _ hok H _ _ _ _ _) ?_)
          clear H
          rintro _ w3 ⟨op'1, ⟨last'1, ⟨ov'1, ⟨vo'1, ⟨vl'1, ⟨is1, ⟨e2, ⟨rfl, ⟨h2, H⟩⟩⟩⟩⟩⟩⟩⟩⟩
          rw [h2] at hc2
          simp only at hc2
          subst hc2
          rcases hM.step_end' hmx h2 h11 with ⟨hb1, hM2⟩ | ⟨z, hb1, hb2, hz, hb3, hM2⟩ | ⟨z, hb1, hb2, hz, hb3, hb4, hM2⟩
          refine bk ?_
          refine rFieldAt rfl ?_
          refine rLd (H.at 3 rfl) 0 rfl rfl rfl ?_
          refine cF (vEq_F (by assumption)) ?_
          refine rFieldAt rfl ?_
          refine rLd (H.at 3 rfl) 0 rfl rfl rfl ?_
          refine cT (vEq_T (by assumption)) ?_
          refine rIxE E2 rfl rfl rfl ?_
          have hx3 : (E.set k (-1))[k]? = some _ := setSelf hx1
          refine rStE H 4 rfl E2 hx3 0 (is1) rfl rfl rfl rfl ?_
          clear H
          intro w5 H
          clear w3
          refine cF (vLe_F (by assumption)) ?_
          refine eqI64 (by omega) ?_
          refine Nxt.mk ((k + 1, op'1, last'1, ov'1, vo'1, vl'1, (E.set k (-1)).set k is1, L.set k (-1))) (mt_i rfl (by first | omega | (simp only; omega) | (simp; omega)) (mt_nil)) ?_ ?_
          · refine ⟨?_, ?_⟩
            · assumption
            refine ⟨?_, ?_⟩
            · exact hM2
            refine H.fronts [5, 5, 4, 4, 4] ?_
            clear H
            intro H
            refine H.drop 5 ?_
            clear H
            intro H
            exact H
          · omega
          · refine bk ?_
            refine rFieldAt rfl ?_
            refine rLd (H.at 3 rfl) 0 rfl rfl rfl ?_
            refine cF (vEq_F (by assumption)) ?_
            refine rFieldAt rfl ?_
            refine rLd (H.at 3 rfl) 0 rfl rfl rfl ?_
            refine cT (vEq_T (by assumption)) ?_
            refine rIxE E2 rfl rfl rfl ?_
            have hx3 : (E.set k (-1))[k]? = some _ := setSelf hx1
            refine rStE H 4 rfl E2 hx3 0 (is1) rfl rfl rfl rfl ?_
            clear H
            intro w5 H
            clear w3
            refine cT (vLe_T (by assumption)) ?_
            obtain ⟨x3, hx4⟩ : ∃ x, ((E.set k (-1)).set k is1)[(is1).toNat]? = some x := ⟨_, List.getElem?_eq_getElem (by (simp only [List.length_append, List.length_set, List.length_cons, List.length_nil]; omega))⟩
            obtain ⟨b4, o4, E4⟩ := H.elt 4 rfl (is1).toNat (by (simp only [List.length_append, List.length_set, List.length_cons, List.length_nil]; omega))
            refine rIxE E4 (by omega) rfl rfl ?_
            refine rStE H 4 rfl E4 hx4 0 ((↑k : Int)) rfl rfl rfl rfl ?_
            clear H
            intro w3 H
            clear w5
            obtain ⟨b5, o5, E5⟩ := H.elt 5 rfl (is1).toNat (by (simp only [List.length_append, List.length_set, List.length_cons, List.length_nil]; omega))
            refine rIxE E5 (by omega) rfl rfl ?_
            refine rLd (H.el 5 rfl E5 hz) 0 rfl rfl rfl ?_
            refine cF (vLe_F (by assumption)) ?_
            refine eqI64 (by omega) ?_
            refine Nxt.mk ((k + 1, op'1, last'1, ov'1, vo'1, vl'1, ((E.set k (-1)).set k is1).set is1.toNat (↑k : Int), L.set k (-1))) (mt_i rfl (by first | omega | (simp only; omega) | (simp; omega)) (mt_nil)) ?_ ?_
            · refine ⟨?_, ?_⟩
              · assumption
              refine ⟨?_, ?_⟩
              · exact hM2
              refine H.fronts [5, 5, 4, 4, 4] ?_
              clear H
              intro H
              refine H.drop 5 ?_
              clear H
              intro H
              exact H
            omega
          refine bk ?_
          refine rFieldAt rfl ?_
          refine rLd (H.at 3 rfl) 0 rfl rfl rfl ?_
          refine cF (vEq_F (by assumption)) ?_
          refine rFieldAt rfl ?_
          refine rLd (H.at 3 rfl) 0 rfl rfl rfl ?_
          refine cT (vEq_T (by assumption)) ?_
          refine rIxE E2 rfl rfl rfl ?_
          have hx3 : (E.set k (-1))[k]? = some _ := setSelf hx1
          refine rStE H 4 rfl E2 hx3 0 (is1) rfl rfl rfl rfl ?_
          clear H
          intro w5 H
          clear w3
          refine cT (vLe_T (by assumption)) ?_
          obtain ⟨x3, hx4⟩ : ∃ x, ((E.set k (-1)).set k is1)[(is1).toNat]? = some x := ⟨_, List.getElem?_eq_getElem (by (simp only [List.length_append, List.length_set, List.length_cons, List.length_nil]; omega))⟩
          obtain ⟨b4, o4, E4⟩ := H.elt 4 rfl (is1).toNat (by (simp only [List.length_append, List.length_set, List.length_cons, List.length_nil]; omega))
          refine rIxE E4 (by omega) rfl rfl ?_
          refine rStE H 4 rfl E4 hx4 0 ((↑k : Int)) rfl rfl rfl rfl ?_
          clear H
          intro w3 H
          clear w5
          obtain ⟨b5, o5, E5⟩ := H.elt 5 rfl (is1).toNat (by (simp only [List.length_append, List.length_set, List.length_cons, List.length_nil]; omega))
          refine rIxE E5 (by omega) rfl rfl ?_
          refine rLd (H.el 5 rfl E5 hz) 0 rfl rfl rfl ?_
          refine cT (vLe_T (by assumption)) ?_
          obtain ⟨x4, hx5⟩ : ∃ x, (((E.set k (-1)).set k is1).set is1.toNat (↑k : Int))[(z).toNat]? = some x := ⟨_, List.getElem?_eq_getElem (by (simp only [List.length_append, List.length_set, List.length_cons, List.length_nil]; omega))⟩
          obtain ⟨b6, o6, E6⟩ := H.elt 4 rfl (z).toNat (by (simp only [List.length_append, List.length_set, List.length_cons, List.length_nil]; omega))
          refine rIxE E6 (by omega) rfl rfl ?_
          refine rStE H 4 rfl E6 hx5 0 ((↑k : Int)) rfl rfl rfl rfl ?_
          clear H
          intro w5 H
          clear w3
          refine eqI64 (by omega) ?_
          refine Nxt.mk ((k + 1, op'1, last'1, ov'1, vo'1, vl'1, (((E.set k (-1)).set k is1).set is1.toNat (↑k : Int)).set z.toNat (↑k : Int), L.set k (-1))) (mt_i rfl (by first | omega | (simp only; omega) | (simp; omega)) (mt_nil)) ?_ ?_
          · refine ⟨?_, ?_⟩
            · assumption
            refine ⟨?_, ?_⟩
            · exact hM2
            refine H.fronts [5, 5, 4, 4, 4] ?_
            clear H
            intro H
            refine H.drop 5 ?_
            clear H
            intro H
            exact H
          omega
        · refine cT (vLt_T (by omega)) ?_
          refine bk ?_
          obtain ⟨b1, o1, E1, F1, hok1⟩ := FSl.elt hx hxk
          have hok1_op := hok1.op
          have hok1_a := hok1.a
          have hok1_b := hok1.b
          have hok1_to := hok1.to
          refine rIxE E1 rfl rfl rfl ?_
          refine rLdA (H.fat F1) 0 rfl rfl rfl ?_
          refine rAllocS H rfl ?_
          clear H
          intro p2 w3 H
          clear w_
          refine rStAS H 0 rfl rfl rfl (by simp only [List.all_cons, List.all_nil, H.one 2 rfl, H.one 3 rfl, H.one 4 rfl, H.one 5 rfl, FSl.one hok1_to, FSl.one hx]; rfl) ?_
          clear H
          intro w4 H
          clear w3
          obtain ⟨x1, hx1⟩ : ∃ x, (E)[(k)]? = some x := ⟨_, List.getElem?_eq_getElem (by omega)⟩
          obtain ⟨b2, o2, E2⟩ := H.elt 4 rfl (k) (by omega)
          refine rIxE E2 rfl rfl rfl ?_
          refine rStE H 4 rfl E2 hx1 0 (-1) rfl rfl rfl rfl ?_
          clear H
          intro w3 H
          clear w4
          obtain ⟨x2, hx2⟩ : ∃ x, (L)[(k)]? = some x := ⟨_, List.getElem?_eq_getElem (by omega)⟩
          obtain ⟨b3, o3, E3⟩ := H.elt 5 rfl (k) (by omega)
          refine rIxE E3 rfl rfl rfl ?_
          refine rStE H 5 rfl E3 hx2 0 (-1) rfl rfl rfl rfl ?_
          clear H
          intro w4 H
          clear w3
          refine rLdA (H.at 0 rfl) 0 rfl rfl rfl ?_
          refine H.fronts [3, 3, 3] ?_
          clear H
          intro H
          refine CallP.mk (Fc.imp (Go.Proofs.YtndhikahjmgamaaGreatDoor.Nest.next _ hok H _ _ _ _ _) ?_)
          clear H
          rintro _ w3 ⟨op'1, ⟨last'1, ⟨ov'1, ⟨vo'1, ⟨vl'1, ⟨is1, ⟨e2, ⟨rfl, ⟨h2, H⟩⟩⟩⟩⟩⟩⟩⟩⟩
          rw [h2] at hc2
          simp only at hc2
          subst hc2
          refine bk ?_
          refine rFieldAt rfl ?_
          refine rLd (H.at 3 rfl) 0 rfl rfl rfl ?_
          refine cF (vEq_F (by assumption)) ?_
          refine rFieldAt rfl ?_
          refine rLd (H.at 3 rfl) 0 rfl rfl rfl ?_
          refine cF (vEq_F (by assumption)) ?_
          refine eqI64 (by omega) ?_
          refine Nxt.mk ((k + 1, op'1, last'1, ov'1, vo'1, vl'1, E.set k (-1), L.set k (-1))) (mt_i rfl (by first | omega | (simp only; omega) | (simp; omega)) (mt_nil)) ?_ ?_
          · refine ⟨?_, ?_⟩
            · assumption
            refine ⟨?_, ?_⟩
            · exact hM.step_o hmx h2 h5 h11
            refine H.fronts [5, 5, 4, 4, 4] ?_
            clear H
            intro H
            refine H.drop 5 ?_
            clear H
            intro H
            exact H
          omega
      · obtain rfl : k = xs.length := by omega
        rw [← hM.cur] at hov
        have hov : ov = true := hov
        subst hov
        refine cF (vLt_F (by omega)) ?_
        refine Done.mk ?_
        refine ⟨ue, ul, E, L, 0, ?_⟩
        refine ⟨?_, ?_⟩
        · rfl
        refine ⟨?_, ?_⟩
        · omega
        refine ⟨?_, ?_⟩
        · exact .inr ⟨rfl, _, _, hM⟩
        refine H.fronts [4, 4] ?_
        clear H
        intro H
        refine H.drop 4 ?_
        clear H
        intro H
        refine H.drop 3 ?_
        clear H
        intro H
        refine H.drop 2 ?_
        clear H
        intro H
        exact H
  · refine CallP.mk (Fc.imp (Go.Proofs.YtndhikahjmgamaaGreatDoor.Nest.check H _ _ hx) ?_)
    clear H
    rintro _ w1 ⟨⟨e1, ⟨rfl, h1⟩⟩, H⟩
    refine cT (vNe_T (by omega)) ?_
    refine Done.mk ?_
    exact ⟨.slice none 0 0, .slice none 0 0, [], [], _, rfl, h1, .inl ⟨by rw [h1]; exact hc, rfl, rfl⟩, (H.sl0 (en := enI) (s := 1) 3 (fun _ => rfl)).sl0 (en := enI) (s := 1) 3 (fun _ => rfl)⟩
end
end Go.Proofs.YtndhikahjmgamaaGreatDoor.Nest
