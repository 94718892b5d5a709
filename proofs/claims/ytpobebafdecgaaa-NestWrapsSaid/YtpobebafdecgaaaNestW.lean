/- Package nest: the walker. -/
import Derived.Test.YtpobebafdecgaaaNestS
import Derived.Test.YtpobebafdecgaaaInsO
import Derived.Test.YtpobebafdecgaaaInsE
import Derived.Test.YtpobebafdecgaaaVw
set_option maxRecDepth 100000
set_option maxHeartbeats 4000000
set_option linter.unusedVariables false
set_option linter.unusedSimpArgs false
namespace Go.Proofs.Ytpobebafdecgaaa.Nest
open Go Go.Proofs.Ytpobebafdecgaaa.Eng Go.RowKit
open Ins
section
variable {g : Glob} {w : World} {l : List As} {e : TypeId} {s j h : Nat} {α : Type} {en : α → List Value} {v v' : Value} {xs : List α}
/-- A row of which a beginning is kept. -/
theorem _root_.Go.Proofs.Ytpobebafdecgaaa.Eng.Sat.ofVw (H : Sat g w l) (j : Nat) (hj : l[j]? = some (Sl e s en v xs)) (V : Vw v s xs.length 0 h v') : Sat g w (l.set j (Sl e s en v' (xs.take h))) := by
  obtain ⟨ad, cap, hv, hh, hnc, hcm, ha, rfl⟩ := V
  have ho := H.off j hj
  refine H.slSet (lo := 0) hj ?_ (Gr.same w ?_)
  · rcases ho.1 with ⟨h1, h2⟩ | ⟨gb, o, cap', cur, h1, h2, h3, h4, h5, h6, h7⟩
    · subst h2
      rw [h1] at hv
      injection hv with e1 e2 e3
      subst e1; subst e3
      have : h = 0 := by simpa using hh
      subst this
      exact ⟨.inl ⟨rfl, by simp⟩, ho.2⟩
    · rw [h1] at hv
      injection hv with e1 e2 e3
      subst e1; subst e3
      refine ⟨.inr ⟨gb, o, cap', cur, ?_, h2, h3, h4, by rw [List.length_take]; omega, h6, ?_⟩, ho.2⟩
      · rw [List.length_take, Nat.min_eq_left hh]
        simp [Addr.add_zero']
      · rw [List.length_take, Nat.min_eq_left hh, ← flat_take ho.2 xs h hh, ← h7, List.take_take]
        congr 1
        have := Nat.mul_le_mul_right s hh
        omega
  · rcases ho.1 with ⟨h1, h2⟩ | ⟨gb, o, cap', cur, h1, h2, h3, h4, h5, h6, h7⟩
    · rw [h1] at hv
      injection hv with e1 e2 e3
      subst e1; subst e3
      left; rw [h1]; simp [Value.ownBlock]
    · rw [h1] at hv
      injection hv with e1 e2 e3
      subst e1; subst e3
      left; rw [h1]; simp [Value.ownBlock, Addr.add_zero']
end
theorem begin_ (w : World) : Fc Try.prog 31 #[] w (fun v w' => ∃ p vo vl, v = .pointer (some ⟨p, 0, none⟩) ∧ Sat (froz w) w' [Pt p [vo, vl, .bool false] 70, Sl 3 1 enI vo ns0.op, Sl 5 1 enK vl ns0.last]) := by
  refine Fc.of Try.func31 rfl (by kernel_rfl) ?_
  have H := Sat.start w
  refine rBuildSliceS H rfl rfl rfl rfl ?_
  clear H
  intro p1 w1 H
  refine rBuildSliceS H rfl rfl rfl rfl ?_
  clear H
  intro p2 w2 H
  clear w1
  refine rBuild rfl rfl rfl ?_
  refine rBoxS H ?_
  clear H
  intro p3 w1 H
  clear w2
  refine H.ptSl (n := 1) (en := enK) (s := 1) 1 rfl [_] rfl rfl (fun _ => rfl) rfl ?_
  clear H
  intro H
  refine H.ptSl (n := 1) (en := enI) (s := 1) 2 rfl [_] rfl rfl (fun _ => rfl) rfl ?_
  clear H
  intro H
  refine Done.mk ?_
  refine ⟨p3, Value.slice (some { block := p1, off := 0 }) 1 1, Value.slice (some { block := p2, off := 0 }) 1 1, ?_⟩
  refine ⟨?_, ?_⟩
  · rfl
  refine H.fronts [1, 2, 2] ?_
  clear H
  intro H
  exact H
section
variable {g : Glob} {w : World} {l : List As}
theorem nx_over {op last : List Int} {o k : Int} : nextS ⟨op, last, true⟩ o k = (⟨op, last, true⟩, -2, 4) := rfl
theorem nx_deep {op last : List Int} {o k : Int} (ho : o = 2 ∨ o = 3 ∨ o = 4) (h : 12 ≤ op.length - 1) : nextS ⟨op, last, false⟩ o k = (⟨op, last, false⟩, -2, 7) := by
  unfold nextS; rw [if_neg (by simp), if_pos ho, if_pos h]
theorem nx_open {op last : List Int} {o k : Int} (ho : o = 2 ∨ o = 3 ∨ o = 4) (h : op.length - 1 < 12) : nextS ⟨op, last, false⟩ o k = (⟨op ++ [k], last ++ [o], false⟩, -2, 0) := by
  unfold nextS; rw [if_neg (by simp), if_pos ho, if_neg (by simp only; omega)]
theorem nx_else_no {op last : List Int} {o k x : Int} (ho : o = 5) (hx : last[op.length - 1]? = some x) (h : x ≠ 4) : nextS ⟨op, last, false⟩ o k = (⟨op, last, false⟩, -2, 4) := by
  unfold nextS; rw [if_neg (by simp), if_neg (by omega), if_pos ho, if_pos (by simp only [List.getD_eq_getElem?_getD, hx]; exact h)]
theorem nx_else {op last : List Int} {o k x y : Int} (ho : o = 5) (hx : last[op.length - 1]? = some x) (h : x = 4) (hy : op[op.length - 1]? = some y) : nextS ⟨op, last, false⟩ o k = (⟨op, last.set (op.length - 1) 5, false⟩, y, 0) := by
  unfold nextS; rw [if_neg (by simp), if_neg (by omega), if_pos ho, if_neg (by simp only [List.getD_eq_getElem?_getD, hx]; simpa using h)]
  simp only [List.getD_eq_getElem?_getD, hy]; rfl
theorem nx_end {op last : List Int} {o k y : Int} (ho : o = 11) (hy : op[op.length - 1]? = some y) : nextS ⟨op, last, false⟩ o k = (⟨op.take (op.length - 1), last.take (op.length - 1), decide (op.length - 1 = 0)⟩, y, 0) := by
  unfold nextS; rw [if_neg (by simp), if_neg (by omega), if_neg (by omega), if_pos ho]
  simp only [List.getD_eq_getElem?_getD, hy]; rfl
theorem nx_end' {op last : List Int} {o k y : Int} (ho : o = 11) (hy : op[op.length - 1]? = some y) (hp : 0 < op.length) : nextS ⟨op, last, false⟩ o k = (⟨op.take (op.length - 1), last.take (op.length - 1), vEq ((op.length : Int) - 1) 0⟩, y, 0) := by
  rw [nx_end ho hy, vEq_iff, show decide ((op.length : Int) - 1 = 0) = decide (op.length - 1 = 0) from decide_eq_decide.2 (by omega)]
theorem nx_else_ {op last : List Int} {o k : Int} (h2 : o ≠ 2) (h3 : o ≠ 3) (h4 : o ≠ 4) (h5 : o ≠ 5) (h11 : o ≠ 11) : nextS ⟨op, last, false⟩ o k = (⟨op, last, false⟩, -2, 0) := by
  unfold nextS; rw [if_neg (by simp), if_neg (by omega), if_neg h5, if_neg h11]
theorem next {p : Nat} {vo vl : Value} (st : NS) (hst : NOk st) (H : Sat g w (Pt p [vo, vl, .bool st.over] 70 :: Sl 3 1 enI vo st.op :: Sl 5 1 enK vl st.last :: l)) (o a b k : Int) (tv : Value) :
    Fc Try.prog 32 #[.pointer (some ⟨p, 0, none⟩), .agg #[.int .u8 o, .int .i64 a, .int .i64 b, tv], .int .i64 k] w
    (fun v w' => ∃ (op' last' : List Int) (ov' : Bool) (vo' vl' : Value) (is e : Int), v = .tuple #[.int .i64 is, .int .i64 e] ∧ nextS st o k = (⟨op', last', ov'⟩, is, e) ∧ Sat g w' (Pt p [vo', vl', .bool ov'] 70 :: Sl 3 1 enI vo' op' :: Sl 5 1 enK vl' last' :: l)) := by
  refine Fc.of Try.func32 rfl (by kernel_rfl) ?_
  obtain ⟨hs1, hs2, hs3⟩ := hst
  obtain ⟨op, last, ov⟩ := st
  simp only at hs1 hs2 hs3 H
  cases ov
  · have hs4 := hs2 rfl
    clear hs2
    refine rBoxS H ?_
    clear H
    intro p1 w1 H
    refine rFieldAt rfl ?_
    refine rLd (H.at 1 rfl) 0 rfl rfl rfl ?_
    refine rLenS H 2 rfl rfl ?_
    refine eqI64 (by omega) ?_
    refine bk ?_
    refine rFieldAt rfl ?_
    refine rLd (H.at 1 rfl) 2 rfl rfl rfl ?_
    refine cF rfl ?_
    refine rFieldAt rfl ?_
    refine rLd (H.at 0 rfl) 0 rfl rfl rfl ?_
    refine cI (fun c1 => ?_) (fun c1 => ?_)
    · replace c1 := vEq_t (c1)
      refine cT (vEq_T (by assumption)) ?_
      refine cI (fun c2 => ?_) (fun c2 => ?_)
      · replace c2 := vLe_t (c2)
        refine Done.mk ?_
        refine ⟨op, last, false, vo, vl, -2, 7, ?_⟩
        refine ⟨?_, ?_⟩
        · rfl
        refine ⟨?_, ?_⟩
        · exact nx_deep (by omega) (by omega)
        refine H.fronts [3, 3, 3] ?_
        clear H
        intro H
        refine H.drop 3 ?_
        clear H
        intro H
        exact H
      replace c2 := vLe_f (c2)
      refine rFieldAt rfl ?_
      refine rLd (H.at 1 rfl) 0 rfl rfl rfl ?_
      refine rBuildSliceS H rfl rfl rfl rfl ?_
      clear H
      intro p2 w2 H
      clear w1
      refine rApS (ys := [_]) 8 H 3 rfl (H.at 0 rfl) rfl (fun y _ => rfl) rfl rfl rfl (by omega) (by omega) ?_
      intro v1
      clear H
      intro w1 H
      clear w2
      refine rFieldAt rfl ?_
      refine rStS H 2 rfl rfl rfl (H.one 3 rfl) ?_
      clear H
      intro w2 H
      clear w1
      refine drawzS H [] [(0, .pure), (1, .pure), (2, .pure), (3, .pure), (4, .held), (5, .pure), (6, .held), (7, .forced), (8, .free), (9, .pure), (10, .pure), (11, .free)] mixed (by kernel_rfl) (by kernel_rfl) ?_
      clear H
      intro w1 H
      clear w2
      refine tk (fun wx HS => rFieldAt rfl ⟨rfl, rfl⟩) ?_
      refine tk (fun wx HS => rLd (HS.at 2 rfl) 1 rfl rfl rfl ⟨rfl, rfl⟩) ?_
      refine tk (fun wx HS => rFieldAt rfl ⟨rfl, rfl⟩) ?_
      refine tk (fun wx HS => rLd (HS.at 1 rfl) 0 rfl rfl rfl ⟨rfl, rfl⟩) ?_
      refine rBuildSliceS H rfl rfl rfl rfl ?_
      clear H
      intro p3 w2 H
      clear w1
      refine KeepP.mk (H.drop 0 (fun H => H)) ?_
      refine rApS (ys := [_]) 1 H 5 rfl (H.at 0 rfl) rfl (fun y _ => rfl) rfl rfl rfl (by omega) (by omega) ?_
      intro v2
      clear H
      intro w1 H
      clear w2
      refine tk (fun wx HS => rFieldAt rfl ⟨rfl, rfl⟩) ?_
      refine rStS H 3 rfl rfl rfl (H.one 5 rfl) ?_
      clear H
      intro w2 H
      clear w1
      refine Done.mk ?_
      refine ⟨op ++ [k], last ++ [o], false, v1, v2, -2, 0, ?_⟩
      refine ⟨?_, ?_⟩
      · rfl
      refine ⟨?_, ?_⟩
      · exact nx_open (by omega) (by omega)
      refine H.fronts [5, 5, 5] ?_
      clear H
      intro H
      refine H.drop 5 ?_
      clear H
      intro H
      refine H.drop 4 ?_
      clear H
      intro H
      refine H.drop 3 ?_
      clear H
      intro H
      exact H
    replace c1 := vEq_f (c1)
    refine rFieldAt rfl ?_
    refine rLd (H.at 0 rfl) 0 rfl rfl rfl ?_
    refine cI (fun c2 => ?_) (fun c2 => ?_)
    · replace c2 := vEq_t (c2)
      refine cT (vEq_T (by assumption)) ?_
      refine cI (fun c3 => ?_) (fun c3 => ?_)
      · replace c3 := vLe_t (c3)
        refine Done.mk ?_
        refine ⟨op, last, false, vo, vl, -2, 7, ?_⟩
        refine ⟨?_, ?_⟩
        · rfl
        refine ⟨?_, ?_⟩
        · exact nx_deep (by omega) (by omega)
        refine H.fronts [3, 3, 3] ?_
        clear H
        intro H
        refine H.drop 3 ?_
        clear H
        intro H
        exact H
      replace c3 := vLe_f (c3)
      refine rFieldAt rfl ?_
      refine rLd (H.at 1 rfl) 0 rfl rfl rfl ?_
      refine rBuildSliceS H rfl rfl rfl rfl ?_
      clear H
      intro p2 w2 H
      clear w1
      refine rApS (ys := [_]) 8 H 3 rfl (H.at 0 rfl) rfl (fun y _ => rfl) rfl rfl rfl (by omega) (by omega) ?_
      intro v1
      clear H
      intro w1 H
      clear w2
      refine rFieldAt rfl ?_
      refine rStS H 2 rfl rfl rfl (H.one 3 rfl) ?_
      clear H
      intro w2 H
      clear w1
      refine drawzS H [] [(0, .pure), (1, .pure), (2, .pure), (3, .pure), (4, .held), (5, .pure), (6, .held), (7, .forced), (8, .free), (9, .pure), (10, .pure), (11, .free)] mixed (by kernel_rfl) (by kernel_rfl) ?_
      clear H
      intro w1 H
      clear w2
      refine tk (fun wx HS => rFieldAt rfl ⟨rfl, rfl⟩) ?_
      refine tk (fun wx HS => rLd (HS.at 2 rfl) 1 rfl rfl rfl ⟨rfl, rfl⟩) ?_
      refine tk (fun wx HS => rFieldAt rfl ⟨rfl, rfl⟩) ?_
      refine tk (fun wx HS => rLd (HS.at 1 rfl) 0 rfl rfl rfl ⟨rfl, rfl⟩) ?_
      refine rBuildSliceS H rfl rfl rfl rfl ?_
      clear H
      intro p3 w2 H
      clear w1
      refine KeepP.mk (H.drop 0 (fun H => H)) ?_
      refine rApS (ys := [_]) 1 H 5 rfl (H.at 0 rfl) rfl (fun y _ => rfl) rfl rfl rfl (by omega) (by omega) ?_
      intro v2
      clear H
      intro w1 H
      clear w2
      refine tk (fun wx HS => rFieldAt rfl ⟨rfl, rfl⟩) ?_
      refine rStS H 3 rfl rfl rfl (H.one 5 rfl) ?_
      clear H
      intro w2 H
      clear w1
      refine Done.mk ?_
      refine ⟨op ++ [k], last ++ [o], false, v1, v2, -2, 0, ?_⟩
      refine ⟨?_, ?_⟩
      · rfl
      refine ⟨?_, ?_⟩
      · exact nx_open (by omega) (by omega)
      refine H.fronts [5, 5, 5] ?_
      clear H
      intro H
      refine H.drop 5 ?_
      clear H
      intro H
      refine H.drop 4 ?_
      clear H
      intro H
      refine H.drop 3 ?_
      clear H
      intro H
      exact H
    replace c2 := vEq_f (c2)
    refine rFieldAt rfl ?_
    refine rLd (H.at 0 rfl) 0 rfl rfl rfl ?_
    refine cI (fun c3 => ?_) (fun c3 => ?_)
    · replace c3 := vEq_t (c3)
      refine cI (fun c4 => ?_) (fun c4 => ?_)
      · replace c4 := vLe_t (c4)
        refine Done.mk ?_
        refine ⟨op, last, false, vo, vl, -2, 7, ?_⟩
        refine ⟨?_, ?_⟩
        · rfl
        refine ⟨?_, ?_⟩
        · exact nx_deep (by omega) (by omega)
        refine H.fronts [3, 3, 3] ?_
        clear H
        intro H
        refine H.drop 3 ?_
        clear H
        intro H
        exact H
      replace c4 := vLe_f (c4)
      refine rFieldAt rfl ?_
      refine rLd (H.at 1 rfl) 0 rfl rfl rfl ?_
      refine rBuildSliceS H rfl rfl rfl rfl ?_
      clear H
      intro p2 w2 H
      clear w1
      refine rApS (ys := [_]) 8 H 3 rfl (H.at 0 rfl) rfl (fun y _ => rfl) rfl rfl rfl (by omega) (by omega) ?_
      intro v1
      clear H
      intro w1 H
      clear w2
      refine rFieldAt rfl ?_
      refine rStS H 2 rfl rfl rfl (H.one 3 rfl) ?_
      clear H
      intro w2 H
      clear w1
      refine drawzS H [] [(0, .pure), (1, .pure), (2, .pure), (3, .pure), (4, .held), (5, .pure), (6, .held), (7, .forced), (8, .free), (9, .pure), (10, .pure), (11, .free)] mixed (by kernel_rfl) (by kernel_rfl) ?_
      clear H
      intro w1 H
      clear w2
      refine tk (fun wx HS => rFieldAt rfl ⟨rfl, rfl⟩) ?_
      refine tk (fun wx HS => rLd (HS.at 2 rfl) 1 rfl rfl rfl ⟨rfl, rfl⟩) ?_
      refine tk (fun wx HS => rFieldAt rfl ⟨rfl, rfl⟩) ?_
      refine tk (fun wx HS => rLd (HS.at 1 rfl) 0 rfl rfl rfl ⟨rfl, rfl⟩) ?_
      refine rBuildSliceS H rfl rfl rfl rfl ?_
      clear H
      intro p3 w2 H
      clear w1
      refine KeepP.mk (H.drop 0 (fun H => H)) ?_
      refine rApS (ys := [_]) 1 H 5 rfl (H.at 0 rfl) rfl (fun y _ => rfl) rfl rfl rfl (by omega) (by omega) ?_
      intro v2
      clear H
      intro w1 H
      clear w2
      refine tk (fun wx HS => rFieldAt rfl ⟨rfl, rfl⟩) ?_
      refine rStS H 3 rfl rfl rfl (H.one 5 rfl) ?_
      clear H
      intro w2 H
      clear w1
      refine Done.mk ?_
      refine ⟨op ++ [k], last ++ [o], false, v1, v2, -2, 0, ?_⟩
      refine ⟨?_, ?_⟩
      · rfl
      refine ⟨?_, ?_⟩
      · exact nx_open (by omega) (by omega)
      refine H.fronts [5, 5, 5] ?_
      clear H
      intro H
      refine H.drop 5 ?_
      clear H
      intro H
      refine H.drop 4 ?_
      clear H
      intro H
      refine H.drop 3 ?_
      clear H
      intro H
      exact H
    replace c3 := vEq_f (c3)
    refine rFieldAt rfl ?_
    refine rLd (H.at 0 rfl) 0 rfl rfl rfl ?_
    refine cI (fun c4 => ?_) (fun c4 => ?_)
    · replace c4 := vEq_t (c4)
      refine rFieldAt rfl ?_
      refine rLd (H.at 1 rfl) 1 rfl rfl rfl ?_
      obtain ⟨x1, hx1⟩ : ∃ x, (last)[((op.length) - 1)]? = some x := ⟨_, List.getElem?_eq_getElem (by omega)⟩
      obtain ⟨b1, o1, E1⟩ := H.elt 3 rfl ((op.length) - 1) (by omega)
      refine rIxE E1 (by omega) rfl rfl ?_
      refine rLd (H.el 3 rfl E1 hx1) 0 rfl rfl rfl ?_
      refine cI (fun c5 => ?_) (fun c5 => ?_)
      · replace c5 := vNe_t (c5)
        refine Done.mk ?_
        refine ⟨op, last, false, vo, vl, -2, 4, ?_⟩
        refine ⟨?_, ?_⟩
        · rfl
        refine ⟨?_, ?_⟩
        · exact nx_else_no (by omega) hx1 (by assumption)
        refine H.fronts [3, 3, 3] ?_
        clear H
        intro H
        refine H.drop 3 ?_
        clear H
        intro H
        exact H
      replace c5 := vNe_f (c5)
      refine rFieldAt rfl ?_
      refine rLd (H.at 1 rfl) 1 rfl rfl rfl ?_
      refine rIxE E1 (by omega) rfl rfl ?_
      refine rStE H 3 rfl E1 hx1 0 (5) rfl rfl rfl rfl ?_
      clear H
      intro w2 H
      clear w1
      refine rFieldAt rfl ?_
      refine rLd (H.at 1 rfl) 0 rfl rfl rfl ?_
      obtain ⟨x2, hx2⟩ : ∃ x, (op)[((op.length) - 1)]? = some x := ⟨_, List.getElem?_eq_getElem (by omega)⟩
      obtain ⟨b2, o2, E2⟩ := H.elt 2 rfl ((op.length) - 1) (by omega)
      refine rIxE E2 (by omega) rfl rfl ?_
      refine rLd (H.el 2 rfl E2 hx2) 0 rfl rfl rfl ?_
      refine Done.mk ?_
      refine ⟨op, last.set (op.length - 1) 5, false, vo, vl, x2, 0, ?_⟩
      refine ⟨?_, ?_⟩
      · rfl
      refine ⟨?_, ?_⟩
      · exact nx_else (by omega) hx1 (by assumption) (by assumption)
      refine H.fronts [3, 3, 3] ?_
      clear H
      intro H
      refine H.drop 3 ?_
      clear H
      intro H
      exact H
    replace c4 := vEq_f (c4)
    refine rFieldAt rfl ?_
    refine rLd (H.at 0 rfl) 0 rfl rfl rfl ?_
    refine cI (fun c5 => ?_) (fun c5 => ?_)
    · replace c5 := vEq_t (c5)
      refine rFieldAt rfl ?_
      refine rLd (H.at 1 rfl) 0 rfl rfl rfl ?_
      obtain ⟨x1, hx1⟩ : ∃ x, (op)[((op.length) - 1)]? = some x := ⟨_, List.getElem?_eq_getElem (by omega)⟩
      obtain ⟨b1, o1, E1⟩ := H.elt 2 rfl ((op.length) - 1) (by omega)
      refine rIxE E1 (by omega) rfl rfl ?_
      refine rLd (H.el 2 rfl E1 hx1) 0 rfl rfl rfl ?_
      refine drawzS H [] [(0, .pure), (1, .pure), (2, .pure), (3, .pure), (4, .pure), (5, .held), (6, .pure), (7, .pure), (8, .pure), (9, .pure), (10, .pure), (11, .held), (12, .pure), (13, .pure), (14, .pure), (15, .pure), (16, .free), (17, .pure), (18, .pure), (19, .free)] mixed (by kernel_rfl) (by kernel_rfl) ?_
      clear H
      intro w2 H
      clear w1
      refine tk (fun wx HS => rFieldAt rfl ⟨rfl, rfl⟩) ?_
      refine tk (fun wx HS => rLd (HS.at 1 rfl) 0 rfl rfl rfl ⟨rfl, rfl⟩) ?_
      obtain ⟨v1, V1⟩ := H.vw 2 rfl (0) (((op.length) - 1)) (by omega) (by omega)
      refine tk (fun wx HS => rSlVw V1 rfl rfl (.inl ⟨rfl, rfl⟩) (.inr ⟨_, by first | rfl | (congr 2; omega)⟩) ⟨rfl, rfl⟩) ?_
      refine tk (fun wx HS => rFieldAt rfl ⟨rfl, rfl⟩) ?_
      refine tk (fun wx HS => rLd (HS.at 1 rfl) 1 rfl rfl rfl ⟨rfl, rfl⟩) ?_
      obtain ⟨v2, V2⟩ := H.vw 3 rfl (0) (((op.length) - 1)) (by omega) (by omega)
      refine tk (fun wx HS => rSlVw V2 rfl rfl (.inl ⟨rfl, rfl⟩) (.inr ⟨_, by first | rfl | (congr 2; omega)⟩) ⟨rfl, rfl⟩) ?_
      refine tk (fun wx HS => rFieldAt rfl ⟨rfl, rfl⟩) ?_
      refine rStS H 1 rfl rfl rfl (by simp only [Bool.and_true, H.one 2 rfl, H.one 3 rfl, Vw.one V2, Vw.one V1]) ?_
      clear H
      intro w1 H
      clear w2
      refine tk (fun wx HS => rFieldAt rfl ⟨rfl, rfl⟩) ?_
      refine rStS H 1 rfl rfl rfl (by simp only [Bool.and_true, H.one 2 rfl, H.one 3 rfl, Vw.one V2, Vw.one V1]) ?_
      clear H
      intro w2 H
      clear w1
      refine rFieldAt rfl ?_
      refine rStS H 1 rfl rfl rfl rfl ?_
      clear H
      intro w1 H
      clear w2
      refine Done.mk ?_
      exact ⟨_, _, _, v1, v2, _, _, rfl, nx_end' (by omega) hx1 hs4, ((H.ofVw 2 rfl V1).ofVw 3 rfl V2).del 0⟩
    replace c5 := vEq_f (c5)
    refine Done.mk ?_
    refine ⟨op, last, false, vo, vl, -2, 0, ?_⟩
    refine ⟨?_, ?_⟩
    · rfl
    refine ⟨?_, ?_⟩
    · exact nx_else_ (by omega) (by omega) (by omega) (by omega) (by omega)
    refine H.fronts [3, 3, 3] ?_
    clear H
    intro H
    refine H.drop 3 ?_
    clear H
    intro H
    exact H
  · refine rBoxS H ?_
    clear H
    intro p1 w1 H
    refine rFieldAt rfl ?_
    refine rLd (H.at 1 rfl) 0 rfl rfl rfl ?_
    refine rLenS H 2 rfl rfl ?_
    refine eqI64 (by omega) ?_
    refine bk ?_
    refine rFieldAt rfl ?_
    refine rLd (H.at 1 rfl) 2 rfl rfl rfl ?_
    refine cT rfl ?_
    refine Done.mk ?_
    refine ⟨op, last, true, vo, vl, -2, 4, ?_⟩
    refine ⟨?_, ?_⟩
    · rfl
    refine ⟨?_, ?_⟩
    · rfl
    refine H.fronts [3, 3, 3] ?_
    clear H
    intro H
    refine H.drop 3 ?_
    clear H
    intro H
    exact H
end
end Go.Proofs.Ytpobebafdecgaaa.Nest
