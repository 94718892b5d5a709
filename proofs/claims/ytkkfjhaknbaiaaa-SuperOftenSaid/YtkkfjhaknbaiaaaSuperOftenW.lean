/- The law SuperOften. -/
import Derived.Test.YtkkfjhaknbaiaaaSuper5
set_option maxRecDepth 100000
set_option maxHeartbeats 4000000
set_option linter.unusedVariables false
set_option linter.unusedSimpArgs false
namespace Go.Proofs.Ytkkfjhaknbaiaaa.Super
open Go Go.Proofs.Ytkkfjhaknbaiaaa.Eng Go.RowKit
theorem superOften (w : World) (s : Int) (v1 : Value) (keep : List Bool) (most window : Int) (v4 : Value) (xs : List DS) (_ : I64 s) (hkp : Rd enB okB 1 w v1 keep) (_ : I64 most) (_ : I64 window) (hx : Rd enD okD 2 w v4 xs) (hy : xs.length * 16 ≤ 140737488351232) :
    Fc Try.prog 13 #[.int .i64 s, v1, .int .i64 most, .int .i64 window, v4] w (fun v w' => v = .bool true ∧ Below w.heap.size w w') := by
  refine Fc.of Try.func13 rfl (by kernel_rfl) ?_
  have H := Sat.start w
  have hkp := hkp.fz
  have hx := hx.fz
  refine CallP.mk (Fc.imp (Go.Proofs.Ytkkfjhaknbaiaaa.Super.new _ _ _ _ _ _ (H.rd hkp)) ?_)
  rintro _ w1 (⟨h1, ⟨rfl, H'⟩⟩ | (⟨h2, ⟨rfl, H'⟩⟩ | ⟨⟨h3, ⟨h4, ⟨h5, ⟨h6, h7⟩⟩⟩⟩, ⟨p1, ⟨kv1, ⟨rfl, H'⟩⟩⟩⟩))
  · refine H.mergeK H' ?_
    clear H H'
    intro H
    refine br_t (vNe_T (by omega)) ?_
    refine cT rfl ?_
    refine rPtrNil rfl ?_
    refine br_f (vEq_F (by omega)) ?_
    refine Done.mk ?_
    refine ⟨?_, ?_⟩
    · exact congrArg Value.bool (vEq_T (by omega))
    exact H.finish
  · refine H.mergeK H' ?_
    clear H H'
    intro H
    refine br_t (vNe_T (by omega)) ?_
    refine cT rfl ?_
    refine rPtrNil rfl ?_
    refine br_t (vEq_T (by omega)) ?_
    refine Done.mk ?_
    exact ⟨rfl, H.finish⟩
  refine H.mergeK H' ?_
  clear H H'
  intro H
  refine br_f (vNe_F (by omega)) ?_
  refine rPtrNil rfl ?_
  refine cF rfl ?_
  refine rLenF hx rfl ?_
  have hN := new_keeps ⟨h3, h4, h5, h6, h7⟩
  obtain ⟨S, hS⟩ : ∃ S, S = (⟨s, most, window, keep.map (fun k => (true, k)), [], 0, false⟩ : SupS) := ⟨_, rfl⟩
  rw [← hS] at H hN
  refine LoopP.rule (α := Nat × SupS × Value × List Int × Value) (0, S, .slice none 0 0, [], .slice none 0 0) (fun x_ => [(53, .int .i64 x_.1), (13, x_.2.2.2.2)]) (fun x_ w_ => (x_.1 ≤ xs.length) ∧ (x_.2.2.2.1.length ≤ x_.1) ∧ (SupI x_.2.1) ∧ (Kept x_.2.1 keep) ∧ (x_.2.1.over = false) ∧ (x_.2.1.most = most) ∧ (x_.2.1.window = window) ∧ (∀ c, x_.2.1.last - x_.2.1.window ≤ c → x_.2.1.past.filter (fun n => decide (c ≤ n)) = x_.2.2.2.1.filter (fun n => decide (c ≤ n))) ∧ Sat (froz w) w_ ([Pt p1 (supC x_.2.1 kv1 x_.2.2.1) 104, Sl 35 2 enK kv1 x_.2.1.kids, Sl 3 1 enI x_.2.2.1 x_.2.1.past, Sl 3 1 enI x_.2.2.2.2 x_.2.2.2.1])) (fun x_ => xs.length - x_.1) ?_ ?_ ?_
  · repeat first | exact mt_nil | refine mt_cons rfl ?_ | refine mt_i rfl (by first | omega | (simp only; omega) | (simp; omega) | (simp; done)) ?_
  · try simp only
    refine ⟨?_, ?_⟩
    · omega
    refine ⟨?_, ?_⟩
    · (constructor <;> omega)
    refine ⟨?_, ?_⟩
    · exact hN.1
    refine ⟨?_, ?_⟩
    · exact hN.2
    refine ⟨?_, ?_⟩
    · rw [hS]
    refine ⟨?_, ?_⟩
    · rw [hS]
    refine ⟨?_, ?_⟩
    · rw [hS]
    refine ⟨?_, ?_⟩
    · (subst hS; exact fun _ _ => rfl)
    replace H := H.sl0 (en := enI) (s := 1) (3) (fun _ => rfl)
    replace H := H.sl0 (en := enI) (s := 1) (3) (fun _ => rfl)
    refine H.fronts [1, 1, 3, 3] ?_
    clear H
    intro H
    refine H.cg (cgC rfl (cgC (cgSl ?_) (cgC (cgSl ?_) (cgC rfl (rfl)))))
    · rw [hS]
    rw [hS]
  clear H hN hS S
  rintro ⟨i, S, pv, full, fv⟩ f_ w_ ⟨hi, hfl, hI, hK, ho, hm, hw, hF, H⟩
  try simp only at hi hfl hI hK ho hm hw hF H ⊢
  have hK8 := hI.kids
  have hKl := hK.len
  have hwb := h7.1
  have hwc := h7.2
  refine cI (fun c1 => ?_) (fun c1 => ?_)
  rotate_left
  · replace c1 := vLt_f (c1)
    refine CallP.mk (Fc.imp (Go.Proofs.Ytkkfjhaknbaiaaa.Super.over H) ?_)
    rintro _ _ ⟨rfl, rfl⟩
    refine br_t (not_T ((by assumption))) ?_
    refine CallP.mk (Fc.imp (Go.Proofs.Ytkkfjhaknbaiaaa.Super.kids H ?_) ?_)
    · assumption
    clear H
    rintro v' w2 H
    refine rLenS H 0 rfl rfl ?_
    refine rLenF hkp rfl ?_
    refine Done.mk ?_
    refine ⟨?_, ?_⟩
    · exact congrArg Value.bool (vEq_T (by omega))
    exact H.finish
  replace c1 := vLt_t (c1)
  refine bk ?_
  obtain ⟨x1, hx1⟩ : ∃ x, (xs)[(i)]? = some x := ⟨_, List.getElem?_eq_getElem (by omega)⟩
  obtain ⟨b1, o1, E1, F1, hok1⟩ := FSl.elt hx hx1
  refine rIxE E1 rfl rfl rfl ?_
  refine rLdA (H.fat F1) 0 rfl rfl rfl ?_
  refine rAllocS H rfl ?_
  clear H
  intro p2 w2 H
  clear w_
  refine rStAS H 0 rfl rfl rfl rfl ?_
  clear H
  intro w3 H
  clear w2
  refine rFieldAt rfl ?_
  refine rLd (H.at 0 rfl) 0 rfl rfl rfl ?_
  refine rFieldAt rfl ?_
  refine rLd (H.at 0 rfl) 1 rfl rfl rfl ?_
  refine H.fronts [3, 3, 3] ?_
  clear H
  intro H
  refine CallP.mk (Fc.imp (Go.Proofs.Ytkkfjhaknbaiaaa.Super.down H ?_) ?_)
  · assumption
  clear H
  rintro _ w2 ⟨R1, ⟨h1, ⟨u1, ⟨t1, ⟨pv'1, ⟨rfl, H⟩⟩⟩⟩⟩⟩
  · have hD := down_often (kid := x1.kid) (now := x1.now) hK hI.win hF
    have hE := down_keeps (kid := x1.kid) (now := x1.now) hI hK
    rw [← h1] at hD hE
    obtain ⟨g1, g2, hD⟩ := hD
    rcases hD with ⟨he, hRS⟩ | ⟨he, hov, k, hk, hkl, hnt, hD⟩
    · rw [hRS] at H
      refine cT (vNe_T (by assumption)) ?_
      refine eqI64 (by omega) ?_
      refine Nxt.mk ((i + 1, S, pv'1, full, fv)) (mt_i rfl (by first | omega | (simp only; omega) | (simp; omega)) (mt_cons rfl (mt_nil))) ?_ ?_
      · refine ⟨?_, ?_⟩
        · omega
        refine ⟨?_, ?_⟩
        · (constructor <;> omega)
        refine ⟨?_, ?_⟩
        · assumption
        refine ⟨?_, ?_⟩
        · assumption
        refine ⟨?_, ?_⟩
        · assumption
        refine ⟨?_, ?_⟩
        · assumption
        refine ⟨?_, ?_⟩
        · assumption
        refine ⟨?_, ?_⟩
        · exact hF
        refine H.fronts [6, 3, 3, 3] ?_
        clear H
        intro H
        refine H.firsts 4 ?_
        clear H
        intro H
        exact H
      omega
    obtain ⟨hn1, hn2⟩ := hnt
    obtain ⟨hE1, hE2⟩ := hE
    obtain ⟨xk, xn⟩ := x1
    simp only at hk hn1 hn2 hD H
    subst hk
    rcases hD with ⟨hkf, hR, hF2⟩ | ⟨hkt, hR, hF2⟩
    · rw [hR] at hov
      refine cF (vNe_F (by assumption)) ?_
      refine rFieldAt rfl ?_
      refine rLd (H.at 5 rfl) 0 rfl rfl rfl ?_
      refine br_f (vLt_F (by omega)) ?_
      refine rFieldAt rfl ?_
      refine rLd (H.at 5 rfl) 0 rfl rfl rfl ?_
      refine rLenF hkp rfl ?_
      refine br_f (vLe_F (by omega)) ?_
      refine rFieldAt rfl ?_
      refine rLd (H.at 5 rfl) 1 rfl rfl rfl ?_
      refine br_f (vLt_F (by assumption)) ?_
      refine rFieldAt rfl ?_
      refine rLd (H.at 5 rfl) 1 rfl rfl rfl ?_
      refine cF (vLt_F (by assumption)) ?_
      refine rFieldAt rfl ?_
      refine rLd (H.at 5 rfl) 0 rfl rfl rfl ?_
      obtain ⟨b2, o2, E2, F2, hok2⟩ := FSl.elt hkp hkf
      refine rIxE E2 rfl rfl rfl ?_
      refine rLd (H.fat F2) 0 rfl rfl rfl ?_
      refine cF rfl ?_
      refine rBoolNe rfl ?_
      refine br (fun c2 => ?_) (fun c2 => ?_)
      · replace c2 := not_t (c2)
        refine rFieldAt rfl ?_
        refine rLd (H.at 5 rfl) 0 rfl rfl rfl ?_
        refine rIxE E2 rfl rfl rfl ?_
        refine rLd (H.fat F2) 0 rfl rfl rfl ?_
        refine br_f ((by assumption)) ?_
        refine cF rfl ?_
        refine cF ((by assumption)) ?_
        refine eqI64 (by omega) ?_
        refine Nxt.mk ((i + 1, R1.1, pv'1, full, fv)) (mt_i rfl (by first | omega | (simp only; omega) | (simp; omega)) (mt_cons rfl (mt_nil))) ?_ ?_
        · refine ⟨?_, ?_⟩
          · omega
          refine ⟨?_, ?_⟩
          · (constructor <;> omega)
          refine ⟨?_, ?_⟩
          · assumption
          refine ⟨?_, ?_⟩
          · assumption
          refine ⟨?_, ?_⟩
          · assumption
          refine ⟨?_, ?_⟩
          · (simp only [List.length_append, List.length_set, List.length_cons, List.length_nil]; omega)
          refine ⟨?_, ?_⟩
          · (simp only [List.length_append, List.length_set, List.length_cons, List.length_nil]; omega)
          refine ⟨?_, ?_⟩
          · exact hF2
          refine H.fronts [6, 3, 3, 3] ?_
          clear H
          intro H
          refine H.firsts 4 ?_
          clear H
          intro H
          exact H
        omega
      replace c2 := not_f (c2)
      refine br_f ((by assumption)) ?_
      refine cF rfl ?_
      refine cF ((by assumption)) ?_
      refine eqI64 (by omega) ?_
      refine Nxt.mk ((i + 1, R1.1, pv'1, full, fv)) (mt_i rfl (by first | omega | (simp only; omega) | (simp; omega)) (mt_cons rfl (mt_nil))) ?_ ?_
      · refine ⟨?_, ?_⟩
        · omega
        refine ⟨?_, ?_⟩
        · (constructor <;> omega)
        refine ⟨?_, ?_⟩
        · assumption
        refine ⟨?_, ?_⟩
        · assumption
        refine ⟨?_, ?_⟩
        · assumption
        refine ⟨?_, ?_⟩
        · (simp only [List.length_append, List.length_set, List.length_cons, List.length_nil]; omega)
        refine ⟨?_, ?_⟩
        · (simp only [List.length_append, List.length_set, List.length_cons, List.length_nil]; omega)
        refine ⟨?_, ?_⟩
        · exact hF2
        refine H.fronts [6, 3, 3, 3] ?_
        clear H
        intro H
        refine H.firsts 4 ?_
        clear H
        intro H
        exact H
      omega
    · refine cF (vNe_F (by assumption)) ?_
      refine rFieldAt rfl ?_
      refine rLd (H.at 5 rfl) 0 rfl rfl rfl ?_
      refine br_f (vLt_F (by omega)) ?_
      refine rFieldAt rfl ?_
      refine rLd (H.at 5 rfl) 0 rfl rfl rfl ?_
      refine rLenF hkp rfl ?_
      refine br_f (vLe_F (by omega)) ?_
      refine rFieldAt rfl ?_
      refine rLd (H.at 5 rfl) 1 rfl rfl rfl ?_
      refine br_f (vLt_F (by assumption)) ?_
      refine rFieldAt rfl ?_
      refine rLd (H.at 5 rfl) 1 rfl rfl rfl ?_
      refine cF (vLt_F (by assumption)) ?_
      refine rFieldAt rfl ?_
      refine rLd (H.at 5 rfl) 0 rfl rfl rfl ?_
      obtain ⟨b2, o2, E2, F2, hok2⟩ := FSl.elt hkp hkt
      refine rIxE E2 rfl rfl rfl ?_
      refine rLd (H.fat F2) 0 rfl rfl rfl ?_
      refine cT rfl ?_
      refine rFieldAt rfl ?_
      refine rLd (H.at 5 rfl) 1 rfl rfl rfl ?_
      refine rBuildSliceS H rfl rfl rfl rfl ?_
      clear H
      intro p3 w4 H
      clear w2
      refine rApS (ys := [_]) 8 H 7 rfl (H.at 0 rfl) rfl (fun y _ => rfl) rfl rfl rfl (by omega) (by omega) ?_
      intro v2
      clear H
      intro w2 H
      clear w4
      refine rLenS H 7 rfl rfl ?_
      refine LoopP.rule (α := Nat × Nat) (0, 0) (fun x_ => [(102, .int .i64 x_.1), (20, .int .i64 x_.2)]) (fun x_ w_ => (x_.1 ≤ (full ++ [xn]).length) ∧ (x_.2 = (((full ++ [xn]).take x_.1).filter (fun n => decide (xn - S.window ≤ n))).length) ∧ Sat (froz w) w_ ([Sl 3 1 enI v2 (full ++ [xn]), Pt p1 (supC R1.S kv1 pv'1) 104, Sl 35 2 enK kv1 R1.S.kids, Sl 3 1 enI pv'1 R1.S.past, Pt p2 [.int .i64 k, .int .i64 xn] 79])) (fun x_ => (full ++ [xn]).length - x_.1) ?_ ?_ ?_
      · repeat first | exact mt_nil | refine mt_cons rfl ?_ | refine mt_i rfl (by first | omega | (simp only; omega) | (simp; omega) | (simp; done)) ?_
      · try simp only
        refine ⟨?_, ?_⟩
        · omega
        refine ⟨?_, ?_⟩
        · rfl
        refine H.fronts [6, 4, 4, 4, 7] ?_
        clear H
        intro H
        refine H.firsts 5 ?_
        clear H
        intro H
        exact H
      clear H
      rintro ⟨j, cnt⟩ f_ w_ ⟨hj, hc, H⟩
      try simp only at hj hc H ⊢
      have hfx : (full ++ [xn]).length = full.length + 1 := by simp
      have hcl : cnt ≤ j := by rw [hc]; exact Nat.le_trans (List.length_filter_le ..) (List.length_take_le ..)
      rcases Nat.lt_or_ge j (full ++ [xn]).length with hlt | hge
      · obtain ⟨y, hy1⟩ : ∃ y, (full ++ [xn])[j]? = some y := ⟨_, List.getElem?_eq_getElem hlt⟩
        refine cT (vLt_T (by omega)) ?_
        refine bk ?_
        obtain ⟨b3, o3, E3⟩ := H.elt 0 rfl (j) (by omega)
        refine rIxE E3 rfl rfl rfl ?_
        refine rLd (H.el 0 rfl E3 hy1) 0 rfl rfl rfl ?_
        refine rFieldAt rfl ?_
        refine rLd (H.at 4 rfl) 1 rfl rfl rfl ?_
        refine eqI64 (by omega) ?_
        refine cI (fun c2 => ?_) (fun c2 => ?_)
        · replace c2 := vLe_t (c2)
          refine eqI64 (by omega) ?_
          refine eqI64 (by omega) ?_
          refine Nxt.mk ((j + 1, cnt + 1)) (mt_i rfl (by first | omega | (simp only; omega) | (simp; omega)) (mt_i rfl (by first | omega | (simp only; omega) | (simp; omega)) (mt_nil))) ?_ ?_
          · refine ⟨?_, ?_⟩
            · assumption
            refine ⟨?_, ?_⟩
            · (rw [take_succ' hy1, List.filter_append, List.length_append, ← hc, List.filter_cons_of_pos (by simp; omega)]; rfl)
            exact H
          omega
        replace c2 := vLe_f (c2)
        refine eqI64 (by omega) ?_
        refine Nxt.mk ((j + 1, cnt)) (mt_i rfl (by first | omega | (simp only; omega) | (simp; omega)) (mt_cons rfl (mt_nil))) ?_ ?_
        · refine ⟨?_, ?_⟩
          · assumption
          refine ⟨?_, ?_⟩
          · (rw [take_succ' hy1, List.filter_append, List.length_append, ← hc, List.filter_cons_of_neg (by simp; omega)]; rfl)
          exact H
        omega
      · have hje : cnt = ((full ++ [xn]).filter (fun n => decide (xn - S.window ≤ n))).length := by
          rw [hc, show j = (full ++ [xn]).length by omega, List.take_length]
        rw [← hje] at hR
        cases hro : R1.over
        · have hm : ¬ S.most < cnt := fun h => by
            have := hR.2 h
            rw [hro] at this; cases this
          refine cF (vLt_F (by omega)) ?_
          refine rBoolNe rfl ?_
          refine br_f (not_F (fb_T (vLt_F (by omega)))) ?_
          refine cF rfl ?_
          refine cF rfl ?_
          refine eqI64 (by omega) ?_
          refine Nxt.mk ((i + 1, R1.1, pv'1, full ++ [xn], v2)) (mt_i rfl (by first | omega | (simp only; omega) | (simp; omega)) (mt_cons rfl (mt_nil))) ?_ ?_
          · refine ⟨?_, ?_⟩
            · omega
            refine ⟨?_, ?_⟩
            · (simp only [List.length_append, List.length_set, List.length_cons, List.length_nil]; omega)
            refine ⟨?_, ?_⟩
            · assumption
            refine ⟨?_, ?_⟩
            · assumption
            refine ⟨?_, ?_⟩
            · exact hov.trans hro
            refine ⟨?_, ?_⟩
            · (simp only [List.length_append, List.length_set, List.length_cons, List.length_nil]; omega)
            refine ⟨?_, ?_⟩
            · (simp only [List.length_append, List.length_set, List.length_cons, List.length_nil]; omega)
            refine ⟨?_, ?_⟩
            · exact hF2
            refine H.fronts [0, 3, 3, 3] ?_
            clear H
            intro H
            refine H.firsts 4 ?_
            clear H
            intro H
            exact H
          omega
        · have hm : S.most < cnt := hR.1 hro
          refine cF (vLt_F (by omega)) ?_
          refine rBoolNe rfl ?_
          refine br_f (not_F (tb_T (vLt_T (by omega)))) ?_
          refine rFieldAt rfl ?_
          refine rLd (H.at 4 rfl) 0 rfl rfl rfl ?_
          refine rIxE E2 rfl rfl rfl ?_
          refine rLd (H.fat F2) 0 rfl rfl rfl ?_
          refine cF rfl ?_
          refine cT rfl ?_
          refine rFieldAt rfl ?_
          refine rLd (H.at 4 rfl) 0 rfl rfl rfl ?_
          refine rFieldAt rfl ?_
          refine rLd (H.at 4 rfl) 1 rfl rfl rfl ?_
          refine H.fronts [3, 3, 3] ?_
          clear H
          intro H
          refine CallP.mk (Fc.imp (Go.Proofs.Ytkkfjhaknbaiaaa.Super.down H ?_) ?_)
          · assumption
          clear H
          rintro _ w4 ⟨R2, ⟨h2, ⟨u2, ⟨t2, ⟨pv'2, ⟨rfl, H⟩⟩⟩⟩⟩⟩
          have he2 : R2.e = 15 := by (rw [h2]; unfold downS; rw [if_pos (hov.trans hro)])
          have hS2 : R2.S.over = true := by (rw [h2]; unfold downS; rw [if_pos (hov.trans hro)]; exact hov.trans hro)
          refine br_t (vEq_T (by assumption)) ?_
          refine CallP.mk (Fc.imp (Go.Proofs.Ytkkfjhaknbaiaaa.Super.over H) ?_)
          rintro _ _ ⟨rfl, rfl⟩
          refine Done.mk ?_
          refine ⟨?_, ?_⟩
          · (rw [hS2]; done)
          exact H.finish
end Go.Proofs.Ytkkfjhaknbaiaaa.Super
