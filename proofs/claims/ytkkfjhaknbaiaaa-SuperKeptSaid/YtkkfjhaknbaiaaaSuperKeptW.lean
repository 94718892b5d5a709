/- The law SuperKept. -/
import Derived.Test.YtkkfjhaknbaiaaaSuper4
set_option maxRecDepth 100000
set_option linter.unusedVariables false
set_option linter.unusedSimpArgs false
namespace Go.Proofs.Ytkkfjhaknbaiaaa.Super
open Go Go.Proofs.Ytkkfjhaknbaiaaa.Eng Go.RowKit
theorem superKept (w : World) (s : Int) (v1 : Value) (keep : List Bool) (most window : Int) (v4 : Value) (xs : List DS) (_ : I64 s) (hkp : Rd enB okB 1 w v1 keep) (_ : I64 most) (_ : I64 window) (hx : Rd enD okD 2 w v4 xs) (hy : xs.length * 16 ≤ 140737488351232) :
    Fc Try.prog 11 #[.int .i64 s, v1, .int .i64 most, .int .i64 window, v4] w (fun v w' => v = .bool true ∧ Below w.heap.size w w') := by
  refine Fc.of Try.func11 rfl (by kernel_rfl) ?_
  have H := Sat.start w
  have hkp := hkp.fz
  have hx := hx.fz
  refine CallP.mk (Fc.imp (Go.Proofs.Ytkkfjhaknbaiaaa.Super.new _ _ _ _ _ _ (H.rd hkp)) ?_)
  rintro _ w1 (⟨h1, ⟨rfl, H'⟩⟩ | (⟨h2, ⟨rfl, H'⟩⟩ | ⟨⟨h3, ⟨h4, ⟨h5, ⟨h6, h7⟩⟩⟩⟩, ⟨p1, ⟨kv1, ⟨rfl, H'⟩⟩⟩⟩))
  · refine H.mergeK H' ?_
    clear H H'
    intro H
    refine br_t (vNe_T (by omega)) ?_
    refine cT rfl ?_
    refine rPtrNil rfl ?_
    refine br_f (vEq_F (by omega)) ?_
    refine Done.mk ?_
    refine ⟨?_, ?_⟩
    · (simp [vEq_iff, vNe_iff, vLt_iff, vLe_iff]; done)
    exact H.finish
  · refine H.mergeK H' ?_
    clear H H'
    intro H
    refine br_t (vNe_T (by omega)) ?_
    refine cT rfl ?_
    refine rPtrNil rfl ?_
    refine br_t (vEq_T (by omega)) ?_
    refine Done.mk ?_
    exact ⟨rfl, H.finish⟩
  refine H.mergeK H' ?_
  clear H H'
  intro H
  refine br_f (vNe_F (by omega)) ?_
  refine rPtrNil rfl ?_
  refine cF rfl ?_
  refine CallP.mk (Fc.imp (Go.Proofs.Ytkkfjhaknbaiaaa.Super.kids H ?_) ?_)
  · (simp; omega)
  clear H
  rintro v' w2 H
  refine rLenS H 0 rfl rfl ?_
  refine rLenF hkp rfl ?_
  refine cI (fun c1 => ?_) (fun c1 => ?_)
  · replace c1 := vNe_t (c1)
    refine Done.mk ?_
    (exfalso; simp at c1; done)
  replace c1 := vNe_f (c1)
  refine rLenF hx rfl ?_
  have hN := new_keeps ⟨h3, h4, h5, h6, h7⟩
  obtain ⟨S, hS⟩ : ∃ S, S = (⟨s, most, window, keep.map (fun k => (true, k)), [], 0, false⟩ : SupS) := ⟨_, rfl⟩
  rw [← hS] at H hN
  refine LoopP.rule (α := Nat × SupS × Value) (0, S, .slice none 0 0) (fun x_ => [(50, .int .i64 x_.1)]) (fun x_ w_ => (x_.1 ≤ xs.length) ∧ (SupI x_.2.1) ∧ (Kept x_.2.1 keep) ∧ Sat (froz w) w_ ([Pt p1 (supC x_.2.1 kv1 x_.2.2) 104, Sl 35 2 enK kv1 x_.2.1.kids, Sl 3 1 enI x_.2.2 x_.2.1.past])) (fun x_ => xs.length - x_.1) ?_ ?_ ?_
  · repeat first | exact mt_nil | refine mt_cons rfl ?_ | refine mt_i rfl (by first | omega | (simp only; omega) | (simp; omega) | (simp; done)) ?_
  · try simp only
    refine ⟨?_, ?_⟩
    · omega
    refine ⟨?_, ?_⟩
    · exact hN.1
    refine ⟨?_, ?_⟩
    · exact hN.2
    replace H := H.sl0 (en := enI) (s := 1) (3) (fun _ => rfl)
    refine H.fronts [0, 3, 3] ?_
    clear H
    intro H
    refine H.firsts 3 ?_
    clear H
    intro H
    refine H.cg (cgC rfl (cgC rfl (cgC (cgSl ?_) (rfl))))
    rw [hS]
  clear H hN hS S
  rintro ⟨i, S, pv⟩ f_ w_ ⟨hi, hI, hK, H⟩
  try simp only at hi hI hK H ⊢
  refine cI (fun c2 => ?_) (fun c2 => ?_)
  rotate_left
  · replace c2 := vLt_f (c2)
    refine Done.mk ?_
    exact ⟨rfl, H.finish⟩
  replace c2 := vLt_t (c2)
  refine bk ?_
  obtain ⟨x1, hx1⟩ : ∃ x, (xs)[(i)]? = some x := ⟨_, List.getElem?_eq_getElem (by omega)⟩
  obtain ⟨b1, o1, E1, F1, hok1⟩ := FSl.elt hx hx1
  refine rIxE E1 rfl rfl rfl ?_
  refine rLdA (H.fat F1) 0 rfl rfl rfl ?_
  refine rAllocS H rfl ?_
  clear H
  intro p2 w3 H
  clear w_
  refine rStAS H 0 rfl rfl rfl rfl ?_
  clear H
  intro w4 H
  clear w3
  refine rFieldAt rfl ?_
  refine rLd (H.at 0 rfl) 0 rfl rfl rfl ?_
  refine rFieldAt rfl ?_
  refine rLd (H.at 0 rfl) 1 rfl rfl rfl ?_
  refine H.fronts [3, 3, 3] ?_
  clear H
  intro H
  refine CallP.mk (Fc.imp (Go.Proofs.Ytkkfjhaknbaiaaa.Super.down H ?_) ?_)
  · assumption
  clear H
  rintro _ w3 ⟨R1, ⟨h1, ⟨u1, ⟨t1, ⟨pv'1, ⟨rfl, H⟩⟩⟩⟩⟩⟩
  refine CallP.mk (Fc.imp (Go.Proofs.Ytkkfjhaknbaiaaa.Super.kids H ?_) ?_)
  · (rw [h1]; exact (down_keeps hI hK).1.kids)
  clear H
  rintro v' w5 H
  refine rLenS H 0 rfl rfl ?_
  refine rLenF hkp rfl ?_
  refine cI (fun c3 => ?_) (fun c3 => ?_)
  · replace c3 := vNe_t (c3)
    refine Done.mk ?_
    (exfalso; have := (h1 ▸ (down_keeps hI hK).2.len : R1.S.kids.length = keep.length); omega)
  replace c3 := vNe_f (c3)
  refine rLenS H 0 rfl rfl ?_
  have hD := down_keeps (kid := x1.kid) (now := x1.now) hI hK
  rw [← h1] at hD
  obtain ⟨S', hS'⟩ : ∃ S', S' = R1.S := ⟨_, rfl⟩
  rw [← hS'] at hD H ⊢
  refine LoopP.rule (α := Nat) (0) (fun x_ => [(69, .int .i64 x_)]) (fun x_ w_ => (x_ ≤ S'.kids.length) ∧ Sat (froz w) w_ ([Sl 35 2 enK v' S'.kids, Pt p1 (supC S' kv1 pv'1) 104, Sl 35 2 enK kv1 S'.kids, Sl 3 1 enI pv'1 S'.past])) (fun x_ => S'.kids.length - x_) ?_ ?_ ?_
  · repeat first | exact mt_nil | refine mt_cons rfl ?_ | refine mt_i rfl (by first | omega | (simp only; omega) | (simp; omega) | (simp; done)) ?_
  · try simp only
    refine ⟨?_, ?_⟩
    · omega
    refine H.firsts 4 ?_
    clear H
    intro H
    exact H
  clear H
  rintro j f_ w_ ⟨hj, H⟩
  try simp only at hj H ⊢
  have hK8 := hD.1.kids
  have hKl := hD.2.len
  refine cI (fun c4 => ?_) (fun c4 => ?_)
  · replace c4 := vLt_t (c4)
    refine bk ?_
    obtain ⟨x2, hx2⟩ : ∃ x, (S'.kids)[(j)]? = some x := ⟨_, List.getElem?_eq_getElem (by omega)⟩
    obtain ⟨b2, o2, E2⟩ := H.elt 0 rfl (j) (by omega)
    refine rIxE E2 rfl rfl rfl ?_
    refine rLdA (H.el 0 rfl E2 hx2) 0 rfl rfl rfl ?_
    refine rAllocS H rfl ?_
    clear H
    intro p3 w6 H
    clear w_
    refine rStAS H 0 rfl rfl rfl rfl ?_
    clear H
    intro w7 H
    clear w6
    refine drawzS H [2] [(0, .pure), (1, .held), (2, .pure), (3, .pure), (4, .pure), (5, .held), (6, .pure), (7, .pure), (8, .pure), (9, .forced), (10, .pure), (11, .pure), (12, .held), (13, .pure), (14, .pure), (15, .pure), (16, .pure), (17, .forced), (18, .pure), (19, .pure), (20, .pure), (21, .held), (22, .pure), (23, .pure), (24, .pure), (25, .held), (26, .pure), (27, .pure), (28, .pure)] mixed (by kernel_rfl) (by kernel_rfl) ?_
    clear H
    intro w6 H
    clear w7
    refine tk (fun wx HS => rFieldAt rfl ⟨rfl, rfl⟩) ?_
    refine tk (fun wx HS => rLd (HS.at 0 rfl) 1 rfl rfl rfl ⟨rfl, rfl⟩) ?_
    obtain ⟨x3, hx3⟩ : ∃ x, (keep)[(j)]? = some x := ⟨_, List.getElem?_eq_getElem (by omega)⟩
    obtain ⟨b3, o3, E3, F2, hok2⟩ := FSl.elt hkp hx3
    refine tk (fun wx HS => rIxE E3 rfl rfl rfl ⟨rfl, rfl⟩) ?_
    refine tk (fun wx HS => rLd (HS.fat F2) 0 rfl rfl rfl ⟨rfl, rfl⟩) ?_
    refine tk (fun wx HS => rBoolNe rfl ⟨rfl, rfl⟩) ?_
    refine br (fun c5 => ?_) (fun c5 => ?_)
    · replace c5 := not_t (c5)
      refine cT rfl ?_
      refine Done.mk ?_
      (exfalso; have e := hD.2.kp j; rw [hx2, hx3] at e; simp at e; simp [e] at c5; done)
    replace c5 := not_f (c5)
    refine H.fronts [2] ?_
    clear H
    intro H
    refine CallP.mk (Fc.imp (Go.Proofs.Ytkkfjhaknbaiaaa.Super.over H) ?_)
    rintro _ _ ⟨rfl, rfl⟩
    refine KeepP.mk (H.drop 0 (fun H => H)) ?_
    refine br (fun c6 => ?_) (fun c6 => ?_)
    · refine tk (fun wx HS => rFieldAt rfl ⟨rfl, rfl⟩) ?_
      refine tk (fun wx HS => rLd (HS.at 0 rfl) 0 rfl rfl rfl ⟨rfl, rfl⟩) ?_
      refine br (fun c7 => ?_) (fun c7 => ?_)
      · refine cT rfl ?_
        refine Done.mk ?_
        (exfalso; have e := hD.2.ov j x2 hx2 (by assumption); rw [e] at c7; cases c7; done)
      refine CallP.mk (Fc.imp (Go.Proofs.Ytkkfjhaknbaiaaa.Super.over H) ?_)
      rintro _ _ ⟨rfl, rfl⟩
      refine KeepP.mk (H.drop 0 (fun H => H)) ?_
      refine br_f (not_F ((by assumption))) ?_
      refine cF rfl ?_
      refine eqI64 (by omega) ?_
      refine Nxt.mk (j + 1) (mt_i rfl (by first | omega | (simp only; omega) | (simp; omega)) (mt_nil)) ?_ ?_
      · refine ⟨?_, ?_⟩
        · omega
        refine H.fronts [4, 4, 2, 4] ?_
        clear H
        intro H
        refine H.firsts 4 ?_
        clear H
        intro H
        exact H
      omega
    refine CallP.mk (Fc.imp (Go.Proofs.Ytkkfjhaknbaiaaa.Super.over H) ?_)
    rintro _ _ ⟨rfl, rfl⟩
    refine KeepP.mk (H.drop 0 (fun H => H)) ?_
    refine br_t (not_T ((by assumption))) ?_
    refine tk (fun wx HS => rFieldAt rfl ⟨rfl, rfl⟩) ?_
    refine tk (fun wx HS => rLd (HS.at 0 rfl) 1 rfl rfl rfl ⟨rfl, rfl⟩) ?_
    refine br (fun c7 => ?_) (fun c7 => ?_)
    · refine tk (fun wx HS => rFieldAt rfl ⟨rfl, rfl⟩) ?_
      refine tk (fun wx HS => rLd (HS.at 0 rfl) 0 rfl rfl rfl ⟨rfl, rfl⟩) ?_
      refine cI (fun c8 => ?_) (fun c8 => ?_)
      · replace c8 := not_t (c8)
        refine Done.mk ?_
        (exfalso; have e := hD.2.rn j x2 hx2 (by assumption) (by assumption); rw [e] at c8; cases c8; done)
      replace c8 := not_f (c8)
      refine eqI64 (by omega) ?_
      refine Nxt.mk (j + 1) (mt_i rfl (by first | omega | (simp only; omega) | (simp; omega)) (mt_nil)) ?_ ?_
      · refine ⟨?_, ?_⟩
        · omega
        refine H.fronts [4, 4, 2, 4] ?_
        clear H
        intro H
        refine H.firsts 4 ?_
        clear H
        intro H
        exact H
      omega
    refine cF rfl ?_
    refine eqI64 (by omega) ?_
    refine Nxt.mk (j + 1) (mt_i rfl (by first | omega | (simp only; omega) | (simp; omega)) (mt_nil)) ?_ ?_
    · refine ⟨?_, ?_⟩
      · omega
      refine H.fronts [4, 4, 2, 4] ?_
      clear H
      intro H
      refine H.firsts 4 ?_
      clear H
      intro H
      exact H
    omega
  replace c4 := vLt_f (c4)
  refine eqI64 (by omega) ?_
  refine Nxt.mk ((i + 1, S', pv'1)) (mt_i rfl (by first | omega | (simp only; omega) | (simp; omega)) (mt_nil)) ?_ ?_
  · refine ⟨?_, ?_⟩
    · omega
    refine ⟨?_, ?_⟩
    · exact hD.1
    refine ⟨?_, ?_⟩
    · exact hD.2
    refine H.fronts [3, 3, 3] ?_
    clear H
    intro H
    refine H.firsts 3 ?_
    clear H
    intro H
    exact H
  omega
end Go.Proofs.Ytkkfjhaknbaiaaa.Super
