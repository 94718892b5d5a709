/- The law SuperOrder. -/
import Derived.Test.YtkkfjhaknbaiaaaSuper6
set_option maxRecDepth 100000
set_option maxHeartbeats 4000000
set_option linter.unusedVariables false
set_option linter.unusedSimpArgs false
namespace Go.Proofs.Ytkkfjhaknbaiaaa.Super
open Go Go.Proofs.Ytkkfjhaknbaiaaa.Eng Go.RowKit
theorem superOrder (w : World) (s : Int) (v1 : Value) (keep : List Bool) (most window : Int) (v4 : Value) (xs : List DS) (_ : I64 s) (hkp : Rd enB okB 1 w v1 keep) (_ : I64 most) (_ : I64 window) (hx : Rd enD okD 2 w v4 xs) (hy : xs.length * 16 ≤ 140737488351232) :
    Fc Try.prog 12 #[.int .i64 s, v1, .int .i64 most, .int .i64 window, v4] w (fun v w' => v = .bool true ∧ Below w.heap.size w w') := by
  refine Fc.of Try.func12 rfl (by kernel_rfl) ?_
  have H := Sat.start w
  have hkp := hkp.fz
  have hx := hx.fz
  refine CallP.mk (Fc.imp (Go.Proofs.Ytkkfjhaknbaiaaa.Super.new _ _ _ _ _ _ (H.rd hkp)) ?_)
  rintro _ w1 (⟨h1, ⟨rfl, H'⟩⟩ | (⟨h2, ⟨rfl, H'⟩⟩ | ⟨⟨h3, ⟨h4, ⟨h5, ⟨h6, h7⟩⟩⟩⟩, ⟨p1, ⟨kv1, ⟨rfl, H'⟩⟩⟩⟩))
  · refine H.mergeK H' ?_
    clear H H'
    intro H
    refine br_t (vNe_T (by omega)) ?_
    refine cT rfl ?_
    refine rPtrNil rfl ?_
    refine br_f (vEq_F (by omega)) ?_
    refine Done.mk ?_
    refine ⟨?_, ?_⟩
    · exact congrArg Value.bool (vEq_T (by omega))
    exact H.finish
  · refine H.mergeK H' ?_
    clear H H'
    intro H
    refine br_t (vNe_T (by omega)) ?_
    refine cT rfl ?_
    refine rPtrNil rfl ?_
    refine br_t (vEq_T (by omega)) ?_
    refine Done.mk ?_
    exact ⟨rfl, H.finish⟩
  refine H.mergeK H' ?_
  clear H H'
  intro H
  refine br_f (vNe_F (by omega)) ?_
  refine rPtrNil rfl ?_
  refine cF rfl ?_
  refine rLenF hx rfl ?_
  have hN := new_keeps ⟨h3, h4, h5, h6, h7⟩
  obtain ⟨S, hS⟩ : ∃ S, S = (⟨s, most, window, keep.map (fun k => (true, k)), [], 0, false⟩ : SupS) := ⟨_, rfl⟩
  rw [← hS] at H hN
  refine LoopP.rule (α := Nat × SupS × Value) (0, S, .slice none 0 0) (fun x_ => [(50, .int .i64 x_.1)]) (fun x_ w_ => (x_.1 ≤ xs.length) ∧ (SupI x_.2.1) ∧ (Kept x_.2.1 keep) ∧ Sat (froz w) w_ ([Pt p1 (supC x_.2.1 kv1 x_.2.2) 104, Sl 35 2 enK kv1 x_.2.1.kids, Sl 3 1 enI x_.2.2 x_.2.1.past])) (fun x_ => xs.length - x_.1) ?_ ?_ ?_
  · repeat first | exact mt_nil | refine mt_cons rfl ?_ | refine mt_i rfl (by first | omega | (simp only; omega) | (simp; omega) | (simp; done)) ?_
  · try simp only
    refine ⟨?_, ?_⟩
    · omega
    refine ⟨?_, ?_⟩
    · exact hN.1
    refine ⟨?_, ?_⟩
    · exact hN.2
    replace H := H.sl0 (en := enI) (s := 1) (3) (fun _ => rfl)
    refine H.fronts [0, 2, 2] ?_
    clear H
    intro H
    refine H.cg (cgC rfl (cgC (cgSl ?_) (cgC (cgSl ?_) (rfl))))
    · rw [hS]
    rw [hS]
  clear H hN hS S
  rintro ⟨i, S, pv⟩ f_ w_ ⟨hi, hI, hK, H⟩
  try simp only at hi hI hK H ⊢
  have hK8 := hI.kids
  have hKl := hK.len
  refine cI (fun c1 => ?_) (fun c1 => ?_)
  rotate_left
  · replace c1 := vLt_f (c1)
    refine CallP.mk (Fc.imp (Go.Proofs.Ytkkfjhaknbaiaaa.Super.kids H ?_) ?_)
    · assumption
    clear H
    rintro v' w2 H
    refine rLenS H 0 rfl rfl ?_
    refine rLenF hkp rfl ?_
    refine Done.mk ?_
    refine ⟨?_, ?_⟩
    · exact congrArg Value.bool (vEq_T (by omega))
    exact H.finish
  replace c1 := vLt_t (c1)
  refine bk ?_
  obtain ⟨x1, hx1⟩ : ∃ x, (xs)[(i)]? = some x := ⟨_, List.getElem?_eq_getElem (by omega)⟩
  obtain ⟨b1, o1, E1, F1, hok1⟩ := FSl.elt hx hx1
  refine rIxE E1 rfl rfl rfl ?_
  refine rLdA (H.fat F1) 0 rfl rfl rfl ?_
  refine rAllocS H rfl ?_
  clear H
  intro p2 w2 H
  clear w_
  refine rStAS H 0 rfl rfl rfl rfl ?_
  clear H
  intro w3 H
  clear w2
  refine H.fronts [2, 2] ?_
  clear H
  intro H
  refine CallP.mk (Fc.imp (Go.Proofs.Ytkkfjhaknbaiaaa.Super.kids H ?_) ?_)
  · assumption
  clear H
  rintro v' w2 H
  refine rFieldAt rfl ?_
  refine rLd (H.at 3 rfl) 0 rfl rfl rfl ?_
  refine rFieldAt rfl ?_
  refine rLd (H.at 3 rfl) 1 rfl rfl rfl ?_
  refine H.fronts [4, 3, 3] ?_
  clear H
  intro H
  refine CallP.mk (Fc.imp (Go.Proofs.Ytkkfjhaknbaiaaa.Super.down H ?_) ?_)
  · assumption
  clear H
  rintro _ w4 ⟨R1, ⟨h1, ⟨u1, ⟨t1, ⟨pv'1, ⟨rfl, H⟩⟩⟩⟩⟩⟩
  have hD := down_ord S x1.kid x1.now
  have hE := down_keeps (kid := x1.kid) (now := x1.now) hI hK
  rw [← h1] at hD hE
  have hs3 := hD.s3
  have ht3 := hD.t3
  refine rLenS H 5 rfl rfl ?_
  refine rLenF hkp rfl ?_
  refine br_f (vNe_F (by omega)) ?_
  refine br (fun c2 => ?_) (fun c2 => ?_)
  focus
    replace c2 := vNe_t (c2)
    refine rLenS H 3 rfl rfl ?_
    refine rLenS H 4 rfl rfl ?_
    refine eqI64 (by omega) ?_
    refine br (fun c3 => ?_) (fun c3 => ?_)
    · replace c3 := vLt_t (c3)
      refine cT rfl ?_
      refine Done.mk ?_
      (exfalso; have hq := hD.no (by assumption); rw [hq.1, hq.2] at c3; simp at c3; done)
    replace c3 := vLt_f (c3)
    refine br_f (vEq_F (by assumption)) ?_
    refine rBoolNe rfl ?_
    refine cI (fun c4 => ?_) (fun c4 => ?_)
    · replace c4 := not_t (c4)
      refine Done.mk ?_
      (exfalso; cases h : R1.over <;> rw [h] at c4 <;> first | (cases c4; done) | exact absurd (hD.ov.1 h).1 c2)
    replace c4 := not_f (c4)
    refine rLenS H 3 rfl rfl ?_
  rotate_left 1
  focus
    replace c2 := vNe_f (c2)
    refine br_t (vEq_T (by assumption)) ?_
    refine CallP.mk (Fc.imp (Go.Proofs.Ytkkfjhaknbaiaaa.Super.over H) ?_)
    rintro _ _ ⟨rfl, rfl⟩
    refine rBoolNe rfl ?_
    refine cI (fun c3 => ?_) (fun c3 => ?_)
    · replace c3 := not_t (c3)
      refine Done.mk ?_
      (exfalso; cases h : R1.over <;> cases h2 : R1.S.over <;> rw [h, h2] at c3 <;> first | (cases c3; done) | (have := hD.ov.1 h; rw [h2] at this; cases this.2; done) | (have := hD.ov.2 ⟨c2, h2⟩; rw [h] at this; cases this; done))
    replace c3 := not_f (c3)
    refine rLenS H 3 rfl rfl ?_
  rotate_left 1
  · refine LoopP.rule (α := Nat) (0) (fun x_ => [(96, .int .i64 x_)]) (fun x_ w_ => (x_ ≤ R1.stop.length) ∧ Sat (froz w) w_ ([Pt p1 (supC R1.S kv1 pv'1) 104, Sl 35 2 enK kv1 R1.S.kids, Sl 3 1 enI pv'1 R1.S.past, Sl 3 1 enI u1 R1.stop, Sl 3 1 enI t1 R1.start, Sl 35 2 enK v' S.kids, Pt p2 [.int .i64 x1.kid, .int .i64 x1.now] 79])) (fun x_ => R1.stop.length - x_) ?_ ?_ ?_
    · repeat first | exact mt_nil | refine mt_cons rfl ?_ | refine mt_i rfl (by first | omega | (simp only; omega) | (simp; omega) | (simp; done)) ?_
    · try simp only
      refine ⟨?_, ?_⟩
      · omega
      exact H
    clear H
    rintro j f_ w_ ⟨hj, H⟩
    try simp only at hj H ⊢
    rcases Nat.lt_or_ge j R1.stop.length with hlt | hge
    · obtain ⟨x, hx⟩ : ∃ x, R1.stop[j]? = some x := ⟨_, List.getElem?_eq_getElem hlt⟩
      obtain ⟨m, rfl, hm1, hm2, hm3⟩ := hD.s1 x (List.mem_of_getElem? hx)
      obtain ⟨y, hy⟩ : ∃ y, S.kids[m]? = some y := ⟨_, List.getElem?_eq_getElem hm1⟩
      have hr : y.1 = true := by rw [runsAt_of hy] at hm3; exact hm3
      rcases Nat.eq_zero_or_pos j with hj0 | hj0
      · refine cT (vLt_T (by omega)) ?_
        refine bk ?_
        obtain ⟨b2, o2, E2⟩ := H.elt 3 rfl (j) (by omega)
        refine rIxE E2 rfl rfl rfl ?_
        refine rLd (H.el 3 rfl E2 hx) 0 rfl rfl rfl ?_
        refine br_t (vLt_T (by omega)) ?_
        refine cT rfl ?_
        refine Done.mk ?_
        refine ⟨?_, ?_⟩
        · omega
        omega
      · obtain ⟨z, hz⟩ : ∃ z, R1.stop[j - 1]? = some z := ⟨_, List.getElem?_eq_getElem (by omega)⟩
        have hzm : (m : Int) < z := sorted_next hD.s2 hz (by rw [show j - 1 + 1 = j by omega]; exact hx)
        refine cT (vLt_T (by omega)) ?_
        refine bk ?_
        obtain ⟨b2, o2, E2⟩ := H.elt 3 rfl (j) (by omega)
        refine rIxE E2 rfl rfl rfl ?_
        refine rLd (H.el 3 rfl E2 hx) 0 rfl rfl rfl ?_
        refine br_t (vLt_T (by omega)) ?_
        refine cT rfl ?_
        refine Done.mk ?_
        refine ⟨?_, ?_⟩
        · omega
        omega
    refine cF (vLt_F (by omega)) ?_
    refine rLenS H 4 rfl rfl ?_
    refine LoopP.rule (α := Nat) (0) (fun x_ => [(139, .int .i64 x_)]) (fun x_ w_ => (x_ ≤ R1.start.length) ∧ Sat (froz w) w_ ([Pt p1 (supC R1.S kv1 pv'1) 104, Sl 35 2 enK kv1 R1.S.kids, Sl 3 1 enI pv'1 R1.S.past, Sl 3 1 enI u1 R1.stop, Sl 3 1 enI t1 R1.start, Sl 35 2 enK v' S.kids, Pt p2 [.int .i64 x1.kid, .int .i64 x1.now] 79])) (fun x_ => R1.start.length - x_) ?_ ?_ ?_
    · repeat first | exact mt_nil | refine mt_cons rfl ?_ | refine mt_i rfl (by first | omega | (simp only; omega) | (simp; omega) | (simp; done)) ?_
    · try simp only
      refine ⟨?_, ?_⟩
      · omega
      exact H
    clear H
    rintro j f_ w_ ⟨hj, H⟩
    try simp only at hj H ⊢
    rcases Nat.lt_or_ge j R1.start.length with hlt | hge
    · obtain ⟨x, hx⟩ : ∃ x, R1.start[j]? = some x := ⟨_, List.getElem?_eq_getElem hlt⟩
      obtain ⟨m, rfl, hm1, hm3⟩ := hD.t1 x (List.mem_of_getElem? hx)
      obtain ⟨y, hy⟩ : ∃ y, S.kids[m]? = some y := ⟨_, List.getElem?_eq_getElem hm1⟩
      have hr : y.2 = true := by rw [keepAt_of hy] at hm3; exact hm3
      rcases Nat.eq_zero_or_pos j with hj0 | hj0
      · refine cT (vLt_T (by omega)) ?_
        refine bk ?_
        obtain ⟨b2, o2, E2⟩ := H.elt 4 rfl (j) (by omega)
        refine rIxE E2 rfl rfl rfl ?_
        refine rLd (H.el 4 rfl E2 hx) 0 rfl rfl rfl ?_
        refine br_t (vLt_T (by omega)) ?_
        refine cT rfl ?_
        refine Done.mk ?_
        refine ⟨?_, ?_⟩
        · omega
        omega
      · obtain ⟨z, hz⟩ : ∃ z, R1.start[j - 1]? = some z := ⟨_, List.getElem?_eq_getElem (by omega)⟩
        have hzm : z < (m : Int) := sorted_next hD.t2 hz (by rw [show j - 1 + 1 = j by omega]; exact hx)
        refine cT (vLt_T (by omega)) ?_
        refine bk ?_
        obtain ⟨b2, o2, E2⟩ := H.elt 4 rfl (j) (by omega)
        refine rIxE E2 rfl rfl rfl ?_
        refine rLd (H.el 4 rfl E2 hx) 0 rfl rfl rfl ?_
        refine br_t (vLt_T (by omega)) ?_
        refine cT rfl ?_
        refine Done.mk ?_
        refine ⟨?_, ?_⟩
        · omega
        omega
    refine cF (vLt_F (by omega)) ?_
    refine eqI64 (by omega) ?_
    refine Nxt.mk ((i + 1, R1.1, pv'1)) (mt_i rfl (by first | omega | (simp only; omega) | (simp; omega)) (mt_nil)) ?_ ?_
    · refine ⟨?_, ?_⟩
      · omega
      refine ⟨?_, ?_⟩
      · exact hE.1
      refine ⟨?_, ?_⟩
      · exact hE.2
      refine H.firsts 3 ?_
      clear H
      intro H
      exact H
    omega
  · refine LoopP.rule (α := Nat) (0) (fun x_ => [(96, .int .i64 x_)]) (fun x_ w_ => (x_ ≤ R1.stop.length) ∧ Sat (froz w) w_ ([Pt p1 (supC R1.S kv1 pv'1) 104, Sl 35 2 enK kv1 R1.S.kids, Sl 3 1 enI pv'1 R1.S.past, Sl 3 1 enI u1 R1.stop, Sl 3 1 enI t1 R1.start, Sl 35 2 enK v' S.kids, Pt p2 [.int .i64 x1.kid, .int .i64 x1.now] 79])) (fun x_ => R1.stop.length - x_) ?_ ?_ ?_
    · repeat first | exact mt_nil | refine mt_cons rfl ?_ | refine mt_i rfl (by first | omega | (simp only; omega) | (simp; omega) | (simp; done)) ?_
    · try simp only
      refine ⟨?_, ?_⟩
      · omega
      exact H
    clear H
    rintro j f_ w_ ⟨hj, H⟩
    try simp only at hj H ⊢
    rcases Nat.lt_or_ge j R1.stop.length with hlt | hge
    · obtain ⟨x, hx⟩ : ∃ x, R1.stop[j]? = some x := ⟨_, List.getElem?_eq_getElem hlt⟩
      obtain ⟨m, rfl, hm1, hm2, hm3⟩ := hD.s1 x (List.mem_of_getElem? hx)
      obtain ⟨y, hy⟩ : ∃ y, S.kids[m]? = some y := ⟨_, List.getElem?_eq_getElem hm1⟩
      have hr : y.1 = true := by rw [runsAt_of hy] at hm3; exact hm3
      rcases Nat.eq_zero_or_pos j with hj0 | hj0
      · refine cT (vLt_T (by omega)) ?_
        refine bk ?_
        obtain ⟨b2, o2, E2⟩ := H.elt 3 rfl (j) (by omega)
        refine rIxE E2 rfl rfl rfl ?_
        refine rLd (H.el 3 rfl E2 hx) 0 rfl rfl rfl ?_
        refine br_f (vLt_F (by omega)) ?_
        refine rLenS H 5 rfl rfl ?_
        refine br_f (vLe_F (by omega)) ?_
        refine rFieldAt rfl ?_
        refine rLd (H.at 6 rfl) 0 rfl rfl rfl ?_
        refine br_f (vEq_F (by assumption)) ?_
        obtain ⟨b3, o3, E3⟩ := H.elt 5 rfl (m) (by omega)
        refine rIxE E3 rfl rfl rfl ?_
        refine rFieldAt rfl ?_
        refine rLd (H.el 5 rfl E3 hy) 0 rfl rfl rfl ?_
        refine br_f (not_F ((by assumption))) ?_
        refine br_f (vLt_F (by omega)) ?_
        refine cF rfl ?_
        refine eqI64 (by omega) ?_
        refine Nxt.mk (j + 1) (mt_i rfl (by first | omega | (simp only; omega) | (simp; omega)) (mt_nil)) ?_ ?_
        · refine ⟨?_, ?_⟩
          · assumption
          exact H
        omega
      · obtain ⟨z, hz⟩ : ∃ z, R1.stop[j - 1]? = some z := ⟨_, List.getElem?_eq_getElem (by omega)⟩
        have hzm : (m : Int) < z := sorted_next hD.s2 hz (by rw [show j - 1 + 1 = j by omega]; exact hx)
        refine cT (vLt_T (by omega)) ?_
        refine bk ?_
        obtain ⟨b2, o2, E2⟩ := H.elt 3 rfl (j) (by omega)
        refine rIxE E2 rfl rfl rfl ?_
        refine rLd (H.el 3 rfl E2 hx) 0 rfl rfl rfl ?_
        refine br_f (vLt_F (by omega)) ?_
        refine rLenS H 5 rfl rfl ?_
        refine br_f (vLe_F (by omega)) ?_
        refine rFieldAt rfl ?_
        refine rLd (H.at 6 rfl) 0 rfl rfl rfl ?_
        refine br_f (vEq_F (by assumption)) ?_
        obtain ⟨b3, o3, E3⟩ := H.elt 5 rfl (m) (by omega)
        refine rIxE E3 rfl rfl rfl ?_
        refine rFieldAt rfl ?_
        refine rLd (H.el 5 rfl E3 hy) 0 rfl rfl rfl ?_
        refine br_f (not_F ((by assumption))) ?_
        refine br_t (vLt_T (by omega)) ?_
        refine eqI64 (by omega) ?_
        obtain ⟨b4, o4, E4⟩ := H.elt 3 rfl ((j) - 1) (by omega)
        refine rIxE E4 (by omega) rfl rfl ?_
        refine rLd (H.el 3 rfl E4 hz) 0 rfl rfl rfl ?_
        refine cF (vLe_F (by assumption)) ?_
        refine eqI64 (by omega) ?_
        refine Nxt.mk (j + 1) (mt_i rfl (by first | omega | (simp only; omega) | (simp; omega)) (mt_nil)) ?_ ?_
        · refine ⟨?_, ?_⟩
          · assumption
          exact H
        omega
    refine cF (vLt_F (by omega)) ?_
    refine rLenS H 4 rfl rfl ?_
    refine LoopP.rule (α := Nat) (0) (fun x_ => [(139, .int .i64 x_)]) (fun x_ w_ => (x_ ≤ R1.start.length) ∧ Sat (froz w) w_ ([Pt p1 (supC R1.S kv1 pv'1) 104, Sl 35 2 enK kv1 R1.S.kids, Sl 3 1 enI pv'1 R1.S.past, Sl 3 1 enI u1 R1.stop, Sl 3 1 enI t1 R1.start, Sl 35 2 enK v' S.kids, Pt p2 [.int .i64 x1.kid, .int .i64 x1.now] 79])) (fun x_ => R1.start.length - x_) ?_ ?_ ?_
    · repeat first | exact mt_nil | refine mt_cons rfl ?_ | refine mt_i rfl (by first | omega | (simp only; omega) | (simp; omega) | (simp; done)) ?_
    · try simp only
      refine ⟨?_, ?_⟩
      · omega
      exact H
    clear H
    rintro j f_ w_ ⟨hj, H⟩
    try simp only at hj H ⊢
    rcases Nat.lt_or_ge j R1.start.length with hlt | hge
    · obtain ⟨x, hx⟩ : ∃ x, R1.start[j]? = some x := ⟨_, List.getElem?_eq_getElem hlt⟩
      obtain ⟨m, rfl, hm1, hm3⟩ := hD.t1 x (List.mem_of_getElem? hx)
      obtain ⟨y, hy⟩ : ∃ y, S.kids[m]? = some y := ⟨_, List.getElem?_eq_getElem hm1⟩
      have hr : y.2 = true := by rw [keepAt_of hy] at hm3; exact hm3
      rcases Nat.eq_zero_or_pos j with hj0 | hj0
      · refine cT (vLt_T (by omega)) ?_
        refine bk ?_
        obtain ⟨b2, o2, E2⟩ := H.elt 4 rfl (j) (by omega)
        refine rIxE E2 rfl rfl rfl ?_
        refine rLd (H.el 4 rfl E2 hx) 0 rfl rfl rfl ?_
        refine br_f (vLt_F (by omega)) ?_
        refine rLenS H 5 rfl rfl ?_
        refine br_f (vLe_F (by omega)) ?_
        obtain ⟨b3, o3, E3⟩ := H.elt 5 rfl (m) (by omega)
        refine rIxE E3 rfl rfl rfl ?_
        refine rFieldAt rfl ?_
        refine rLd (H.el 5 rfl E3 hy) 1 rfl rfl rfl ?_
        refine br_f (not_F ((by assumption))) ?_
        refine br_f (vLt_F (by omega)) ?_
        refine cF rfl ?_
        refine eqI64 (by omega) ?_
        refine Nxt.mk (j + 1) (mt_i rfl (by first | omega | (simp only; omega) | (simp; omega)) (mt_nil)) ?_ ?_
        · refine ⟨?_, ?_⟩
          · assumption
          exact H
        omega
      · obtain ⟨z, hz⟩ : ∃ z, R1.start[j - 1]? = some z := ⟨_, List.getElem?_eq_getElem (by omega)⟩
        have hzm : z < (m : Int) := sorted_next hD.t2 hz (by rw [show j - 1 + 1 = j by omega]; exact hx)
        refine cT (vLt_T (by omega)) ?_
        refine bk ?_
        obtain ⟨b2, o2, E2⟩ := H.elt 4 rfl (j) (by omega)
        refine rIxE E2 rfl rfl rfl ?_
        refine rLd (H.el 4 rfl E2 hx) 0 rfl rfl rfl ?_
        refine br_f (vLt_F (by omega)) ?_
        refine rLenS H 5 rfl rfl ?_
        refine br_f (vLe_F (by omega)) ?_
        obtain ⟨b3, o3, E3⟩ := H.elt 5 rfl (m) (by omega)
        refine rIxE E3 rfl rfl rfl ?_
        refine rFieldAt rfl ?_
        refine rLd (H.el 5 rfl E3 hy) 1 rfl rfl rfl ?_
        refine br_f (not_F ((by assumption))) ?_
        refine br_t (vLt_T (by omega)) ?_
        refine eqI64 (by omega) ?_
        obtain ⟨b4, o4, E4⟩ := H.elt 4 rfl ((j) - 1) (by omega)
        refine rIxE E4 (by omega) rfl rfl ?_
        refine rLd (H.el 4 rfl E4 hz) 0 rfl rfl rfl ?_
        refine cF (vLe_F (by assumption)) ?_
        refine eqI64 (by omega) ?_
        refine Nxt.mk (j + 1) (mt_i rfl (by first | omega | (simp only; omega) | (simp; omega)) (mt_nil)) ?_ ?_
        · refine ⟨?_, ?_⟩
          · assumption
          exact H
        omega
    refine cF (vLt_F (by omega)) ?_
    refine eqI64 (by omega) ?_
    refine Nxt.mk ((i + 1, R1.1, pv'1)) (mt_i rfl (by first | omega | (simp only; omega) | (simp; omega)) (mt_nil)) ?_ ?_
    · refine ⟨?_, ?_⟩
      · omega
      refine ⟨?_, ?_⟩
      · exact hE.1
      refine ⟨?_, ?_⟩
      · exact hE.2
      refine H.firsts 3 ?_
      clear H
      intro H
      exact H
    omega
end Go.Proofs.Ytkkfjhaknbaiaaa.Super
