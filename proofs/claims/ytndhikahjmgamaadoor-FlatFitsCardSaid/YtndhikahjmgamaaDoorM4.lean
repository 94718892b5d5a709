/- Texts of this claim, one behind the other. -/
import Derived.Test.YtndhikahjmgamaaDoorM3
/- Package nest: Match, with what each end and each else belongs to. -/
set_option maxRecDepth 100000
set_option maxHeartbeats 4000000
set_option linter.unusedVariables false
set_option linter.unusedSimpArgs false
namespace Go.Proofs.YtndhikahjmgamaaDoor.Nest
open Go Go.Proofs.YtndhikahjmgamaaDoor.Eng Go.RowKit
open Ins
theorem oo_map {xs : List InsV} {k : Nat} {x : InsV} (h : xs[k]? = some x) : oo (xs.map InsV.d) k = x.op := oo_of (map_get h)
theorem gd_get {l : List Int} {k : Nat} {v : Int} (h : l[k]? = some v) : gd l k = v := gd_of h
section
variable {g : Glob} {w : World} {l : List As}
theorem match_ (H : Sat g w l) (v : Value) (xs : List InsV) (hx : FSl g enV (okV g) 4 v xs) : Fc Tryd.prog 26 #[v] w (fun r w' => ∃ (u1 u2 : Value) (E L : List Int) (e : Int), r = .tuple #[u1, u2, .int .i64 e] ∧ e = chkB (xs.map InsV.d) ∧ ((e ≠ 0 ∧ E = [] ∧ L = []) ∨ (e = 0 ∧ ∃ op last, MK (xs.map InsV.d) xs.length ⟨op, last, true⟩ E L)) ∧ Sat g w' (Sl 3 1 enI u1 E :: Sl 3 1 enI u2 L :: l)) := by
  refine Fc.of Tryd.func26 rfl (by kernel_rfl) ?_
  have hml : (xs.map InsV.d).length = xs.length := List.length_map ..
  by_cases hc : chkB (xs.map InsV.d) = 0
  · obtain ⟨hl, hF, hov⟩ := chkB_ok hc
    rw [hml] at hl hF hov
    refine CallP.mk (Fc.imp (Go.Proofs.YtndhikahjmgamaaDoor.Nest.check H _ _ hx) ?_)
    clear H
    rintro _ w1 ⟨⟨e1, ⟨rfl, h1⟩⟩, H⟩
    refine cF (vNe_F (by omega)) ?_
    refine drawtS H [] (.op 0 .pure (.op 1 .pure (.op 3 .pure (.op 4 .pure (.fork (.op 2 .free (.op 6 .pure (.op 5 .free (.op 7 .pure .nil)))) (.op 5 .free (.op 2 .free (.op 6 .pure (.op 7 .pure .nil))))))))) mixed (by kernel_rfl) ?_
    clear H
    intro w2 H
    clear w1
    refine tk (fun wx HS => rLenF hx rfl ⟨rfl, rfl⟩) ?_
    refine tk (fun wx HS => rLenF hx rfl ⟨rfl, rfl⟩) ?_
    refine ⟨?_, ?_⟩
    focus
      refine rMakeS (en := enI) (s := 1) H (0) ((xs.length)) ((xs.length)) 8 rfl rfl rfl (fun _ => rfl) (by omega) (by omega) (by omega) (by omega) (by omega) ?_
      intro v1
      clear H
      intro w1 H
      clear w2
      refine rMakeS (en := enI) (s := 1) H (0) ((xs.length)) ((xs.length)) 8 rfl rfl rfl (fun _ => rfl) (by omega) (by omega) (by omega) (by omega) (by omega) ?_
      intro v2
      clear H
      intro w2 H
      clear w1
      refine CallP.mk (Fc.imp (Go.Proofs.YtndhikahjmgamaaDoor.Nest.begin_ _) ?_)
      rintro _ w1 ⟨p1, ⟨vo1, ⟨vl1, ⟨rfl, H'⟩⟩⟩⟩
      refine H.mergeK H' ?_
      clear H H'
      intro H
      refine rLenF hx rfl ?_
    rotate_left 1
    focus
      refine rMakeS (en := enI) (s := 1) H (0) ((xs.length)) ((xs.length)) 8 rfl rfl rfl (fun _ => rfl) (by omega) (by omega) (by omega) (by omega) (by omega) ?_
      intro v1
      clear H
      intro w1 H
      clear w2
      refine rMakeS (en := enI) (s := 1) H (0) ((xs.length)) ((xs.length)) 8 rfl rfl rfl (fun _ => rfl) (by omega) (by omega) (by omega) (by omega) (by omega) ?_
      intro v2
      clear H
      intro w2 H
      clear w1
      refine CallP.mk (Fc.imp (Go.Proofs.YtndhikahjmgamaaDoor.Nest.begin_ _) ?_)
      rintro _ w1 ⟨p1, ⟨vo1, ⟨vl1, ⟨rfl, H'⟩⟩⟩⟩
      refine H.mergeK H' ?_
      clear H H'
      intro H
      refine rLenF hx rfl ?_
    rotate_left 1
    focus
      generalize v1 = ue at *
      generalize v2 = ul at *
    rotate_left
    focus
      generalize v2 = ue at *
      generalize v1 = ul at *
    rotate_left
    · refine LoopP.rule (α := Nat × List Int × List Int × Bool × Value × Value × List Int × List Int) (0, ns0.op, ns0.last, ns0.over, vo1, vl1, List.replicate xs.length 0, List.replicate xs.length 0) (fun x_ => [(26, .int .i64 x_.1)]) (fun x_ w_ => (x_.1 ≤ xs.length) ∧ (MK (xs.map InsV.d) x_.1 ⟨x_.2.1, x_.2.2.1, x_.2.2.2.1⟩ x_.2.2.2.2.2.2.1 x_.2.2.2.2.2.2.2) ∧ Sat g w_ ((Pt p1 [x_.2.2.2.2.1, x_.2.2.2.2.2.1, .bool x_.2.2.2.1] 103 :: Sl 3 1 enI x_.2.2.2.2.1 x_.2.1 :: Sl 5 1 enK x_.2.2.2.2.2.1 x_.2.2.1 :: Sl 3 1 enI ue x_.2.2.2.2.2.2.1 :: Sl 3 1 enI ul x_.2.2.2.2.2.2.2 :: l))) (fun x_ => xs.length - x_.1) ?_ ?_ ?_
      · repeat first | exact mt_nil | refine mt_cons rfl ?_ | refine mt_i rfl (by first | omega | (simp only; omega) | (simp; omega) | (simp; done)) ?_
      · try simp only
        refine ⟨?_, ?_⟩
        · omega
        refine ⟨?_, ?_⟩
        · exact MK.zero (by simp) (by simp)
        refine H.fronts [3, 4, 4, 4, 4] ?_
        clear H
        intro H
        exact H
      clear H
      rintro ⟨k, op, last, ov, vo, vl, E, L⟩ f_ w_ ⟨hk, hM, H⟩
      try simp only at hk hM H ⊢
      have hEl := hM.eL
      have hLl := hM.lL
      rw [hml] at hEl hLl
      rcases Nat.lt_or_ge k xs.length with hlt | hge
      · obtain ⟨x, hxk⟩ : ∃ x, xs[k]? = some x := ⟨_, List.getElem?_eq_getElem hlt⟩
        have hmx := map_get hxk
        have hc2 := (hF k _ hlt hmx).2
        have hok := stB_ok (xs.map InsV.d) k
        rw [← hM.cur] at hc2 hok
        have hov : ov = false := by
          cases ov
          · rfl
          · rw [over_no rfl] at hc2; cases hc2
        subst hov
        change (nextS ⟨op, last, false⟩ x.op k).2.2 = 0 at hc2
        by_cases h5 : x.op = 5
        · refine cT (vLt_T (by omega)) ?_
          refine bk ?_
          obtain ⟨b1, o1, E1, F1, hok1⟩ := FSl.elt hx hxk
          have hok1_op := hok1.op
          have hok1_a := hok1.a
          have hok1_b := hok1.b
          have hok1_to := hok1.to
          refine rIxE E1 rfl rfl rfl ?_
          refine rLdA (H.fat F1) 0 rfl rfl rfl ?_
          refine rAllocS H rfl ?_
          clear H
          intro p2 w3 H
          clear w_
          refine rStAS H 0 rfl rfl rfl (by simp only [List.all_cons, List.all_nil, H.one 2 rfl, H.one 3 rfl, H.one 4 rfl, H.one 5 rfl, FSl.one hok1_to, FSl.one hx]; rfl) ?_
          clear H
          intro w4 H
          clear w3
          obtain ⟨x1, hx1⟩ : ∃ x, (E)[(k)]? = some x := ⟨_, List.getElem?_eq_getElem (by omega)⟩
          obtain ⟨b2, o2, E2⟩ := H.elt 4 rfl (k) (by omega)
          refine rIxE E2 rfl rfl rfl ?_
          refine rStE H 4 rfl E2 hx1 0 (-1) rfl rfl rfl rfl ?_
          clear H
          intro w3 H
          clear w4
          obtain ⟨x2, hx2⟩ : ∃ x, (L)[(k)]? = some x := ⟨_, List.getElem?_eq_getElem (by omega)⟩
          obtain ⟨b3, o3, E3⟩ := H.elt 5 rfl (k) (by omega)
          refine rIxE E3 rfl rfl rfl ?_
          refine rStE H 5 rfl E3 hx2 0 (-1) rfl rfl rfl rfl ?_
          clear H
          intro w4 H
          clear w3
          refine rLdA (H.at 0 rfl) 0 rfl rfl rfl ?_
          refine H.fronts [3, 3, 3] ?_
          clear H
          intro H
          refine CallP.mk (Fc.imp (Go.Proofs.YtndhikahjmgamaaDoor.Nest.next _ hok H _ _ _ _ _) ?_)
          clear H
          rintro _ w3 ⟨op'1, ⟨last'1, ⟨ov'1, ⟨vo'1, ⟨vl'1, ⟨is1, ⟨e2, ⟨rfl, ⟨h2, H⟩⟩⟩⟩⟩⟩⟩⟩⟩
          rw [h2] at hc2
          simp only at hc2
          subst hc2
          obtain ⟨hM2, hb1, hb2⟩ := hM.step_else hmx h2 h5
          rw [hml] at hb2
          refine bk ?_
          refine rFieldAt rfl ?_
          refine rLd (H.at 3 rfl) 0 rfl rfl rfl ?_
          refine cT (vEq_T (by assumption)) ?_
          refine rIxE E3 rfl rfl rfl ?_
          have hx3 : (L.set k (-1))[k]? = some _ := setSelf hx2
          refine rStE H 5 rfl E3 hx3 0 (is1) rfl rfl rfl rfl ?_
          clear H
          intro w5 H
          clear w3
          obtain ⟨x3, hx4⟩ : ∃ x, ((L.set k (-1)).set k is1)[(is1).toNat]? = some x := ⟨_, List.getElem?_eq_getElem (by (simp only [List.length_append, List.length_set, List.length_cons, List.length_nil]; omega))⟩
          obtain ⟨b4, o4, E4⟩ := H.elt 5 rfl (is1).toNat (by (simp only [List.length_append, List.length_set, List.length_cons, List.length_nil]; omega))
          refine rIxE E4 (by omega) rfl rfl ?_
          refine rStE H 5 rfl E4 hx4 0 ((↑k : Int)) rfl rfl rfl rfl ?_
          clear H
          intro w3 H
          clear w5
          refine eqI64 (by omega) ?_
          refine Nxt.mk ((k + 1, op'1, last'1, ov'1, vo'1, vl'1, E.set k (-1), ((L.set k (-1)).set k is1).set is1.toNat (↑k : Int))) (mt_i rfl (by first | omega | (simp only; omega) | (simp; omega)) (mt_nil)) ?_ ?_
          · refine ⟨?_, ?_⟩
            · assumption
            refine ⟨?_, ?_⟩
            · exact hM2
            refine H.fronts [5, 5, 4, 4, 4] ?_
            clear H
            intro H
            refine H.drop 5 ?_
            clear H
            intro H
            exact H
          omega
        by_cases h11 : x.op = 11
        · refine cT (vLt_T (by omega)) ?_
          refine bk ?_
          obtain ⟨b1, o1, E1, F1, hok1⟩ := FSl.elt hx hxk
          have hok1_op := hok1.op
          have hok1_a := hok1.a
          have hok1_b := hok1.b
          have hok1_to := hok1.to
          refine rIxE E1 rfl rfl rfl ?_
          refine rLdA (H.fat F1) 0 rfl rfl rfl ?_
          refine rAllocS H rfl ?_
          clear H
          intro p2 w3 H
          clear w_
          refine rStAS H 0 rfl rfl rfl (by simp only [List.all_cons, List.all_nil, H.one 2 rfl, H.one 3 rfl, H.one 4 rfl, H.one 5 rfl, FSl.one hok1_to, FSl.one hx]; rfl) ?_
          clear H
          intro w4 H
          clear w3
          obtain ⟨x1, hx1⟩ : ∃ x, (E)[(k)]? = some x := ⟨_, List.getElem?_eq_getElem (by omega)⟩
          obtain ⟨b2, o2, E2⟩ := H.elt 4 rfl (k) (by omega)
          refine rIxE E2 rfl rfl rfl ?_
          refine rStE H 4 rfl E2 hx1 0 (-1) rfl rfl rfl rfl ?_
          clear H
          intro w3 H
          clear w4
          obtain ⟨x2, hx2⟩ : ∃ x, (L)[(k)]? = some x := ⟨_, List.getElem?_eq_getElem (by omega)⟩
          obtain ⟨b3, o3, E3⟩ := H.elt 5 rfl (k) (by omega)
          refine rIxE E3 rfl rfl rfl ?_
          refine rStE H 5 rfl E3 hx2 0 (-1) rfl rfl rfl rfl ?_
          clear H
          intro w4 H
          clear w3
          refine rLdA (H.at 0 rfl) 0 rfl rfl rfl ?_
          refine H.fronts [3, 3, 3] ?_
          clear H
          intro H
          refine CallP.mk (Fc.imp (Go.Proofs.YtndhikahjmgamaaDoor.Nest.next _ hok H _ _ _ _ _) ?_)
          clear H
          rintro _ w3 ⟨op'1, ⟨last'1, ⟨ov'1, ⟨vo'1, ⟨vl'1, ⟨is1, ⟨e2, ⟨rfl, ⟨h2, H⟩⟩⟩⟩⟩⟩⟩⟩⟩
          rw [h2] at hc2
          simp only at hc2
          subst hc2
          rcases hM.step_end' hmx h2 h11 with ⟨hb1, hM2⟩ | ⟨z, hb1, hb2, hz, hb3, hM2⟩ | ⟨z, hb1, hb2, hz, hb3, hb4, hM2⟩
          refine bk ?_
          refine rFieldAt rfl ?_
          refine rLd (H.at 3 rfl) 0 rfl rfl rfl ?_
          refine cF (vEq_F (by assumption)) ?_
          refine rFieldAt rfl ?_
          refine rLd (H.at 3 rfl) 0 rfl rfl rfl ?_
          refine cT (vEq_T (by assumption)) ?_
          refine rIxE E2 rfl rfl rfl ?_
          have hx3 : (E.set k (-1))[k]? = some _ := setSelf hx1
          refine rStE H 4 rfl E2 hx3 0 (is1) rfl rfl rfl rfl ?_
          clear H
          intro w5 H
          clear w3
          refine cF (vLe_F (by assumption)) ?_
          refine eqI64 (by omega) ?_
          refine Nxt.mk ((k + 1, op'1, last'1, ov'1, vo'1, vl'1, (E.set k (-1)).set k is1, L.set k (-1))) (mt_i rfl (by first | omega | (simp only; omega) | (simp; omega)) (mt_nil)) ?_ ?_
          · refine ⟨?_, ?_⟩
            · assumption
            refine ⟨?_, ?_⟩
            · exact hM2
            refine H.fronts [5, 5, 4, 4, 4] ?_
            clear H
            intro H
            refine H.drop 5 ?_
            clear H
            intro H
            exact H
          · omega
          · refine bk ?_
            refine rFieldAt rfl ?_
            refine rLd (H.at 3 rfl) 0 rfl rfl rfl ?_
            refine cF (vEq_F (by assumption)) ?_
            refine rFieldAt rfl ?_
            refine rLd (H.at 3 rfl) 0 rfl rfl rfl ?_
            refine cT (vEq_T (by assumption)) ?_
            refine rIxE E2 rfl rfl rfl ?_
            have hx3 : (E.set k (-1))[k]? = some _ := setSelf hx1
            refine rStE H 4 rfl E2 hx3 0 (is1) rfl rfl rfl rfl ?_
            clear H
            intro w5 H
            clear w3
            refine cT (vLe_T (by assumption)) ?_
            obtain ⟨x3, hx4⟩ : ∃ x, ((E.set k (-1)).set k is1)[(is1).toNat]? = some x := ⟨_, List.getElem?_eq_getElem (by (simp only [List.length_append, List.length_set, List.length_cons, List.length_nil]; omega))⟩
            obtain ⟨b4, o4, E4⟩ := H.elt 4 rfl (is1).toNat (by (simp only [List.length_append, List.length_set, List.length_cons, List.length_nil]; omega))
            refine rIxE E4 (by omega) rfl rfl ?_
            refine rStE H 4 rfl E4 hx4 0 ((↑k : Int)) rfl rfl rfl rfl ?_
            clear H
            intro w3 H
            clear w5
            obtain ⟨b5, o5, E5⟩ := H.elt 5 rfl (is1).toNat (by (simp only [List.length_append, List.length_set, List.length_cons, List.length_nil]; omega))
            refine rIxE E5 (by omega) rfl rfl ?_
            refine rLd (H.el 5 rfl E5 hz) 0 rfl rfl rfl ?_
            refine cF (vLe_F (by assumption)) ?_
            refine eqI64 (by omega) ?_
            refine Nxt.mk ((k + 1, op'1, last'1, ov'1, vo'1, vl'1, ((E.set k (-1)).set k is1).set is1.toNat (↑k : Int), L.set k (-1))) (mt_i rfl (by first | omega | (simp only; omega) | (simp; omega)) (mt_nil)) ?_ ?_
            · refine ⟨?_, ?_⟩
              · assumption
              refine ⟨?_, ?_⟩
              · exact hM2
              refine H.fronts [5, 5, 4, 4, 4] ?_
              clear H
              intro H
              refine H.drop 5 ?_
              clear H
              intro H
              exact H
            omega
          refine bk ?_
          refine rFieldAt rfl ?_
          refine rLd (H.at 3 rfl) 0 rfl rfl rfl ?_
          refine cF (vEq_F (by assumption)) ?_
          refine rFieldAt rfl ?_
          refine rLd (H.at 3 rfl) 0 rfl rfl rfl ?_
          refine cT (vEq_T (by assumption)) ?_
          refine rIxE E2 rfl rfl rfl ?_
          have hx3 : (E.set k (-1))[k]? = some _ := setSelf hx1
          refine rStE H 4 rfl E2 hx3 0 (is1) rfl rfl rfl rfl ?_
          clear H
          intro w5 H
          clear w3
          refine cT (vLe_T (by assumption)) ?_
          obtain ⟨x3, hx4⟩ : ∃ x, ((E.set k (-1)).set k is1)[(is1).toNat]? = some x := ⟨_, List.getElem?_eq_getElem (by (simp only [List.length_append, List.length_set, List.length_cons, List.length_nil]; omega))⟩
          obtain ⟨b4, o4, E4⟩ := H.elt 4 rfl (is1).toNat (by (simp only [List.length_append, List.length_set, List.length_cons, List.length_nil]; omega))
          refine rIxE E4 (by omega) rfl rfl ?_
          refine rStE H 4 rfl E4 hx4 0 ((↑k : Int)) rfl rfl rfl rfl ?_
          clear H
          intro w3 H
          clear w5
          obtain ⟨b5, o5, E5⟩ := H.elt 5 rfl (is1).toNat (by (simp only [List.length_append, List.length_set, List.length_cons, List.length_nil]; omega))
          refine rIxE E5 (by omega) rfl rfl ?_
          refine rLd (H.el 5 rfl E5 hz) 0 rfl rfl rfl ?_
          refine cT (vLe_T (by assumption)) ?_
          obtain ⟨x4, hx5⟩ : ∃ x, (((E.set k (-1)).set k is1).set is1.toNat (↑k : Int))[(z).toNat]? = some x := ⟨_, List.getElem?_eq_getElem (by (simp only [List.length_append, List.length_set, List.length_cons, List.length_nil]; omega))⟩
          obtain ⟨b6, o6, E6⟩ := H.elt 4 rfl (z).toNat (by (simp only [List.length_append, List.length_set, List.length_cons, List.length_nil]; omega))
          refine rIxE E6 (by omega) rfl rfl ?_
          refine rStE H 4 rfl E6 hx5 0 ((↑k : Int)) rfl rfl rfl rfl ?_
          clear H
          intro w5 H
          clear w3
          refine eqI64 (by omega) ?_
          refine Nxt.mk ((k + 1, op'1, last'1, ov'1, vo'1, vl'1, (((E.set k (-1)).set k is1).set is1.toNat (↑k : Int)).set z.toNat (↑k : Int), L.set k (-1))) (mt_i rfl (by first | omega | (simp only; omega) | (simp; omega)) (mt_nil)) ?_ ?_
          · refine ⟨?_, ?_⟩
            · assumption
            refine ⟨?_, ?_⟩
            · exact hM2
            refine H.fronts [5, 5, 4, 4, 4] ?_
            clear H
            intro H
            refine H.drop 5 ?_
            clear H
            intro H
            exact H
          omega
        · refine cT (vLt_T (by omega)) ?_
          refine bk ?_
          obtain ⟨b1, o1, E1, F1, hok1⟩ := FSl.elt hx hxk
          have hok1_op := hok1.op
          have hok1_a := hok1.a
          have hok1_b := hok1.b
          have hok1_to := hok1.to
          refine rIxE E1 rfl rfl rfl ?_
          refine rLdA (H.fat F1) 0 rfl rfl rfl ?_
          refine rAllocS H rfl ?_
          clear H
          intro p2 w3 H
          clear w_
          refine rStAS H 0 rfl rfl rfl (by simp only [List.all_cons, List.all_nil, H.one 2 rfl, H.one 3 rfl, H.one 4 rfl, H.one 5 rfl, FSl.one hok1_to, FSl.one hx]; rfl) ?_
          clear H
          intro w4 H
          clear w3
          obtain ⟨x1, hx1⟩ : ∃ x, (E)[(k)]? = some x := ⟨_, List.getElem?_eq_getElem (by omega)⟩
          obtain ⟨b2, o2, E2⟩ := H.elt 4 rfl (k) (by omega)
          refine rIxE E2 rfl rfl rfl ?_
          refine rStE H 4 rfl E2 hx1 0 (-1) rfl rfl rfl rfl ?_
          clear H
          intro w3 H
          clear w4
          obtain ⟨x2, hx2⟩ : ∃ x, (L)[(k)]? = some x := ⟨_, List.getElem?_eq_getElem (by omega)⟩
          obtain ⟨b3, o3, E3⟩ := H.elt 5 rfl (k) (by omega)
          refine rIxE E3 rfl rfl rfl ?_
          refine rStE H 5 rfl E3 hx2 0 (-1) rfl rfl rfl rfl ?_
          clear H
          intro w4 H
          clear w3
          refine rLdA (H.at 0 rfl) 0 rfl rfl rfl ?_
          refine H.fronts [3, 3, 3] ?_
          clear H
          intro H
          refine CallP.mk (Fc.imp (Go.Proofs.YtndhikahjmgamaaDoor.Nest.next _ hok H _ _ _ _ _) ?_)
          clear H
          rintro _ w3 ⟨op'1, ⟨last'1, ⟨ov'1, ⟨vo'1, ⟨vl'1, ⟨is1, ⟨e2, ⟨rfl, ⟨h2, H⟩⟩⟩⟩⟩⟩⟩⟩⟩
          rw [h2] at hc2
          simp only at hc2
          subst hc2
          refine bk ?_
          refine rFieldAt rfl ?_
          refine rLd (H.at 3 rfl) 0 rfl rfl rfl ?_
          refine cF (vEq_F (by assumption)) ?_
          refine rFieldAt rfl ?_
          refine rLd (H.at 3 rfl) 0 rfl rfl rfl ?_
          refine cF (vEq_F (by assumption)) ?_
          refine eqI64 (by omega) ?_
          refine Nxt.mk ((k + 1, op'1, last'1, ov'1, vo'1, vl'1, E.set k (-1), L.set k (-1))) (mt_i rfl (by first | omega | (simp only; omega) | (simp; omega)) (mt_nil)) ?_ ?_
          · refine ⟨?_, ?_⟩
            · assumption
            refine ⟨?_, ?_⟩
            · exact hM.step_o hmx h2 h5 h11
            refine H.fronts [5, 5, 4, 4, 4] ?_
            clear H
            intro H
            refine H.drop 5 ?_
            clear H
            intro H
            exact H
          omega
      · obtain rfl : k = xs.length := by omega
        rw [← hM.cur] at hov
        have hov : ov = true := hov
        subst hov
        refine cF (vLt_F (by omega)) ?_
        refine Done.mk ?_
        refine ⟨ue, ul, E, L, 0, ?_⟩
        refine ⟨?_, ?_⟩
        · rfl
        refine ⟨?_, ?_⟩
        · omega
        refine ⟨?_, ?_⟩
        · exact .inr ⟨rfl, _, _, hM⟩
        refine H.fronts [4, 4] ?_
        clear H
        intro H
        refine H.drop 4 ?_
        clear H
        intro H
        refine H.drop 3 ?_
        clear H
        intro H
        refine H.drop 2 ?_
        clear H
        intro H
        exact H
    · refine LoopP.rule (α := Nat × List Int × List Int × Bool × Value × Value × List Int × List Int) (0, ns0.op, ns0.last, ns0.over, vo1, vl1, List.replicate xs.length 0, List.replicate xs.length 0) (fun x_ => [(26, .int .i64 x_.1)]) (fun x_ w_ => (x_.1 ≤ xs.length) ∧ (MK (xs.map InsV.d) x_.1 ⟨x_.2.1, x_.2.2.1, x_.2.2.2.1⟩ x_.2.2.2.2.2.2.1 x_.2.2.2.2.2.2.2) ∧ Sat g w_ ((Pt p1 [x_.2.2.2.2.1, x_.2.2.2.2.2.1, .bool x_.2.2.2.1] 103 :: Sl 3 1 enI x_.2.2.2.2.1 x_.2.1 :: Sl 5 1 enK x_.2.2.2.2.2.1 x_.2.2.1 :: Sl 3 1 enI ue x_.2.2.2.2.2.2.1 :: Sl 3 1 enI ul x_.2.2.2.2.2.2.2 :: l))) (fun x_ => xs.length - x_.1) ?_ ?_ ?_
      · repeat first | exact mt_nil | refine mt_cons rfl ?_ | refine mt_i rfl (by first | omega | (simp only; omega) | (simp; omega) | (simp; done)) ?_
      · try simp only
        refine ⟨?_, ?_⟩
        · omega
        refine ⟨?_, ?_⟩
        · exact MK.zero (by simp) (by simp)
        exact H
      clear H
      rintro ⟨k, op, last, ov, vo, vl, E, L⟩ f_ w_ ⟨hk, hM, H⟩
      try simp only at hk hM H ⊢
      have hEl := hM.eL
      have hLl := hM.lL
      rw [hml] at hEl hLl
      rcases Nat.lt_or_ge k xs.length with hlt | hge
      · obtain ⟨x, hxk⟩ : ∃ x, xs[k]? = some x := ⟨_, List.getElem?_eq_getElem hlt⟩
        have hmx := map_get hxk
        have hc2 := (hF k _ hlt hmx).2
        have hok := stB_ok (xs.map InsV.d) k
        rw [← hM.cur] at hc2 hok
        have hov : ov = false := by
          cases ov
          · rfl
          · rw [over_no rfl] at hc2; cases hc2
        subst hov
        change (nextS ⟨op, last, false⟩ x.op k).2.2 = 0 at hc2
        by_cases h5 : x.op = 5
        · refine cT (vLt_T (by omega)) ?_
          refine bk ?_
          obtain ⟨b1, o1, E1, F1, hok1⟩ := FSl.elt hx hxk
          have hok1_op := hok1.op
          have hok1_a := hok1.a
          have hok1_b := hok1.b
          have hok1_to := hok1.to
          refine rIxE E1 rfl rfl rfl ?_
          refine rLdA (H.fat F1) 0 rfl rfl rfl ?_
          refine rAllocS H rfl ?_
          clear H
          intro p2 w3 H
          clear w_
          refine rStAS H 0 rfl rfl rfl (by simp only [List.all_cons, List.all_nil, H.one 2 rfl, H.one 3 rfl, H.one 4 rfl, H.one 5 rfl, FSl.one hok1_to, FSl.one hx]; rfl) ?_
          clear H
          intro w4 H
          clear w3
          obtain ⟨x1, hx1⟩ : ∃ x, (E)[(k)]? = some x := ⟨_, List.getElem?_eq_getElem (by omega)⟩
          obtain ⟨b2, o2, E2⟩ := H.elt 4 rfl (k) (by omega)
          refine rIxE E2 rfl rfl rfl ?_
          refine rStE H 4 rfl E2 hx1 0 (-1) rfl rfl rfl rfl ?_
          clear H
          intro w3 H
          clear w4
          obtain ⟨x2, hx2⟩ : ∃ x, (L)[(k)]? = some x := ⟨_, List.getElem?_eq_getElem (by omega)⟩
          obtain ⟨b3, o3, E3⟩ := H.elt 5 rfl (k) (by omega)
          refine rIxE E3 rfl rfl rfl ?_
          refine rStE H 5 rfl E3 hx2 0 (-1) rfl rfl rfl rfl ?_
          clear H
          intro w4 H
          clear w3
          refine rLdA (H.at 0 rfl) 0 rfl rfl rfl ?_
          refine H.fronts [3, 3, 3] ?_
          clear H
          intro H
          refine CallP.mk (Fc.imp (Go.Proofs.YtndhikahjmgamaaDoor.Nest.next _ hok H _ _ _ _ _) ?_)
          clear H
          rintro _ w3 ⟨op'1, ⟨last'1, ⟨ov'1, ⟨vo'1, ⟨vl'1, ⟨is1, ⟨e2, ⟨rfl, ⟨h2, H⟩⟩⟩⟩⟩⟩⟩⟩⟩
          rw [h2] at hc2
          simp only at hc2
          subst hc2
          obtain ⟨hM2, hb1, hb2⟩ := hM.step_else hmx h2 h5
          rw [hml] at hb2
          refine bk ?_
          refine rFieldAt rfl ?_
          refine rLd (H.at 3 rfl) 0 rfl rfl rfl ?_
          refine cT (vEq_T (by assumption)) ?_
          refine rIxE E3 rfl rfl rfl ?_
          have hx3 : (L.set k (-1))[k]? = some _ := setSelf hx2
          refine rStE H 5 rfl E3 hx3 0 (is1) rfl rfl rfl rfl ?_
          clear H
          intro w5 H
          clear w3
          obtain ⟨x3, hx4⟩ : ∃ x, ((L.set k (-1)).set k is1)[(is1).toNat]? = some x := ⟨_, List.getElem?_eq_getElem (by (simp only [List.length_append, List.length_set, List.length_cons, List.length_nil]; omega))⟩
          obtain ⟨b4, o4, E4⟩ := H.elt 5 rfl (is1).toNat (by (simp only [List.length_append, List.length_set, List.length_cons, List.length_nil]; omega))
          refine rIxE E4 (by omega) rfl rfl ?_
          refine rStE H 5 rfl E4 hx4 0 ((↑k : Int)) rfl rfl rfl rfl ?_
          clear H
          intro w3 H
          clear w5
          refine eqI64 (by omega) ?_
          refine Nxt.mk ((k + 1, op'1, last'1, ov'1, vo'1, vl'1, E.set k (-1), ((L.set k (-1)).set k is1).set is1.toNat (↑k : Int))) (mt_i rfl (by first | omega | (simp only; omega) | (simp; omega)) (mt_nil)) ?_ ?_
          · refine ⟨?_, ?_⟩
            · assumption
            refine ⟨?_, ?_⟩
            · exact hM2
            refine H.fronts [5, 5, 4, 4, 4] ?_
            clear H
            intro H
            refine H.drop 5 ?_
            clear H
            intro H
            exact H
          omega
        by_cases h11 : x.op = 11
        · refine cT (vLt_T (by omega)) ?_
          refine bk ?_
          obtain ⟨b1, o1, E1, F1, hok1⟩ := FSl.elt hx hxk
          have hok1_op := hok1.op
          have hok1_a := hok1.a
          have hok1_b := hok1.b
          have hok1_to := hok1.to
          refine rIxE E1 rfl rfl rfl ?_
          refine rLdA (H.fat F1) 0 rfl rfl rfl ?_
          refine rAllocS H rfl ?_
          clear H
          intro p2 w3 H
          clear w_
          refine rStAS H 0 rfl rfl rfl (by simp only [List.all_cons, List.all_nil, H.one 2 rfl, H.one 3 rfl, H.one 4 rfl, H.one 5 rfl, FSl.one hok1_to, FSl.one hx]; rfl) ?_
          clear H
          intro w4 H
          clear w3
          obtain ⟨x1, hx1⟩ : ∃ x, (E)[(k)]? = some x := ⟨_, List.getElem?_eq_getElem (by omega)⟩
          obtain ⟨b2, o2, E2⟩ := H.elt 4 rfl (k) (by omega)
          refine rIxE E2 rfl rfl rfl ?_
          refine rStE H 4 rfl E2 hx1 0 (-1) rfl rfl rfl rfl ?_
          clear H
          intro w3 H
          clear w4
          obtain ⟨x2, hx2⟩ : ∃ x, (L)[(k)]? = some x := ⟨_, List.getElem?_eq_getElem (by omega)⟩
          obtain ⟨b3, o3, E3⟩ := H.elt 5 rfl (k) (by omega)
          refine rIxE E3 rfl rfl rfl ?_
          refine rStE H 5 rfl E3 hx2 0 (-1) rfl rfl rfl rfl ?_
          clear H
          intro w4 H
          clear w3
          refine rLdA (H.at 0 rfl) 0 rfl rfl rfl ?_
          refine H.fronts [3, 3, 3] ?_
          clear H
          intro H
          refine CallP.mk (Fc.imp (Go.Proofs.YtndhikahjmgamaaDoor.Nest.next _ hok H _ _ _ _ _) ?_)
          clear H
          rintro _ w3 ⟨op'1, ⟨last'1, ⟨ov'1, ⟨vo'1, ⟨vl'1, ⟨is1, ⟨e2, ⟨rfl, ⟨h2, H⟩⟩⟩⟩⟩⟩⟩⟩⟩
          rw [h2] at hc2
          simp only at hc2
          subst hc2
          rcases hM.step_end' hmx h2 h11 with ⟨hb1, hM2⟩ | ⟨z, hb1, hb2, hz, hb3, hM2⟩ | ⟨z, hb1, hb2, hz, hb3, hb4, hM2⟩
          refine bk ?_
          refine rFieldAt rfl ?_
          refine rLd (H.at 3 rfl) 0 rfl rfl rfl ?_
          refine cF (vEq_F (by assumption)) ?_
          refine rFieldAt rfl ?_
          refine rLd (H.at 3 rfl) 0 rfl rfl rfl ?_
          refine cT (vEq_T (by assumption)) ?_
          refine rIxE E2 rfl rfl rfl ?_
          have hx3 : (E.set k (-1))[k]? = some _ := setSelf hx1
          refine rStE H 4 rfl E2 hx3 0 (is1) rfl rfl rfl rfl ?_
          clear H
          intro w5 H
          clear w3
          refine cF (vLe_F (by assumption)) ?_
          refine eqI64 (by omega) ?_
          refine Nxt.mk ((k + 1, op'1, last'1, ov'1, vo'1, vl'1, (E.set k (-1)).set k is1, L.set k (-1))) (mt_i rfl (by first | omega | (simp only; omega) | (simp; omega)) (mt_nil)) ?_ ?_
          · refine ⟨?_, ?_⟩
            · assumption
            refine ⟨?_, ?_⟩
            · exact hM2
            refine H.fronts [5, 5, 4, 4, 4] ?_
            clear H
            intro H
            refine H.drop 5 ?_
            clear H
            intro H
            exact H
          · omega
          · refine bk ?_
            refine rFieldAt rfl ?_
            refine rLd (H.at 3 rfl) 0 rfl rfl rfl ?_
            refine cF (vEq_F (by assumption)) ?_
            refine rFieldAt rfl ?_
            refine rLd (H.at 3 rfl) 0 rfl rfl rfl ?_
            refine cT (vEq_T (by assumption)) ?_
            refine rIxE E2 rfl rfl rfl ?_
            have hx3 : (E.set k (-1))[k]? = some _ := setSelf hx1
            refine rStE H 4 rfl E2 hx3 0 (is1) rfl rfl rfl rfl ?_
            clear H
            intro w5 H
            clear w3
            refine cT (vLe_T (by assumption)) ?_
            obtain ⟨x3, hx4⟩ : ∃ x, ((E.set k (-1)).set k is1)[(is1).toNat]? = some x := ⟨_, List.getElem?_eq_getElem (by (simp only [List.length_append, List.length_set, List.length_cons, List.length_nil]; omega))⟩
            obtain ⟨b4, o4, E4⟩ := H.elt 4 rfl (is1).toNat (by (simp only [List.length_append, List.length_set, List.length_cons, List.length_nil]; omega))
            refine rIxE E4 (by omega) rfl rfl ?_
            refine rStE H 4 rfl E4 hx4 0 ((↑k : Int)) rfl rfl rfl rfl ?_
            clear H
            intro w3 H
            clear w5
            obtain ⟨b5, o5, E5⟩ := H.elt 5 rfl (is1).toNat (by (simp only [List.length_append, List.length_set, List.length_cons, List.length_nil]; omega))
            refine rIxE E5 (by omega) rfl rfl ?_
            refine rLd (H.el 5 rfl E5 hz) 0 rfl rfl rfl ?_
            refine cF (vLe_F (by assumption)) ?_
            refine eqI64 (by omega) ?_
            refine Nxt.mk ((k + 1, op'1, last'1, ov'1, vo'1, vl'1, ((E.set k (-1)).set k is1).set is1.toNat (↑k : Int), L.set k (-1))) (mt_i rfl (by first | omega | (simp only; omega) | (simp; omega)) (mt_nil)) ?_ ?_
            · refine ⟨?_, ?_⟩
              · assumption
              refine ⟨?_, ?_⟩
              · exact hM2
              refine H.fronts [5, 5, 4, 4, 4] ?_
              clear H
              intro H
              refine H.drop 5 ?_
              clear H
              intro H
              exact H
            omega
          refine bk ?_
          refine rFieldAt rfl ?_
          refine rLd (H.at 3 rfl) 0 rfl rfl rfl ?_
          refine cF (vEq_F (by assumption)) ?_
          refine rFieldAt rfl ?_
          refine rLd (H.at 3 rfl) 0 rfl rfl rfl ?_
          refine cT (vEq_T (by assumption)) ?_
          refine rIxE E2 rfl rfl rfl ?_
          have hx3 : (E.set k (-1))[k]? = some _ := setSelf hx1
          refine rStE H 4 rfl E2 hx3 0 (is1) rfl rfl rfl rfl ?_
          clear H
          intro w5 H
          clear w3
          refine cT (vLe_T (by assumption)) ?_
          obtain ⟨x3, hx4⟩ : ∃ x, ((E.set k (-1)).set k is1)[(is1).toNat]? = some x := ⟨_, List.getElem?_eq_getElem (by (simp only [List.length_append, List.length_set, List.length_cons, List.length_nil]; omega))⟩
          obtain ⟨b4, o4, E4⟩ := H.elt 4 rfl (is1).toNat (by (simp only [List.length_append, List.length_set, List.length_cons, List.length_nil]; omega))
          refine rIxE E4 (by omega) rfl rfl ?_
          refine rStE H 4 rfl E4 hx4 0 ((↑k : Int)) rfl rfl rfl rfl ?_
          clear H
          intro w3 H
          clear w5
          obtain ⟨b5, o5, E5⟩ := H.elt 5 rfl (is1).toNat (by (simp only [List.length_append, List.length_set, List.length_cons, List.length_nil]; omega))
          refine rIxE E5 (by omega) rfl rfl ?_
          refine rLd (H.el 5 rfl E5 hz) 0 rfl rfl rfl ?_
          refine cT (vLe_T (by assumption)) ?_
          obtain ⟨x4, hx5⟩ : ∃ x, (((E.set k (-1)).set k is1).set is1.toNat (↑k : Int))[(z).toNat]? = some x := ⟨_, List.getElem?_eq_getElem (by (simp only [List.length_append, List.length_set, List.length_cons, List.length_nil]; omega))⟩
          obtain ⟨b6, o6, E6⟩ := H.elt 4 rfl (z).toNat (by (simp only [List.length_append, List.length_set, List.length_cons, List.length_nil]; omega))
          refine rIxE E6 (by omega) rfl rfl ?_
          refine rStE H 4 rfl E6 hx5 0 ((↑k : Int)) rfl rfl rfl rfl ?_
          clear H
          intro w5 H
          clear w3
          refine eqI64 (by omega) ?_
          refine Nxt.mk ((k + 1, op'1, last'1, ov'1, vo'1, vl'1, (((E.set k (-1)).set k is1).set is1.toNat (↑k : Int)).set z.toNat (↑k : Int), L.set k (-1))) (mt_i rfl (by first | omega | (simp only; omega) | (simp; omega)) (mt_nil)) ?_ ?_
          · refine ⟨?_, ?_⟩
            · assumption
            refine ⟨?_, ?_⟩
            · exact hM2
            refine H.fronts [5, 5, 4, 4, 4] ?_
            clear H
            intro H
            refine H.drop 5 ?_
            clear H
            intro H
            exact H
          omega
        · refine cT (vLt_T (by omega)) ?_
          refine bk ?_
          obtain ⟨b1, o1, E1, F1, hok1⟩ := FSl.elt hx hxk
          have hok1_op := hok1.op
          have hok1_a := hok1.a
          have hok1_b := hok1.b
          have hok1_to := hok1.to
          refine rIxE E1 rfl rfl rfl ?_
          refine rLdA (H.fat F1) 0 rfl rfl rfl ?_
          refine rAllocS H rfl ?_
          clear H
          intro p2 w3 H
          clear w_
          refine rStAS H 0 rfl rfl rfl (by simp only [List.all_cons, List.all_nil, H.one 2 rfl, H.one 3 rfl, H.one 4 rfl, H.one 5 rfl, FSl.one hok1_to, FSl.one hx]; rfl) ?_
          clear H
          intro w4 H
          clear w3
          obtain ⟨x1, hx1⟩ : ∃ x, (E)[(k)]? = some x := ⟨_, List.getElem?_eq_getElem (by omega)⟩
          obtain ⟨b2, o2, E2⟩ := H.elt 4 rfl (k) (by omega)
          refine rIxE E2 rfl rfl rfl ?_
          refine rStE H 4 rfl E2 hx1 0 (-1) rfl rfl rfl rfl ?_
          clear H
          intro w3 H
          clear w4
          obtain ⟨x2, hx2⟩ : ∃ x, (L)[(k)]? = some x := ⟨_, List.getElem?_eq_getElem (by omega)⟩
          obtain ⟨b3, o3, E3⟩ := H.elt 5 rfl (k) (by omega)
          refine rIxE E3 rfl rfl rfl ?_
          refine rStE H 5 rfl E3 hx2 0 (-1) rfl rfl rfl rfl ?_
          clear H
          intro w4 H
          clear w3
          refine rLdA (H.at 0 rfl) 0 rfl rfl rfl ?_
          refine H.fronts [3, 3, 3] ?_
          clear H
          intro H
          refine CallP.mk (Fc.imp (Go.Proofs.YtndhikahjmgamaaDoor.Nest.next _ hok H _ _ _ _ _) ?_)
          clear H
          rintro _ w3 ⟨op'1, ⟨last'1, ⟨ov'1, ⟨vo'1, ⟨vl'1, ⟨is1, ⟨e2, ⟨rfl, ⟨h2, H⟩⟩⟩⟩⟩⟩⟩⟩⟩
          rw [h2] at hc2
          simp only at hc2
          subst hc2
          refine bk ?_
          refine rFieldAt rfl ?_
          refine rLd (H.at 3 rfl) 0 rfl rfl rfl ?_
          refine cF (vEq_F (by assumption)) ?_
          refine rFieldAt rfl ?_
          refine rLd (H.at 3 rfl) 0 rfl rfl rfl ?_
          refine cF (vEq_F (by assumption)) ?_
          refine eqI64 (by omega) ?_
          refine Nxt.mk ((k + 1, op'1, last'1, ov'1, vo'1, vl'1, E.set k (-1), L.set k (-1))) (mt_i rfl (by first | omega | (simp only; omega) | (simp; omega)) (mt_nil)) ?_ ?_
          · refine ⟨?_, ?_⟩
            · assumption
            refine ⟨?_, ?_⟩
            · exact hM.step_o hmx h2 h5 h11
            refine H.fronts [5, 5, 4, 4, 4] ?_
            clear H
            intro H
            refine H.drop 5 ?_
            clear H
            intro H
            exact H
          omega
      · obtain rfl : k = xs.length := by omega
        rw [← hM.cur] at hov
        have hov : ov = true := hov
        subst hov
        refine cF (vLt_F (by omega)) ?_
        refine Done.mk ?_
        refine ⟨ue, ul, E, L, 0, ?_⟩
        refine ⟨?_, ?_⟩
        · rfl
        refine ⟨?_, ?_⟩
        · omega
        refine ⟨?_, ?_⟩
        · exact .inr ⟨rfl, _, _, hM⟩
        refine H.fronts [4, 4] ?_
        clear H
        intro H
        refine H.drop 4 ?_
        clear H
        intro H
        refine H.drop 3 ?_
        clear H
        intro H
        refine H.drop 2 ?_
        clear H
        intro H
        exact H
  · refine CallP.mk (Fc.imp (Go.Proofs.YtndhikahjmgamaaDoor.Nest.check H _ _ hx) ?_)
    clear H
    rintro _ w1 ⟨⟨e1, ⟨rfl, h1⟩⟩, H⟩
    refine cT (vNe_T (by omega)) ?_
    refine Done.mk ?_
    exact ⟨.slice none 0 0, .slice none 0 0, [], [], _, rfl, h1, .inl ⟨by rw [h1]; exact hc, rfl, rfl⟩, (H.sl0 (en := enI) (s := 1) 3 (fun _ => rfl)).sl0 (en := enI) (s := 1) 3 (fun _ => rfl)⟩
end
end Go.Proofs.YtndhikahjmgamaaDoor.Nest
