/- The law NestPairs. -/
import Derived.Test.YtpobebafdecgaaaNestM
set_option maxRecDepth 100000
set_option maxHeartbeats 4000000
set_option linter.unusedVariables false
set_option linter.unusedSimpArgs false
namespace Go.Proofs.Ytpobebafdecgaaa.Nest
open Go Go.Proofs.Ytpobebafdecgaaa.Eng Go.RowKit
open Ins
theorem chk_end : chkB [⟨11, 0, 0, []⟩] = 0 := by decide
theorem chk_nil : chkB [] = 3 := by decide
/-- What Match tells of a place. -/
theorem MI.at {l : List InsD} {E L : List Int} {op last : List Int} (h : MI l l.length ⟨op, last, true⟩ E L) (hl : l ≠ []) {i : Nat} (hi : i < l.length) (ho : opn l i) : ∃ e : Nat, E[i]? = some (e : Int) ∧ i < e ∧ e < l.length ∧ oo l e = 11 ∧ E[e]? = some (i : Int) ∧ (L[i]? = some (-1) ∨ ∃ h : Nat, L[i]? = some (h : Int) ∧ i < h ∧ h < e ∧ oo l i = 4 ∧ oo l h = 5 ∧ L[h]? = some (i : Int) ∧ E[h]? = some (e : Int)) := by
  have hop := h.done hl
  subst hop
  have ge : ∀ {l' : List Int} {k : Nat} {v : Int}, k < l'.length → gd l' k = v → l'[k]? = some v := fun {l' k v} hk hg => by
    rw [List.getElem?_eq_getElem hk, ← hg]; unfold gd; rw [List.getD_eq_getElem?_getD, List.getElem?_eq_getElem hk]; rfl
  obtain ⟨e, a1, a2, a3, a4, a5, a6, _⟩ := h.closed i hi ho (by simp)
  have h1 := h.eL
  have h2 := h.lL
  refine ⟨e, ge (by omega) a1, a2, a3, a4, ge (by omega) a5, ?_⟩
  rcases a6 with r | ⟨q, b1, b2, b3, b4, b5, b6, b7⟩
  · exact .inl (ge (by omega) r)
  · exact .inr ⟨q, ge (by omega) b1, b2, b3, b4, b5, ge (by omega) b6, ge (by omega) b7⟩
theorem MI.two {l : List InsD} {E L : List Int} {op last : List Int} (h : MI l l.length ⟨op, last, true⟩ E L) (hl : l ≠ []) {i j : Nat} {x y : Int} (hij : i < j) (hj : j < l.length) (oi : opn l i) (oj : opn l j) (hx : E[i]? = some x) (hy : E[j]? = some y) : y < x ∨ x < j := by
  have hop := h.done hl
  subst hop
  have := h.pair i j hij hj oi oj (by simp) (by simp)
  rw [gd_of hx, gd_of hy] at this
  exact this
theorem nestPairs (w : World) (v : Value) (xs : List InsV) (i j : Int) (hx : FSl (froz w) enV (okV (froz w)) 4 v xs) (hi : I64 i) (hj : I64 j) : Fc Try.prog 4 #[v, .int .i64 i, .int .i64 j] w (fun v w' => v = .bool true ∧ Below w.heap.size w w') := by
  refine Fc.of Try.func4 rfl (by kernel_rfl) ?_
  have H := Sat.start w
  have E := Ext.refl (froz w)
  have hml : (xs.map InsV.d).length = xs.length := List.length_map ..
  obtain ⟨a1, c1, rfl⟩ := FSl.form hx
  refine rBoxS H ?_
  clear H
  intro p1 w1 H
  refine rLd (H.at 0 rfl) 0 rfl rfl rfl ?_
  refine CallP.mk (Fc.imp (Go.Proofs.Ytpobebafdecgaaa.Nest.match_ H _ _ hx) ?_)
  clear H
  rintro _ w2 ⟨u11, ⟨u21, ⟨E1, ⟨L1, ⟨e1, ⟨rfl, ⟨h1, ⟨(⟨h2, ⟨h3, h4⟩⟩ | ⟨h5, ⟨op1, ⟨last1, h6⟩⟩⟩), H⟩⟩⟩⟩⟩⟩⟩⟩
  focus
    refine rBuild rfl rfl rfl ?_
    refine rBuildSliceS H rfl rfl rfl rfl ?_
    clear H
    intro p2 w3 H
    clear w2
  rotate_left 1
  focus
    refine rBuild rfl rfl rfl ?_
    refine rBuildSliceS H rfl rfl rfl rfl ?_
    clear H
    intro p2 w3 H
    clear w2
  rotate_left 1
  · subst h3
    subst h4
    refine H.ptSl (n := 1) (en := enV) (s := 4) 0 rfl [⟨11, 0, 0, .slice none 0 0, []⟩] rfl rfl (fun _ => rfl) rfl ?_
    clear H
    intro H
    refine H.frz1 0 (okV (froz w)) rfl (fun y hy => by rw [List.mem_singleton.1 hy]; exact ⟨by decide, by decide, by decide, FSl.nil0 _ _ _ _⟩) ?_
    intro g1 HE hf
    clear H
    intro H
    replace hf := FSl.okm hf (fun y _ h => h.ext HE)
    replace hx := FSl.extN (ok := Go.Proofs.Ytpobebafdecgaaa.Ins.okV) (fun _ _ _ h E => Go.Proofs.Ytpobebafdecgaaa.Ins.okV.ext h E) hx HE
    replace E := E.trans HE
    clear HE
    refine CallP.mk (Fc.imp (Go.Proofs.Ytpobebafdecgaaa.Nest.check H _ _ hf) ?_)
    clear H
    rintro _ w2 ⟨⟨e2, ⟨rfl, h3⟩⟩, H⟩
    refine br_f (vNe_F (by assumption)) ?_
    refine CallP.mk (Fc.imp (Go.Proofs.Ytpobebafdecgaaa.Nest.check H _ _ (SlR.nil _ _ _)) ?_)
    clear H
    rintro _ w4 ⟨⟨e3, ⟨rfl, h4⟩⟩, H⟩
    refine cF (vNe_F (by assumption)) ?_
    refine cT (vNe_T (by assumption)) ?_
    refine rLenS H 0 rfl rfl ?_
    refine rLenS H 1 rfl rfl ?_
    refine eqI64 (by simp only [List.length_append, List.length_set, List.length_cons, List.length_nil]; omega) ?_
    refine Done.mk ?_
    refine ⟨?_, ?_⟩
    · exact congrArg Value.bool (vEq_T (by (simp only [List.length_append, List.length_set, List.length_cons, List.length_nil]; omega)))
    exact E.fin H
  · have hne := chkB_ne (h1.symm.trans h5)
    have hle := (chkB_ok (h1.symm.trans h5)).1
    rw [hml] at hle
    have hel := h6.eL
    have hll := h6.lL
    rw [hml] at hel hll
    have hxl : 0 < xs.length := by rw [← hml]; exact List.length_pos_iff.2 hne
    rw [← hml] at h6
    refine H.ptSl (n := 1) (en := enV) (s := 4) 0 rfl [⟨11, 0, 0, .slice none 0 0, []⟩] rfl rfl (fun _ => rfl) rfl ?_
    clear H
    intro H
    refine H.frz1 0 (okV (froz w)) rfl (fun y hy => by rw [List.mem_singleton.1 hy]; exact ⟨by decide, by decide, by decide, FSl.nil0 _ _ _ _⟩) ?_
    intro g1 HE hf
    clear H
    intro H
    replace hf := FSl.okm hf (fun y _ h => h.ext HE)
    have m1 := Int.emod_nonneg i (b := (xs.length : Int)) (by omega)
    have m2 := Int.emod_lt_of_pos i (b := (xs.length : Int)) (by omega)
    have m3 := Int.emod_nonneg j (b := (xs.length : Int)) (by omega)
    have m4 := Int.emod_lt_of_pos j (b := (xs.length : Int)) (by omega)
    by_cases oi : opn (xs.map InsV.d) (i % (xs.length : Int)).toNat
    · obtain ⟨e, f1, f2, f3, f4, f5, f6⟩ := h6.at hne (by rw [hml]; omega) oi
      rw [hml] at f3
      obtain ⟨xe, hxe⟩ : ∃ x, xs[e]? = some x := ⟨_, List.getElem?_eq_getElem f3⟩
      rw [oo_map hxe] at f4
      have two := fun (q1 : (i % (xs.length : Int)).toNat < (j % (xs.length : Int)).toNat) (q2 : opn (xs.map InsV.d) (j % (xs.length : Int)).toNat) (y : Int) (q3 : E1[(j % (xs.length : Int)).toNat]? = some y) => h6.two hne q1 (by rw [hml]; omega) oi q2 f1 q3
      rcases f6 with f6 | ⟨q, f6, f7, f8, f9, f10, f11, f12⟩
      · replace hx := FSl.extN (ok := Go.Proofs.Ytpobebafdecgaaa.Ins.okV) (fun _ _ _ h E => Go.Proofs.Ytpobebafdecgaaa.Ins.okV.ext h E) hx HE
        replace E := E.trans HE
        clear HE
        refine CallP.mk (Fc.imp (Go.Proofs.Ytpobebafdecgaaa.Nest.check H _ _ hf) ?_)
        clear H
        rintro _ w2 ⟨⟨e2, ⟨rfl, h2⟩⟩, H⟩
        refine br_f (vNe_F (by assumption)) ?_
        refine CallP.mk (Fc.imp (Go.Proofs.Ytpobebafdecgaaa.Nest.check H _ _ (SlR.nil _ _ _)) ?_)
        clear H
        rintro _ w4 ⟨⟨e3, ⟨rfl, h3⟩⟩, H⟩
        refine cF (vNe_F (by assumption)) ?_
        refine cF (vNe_F (by assumption)) ?_
        refine rLenS H 0 rfl rfl ?_
        refine rLd (H.at 2 rfl) 0 rfl rfl rfl ?_
        refine rLenSl rfl ?_
        refine br_f (vNe_F (by omega)) ?_
        refine rLenS H 1 rfl rfl ?_
        refine rLd (H.at 2 rfl) 0 rfl rfl rfl ?_
        refine rLenSl rfl ?_
        refine cF (vNe_F (by omega)) ?_
        refine drawzS H [] [(0, .pure), (1, .held), (2, .pure), (4, .pure), (5, .held), (6, .pure), (3, .forced), (7, .free), (8, .pure), (9, .pure)] mixed (by kernel_rfl) (by kernel_rfl) ?_
        clear H
        intro w5 H
        clear w4
        refine tk (fun wx HS => rLd (HS.at 2 rfl) 0 rfl rfl rfl ⟨rfl, rfl⟩) ?_
        refine tk (fun wx HS => rLenSl rfl ⟨rfl, rfl⟩) ?_
        refine tk (fun wx HS => rLd (HS.at 2 rfl) 0 rfl rfl rfl ⟨rfl, rfl⟩) ?_
        refine tk (fun wx HS => rLenSl rfl ⟨rfl, rfl⟩) ?_
        refine CallP.mk (Fc.imp (Go.Proofs.Ytpobebafdecgaaa.Ref.rest _ _ ?_ ?_ _) ?_)
        · assumption
        · omega
        rintro _ _ ⟨rfl, rfl⟩
        refine KeepP.mk (H) ?_
        refine CallP.mk (Fc.imp (Go.Proofs.Ytpobebafdecgaaa.Ref.rest _ _ ?_ ?_ _) ?_)
        · assumption
        · omega
        rintro _ _ ⟨rfl, rfl⟩
        refine H.fronts [2] ?_
        clear H
        intro H
        refine CallP.mk (Fc.imp (Go.Proofs.Ytpobebafdecgaaa.Nest.opens_ H hx ((i % (↑xs.length : Int)).toNat) _ ?_ ?_) ?_)
        · omega
        · omega
        clear H
        rintro _ w4 ⟨⟨b1, ⟨rfl, h4⟩⟩, H⟩
        refine cT (h4.2 (by assumption)) ?_
        obtain ⟨b2, o1, E2⟩ := H.elt 1 rfl (i % (↑xs.length : Int)).toNat (by omega)
        refine rIxE E2 (by omega) rfl rfl ?_
        refine rLd (H.el 1 rfl E2 f1) 0 rfl rfl rfl ?_
        refine br_f (vLe_F (by omega)) ?_
        refine rLd (H.at 0 rfl) 0 rfl rfl rfl ?_
        refine rLenSl rfl ?_
        refine br_f (vLe_F (by omega)) ?_
        refine rLd (H.at 0 rfl) 0 rfl rfl rfl ?_
        obtain ⟨b3, o2, E3, F1, hok1⟩ := FSl.elt hx hxe
        have hok1_op := hok1.op
        have hok1_a := hok1.a
        have hok1_b := hok1.b
        have hok1_to := hok1.to
        refine rIxE E3 rfl rfl rfl ?_
        refine rFieldAt rfl ?_
        refine rLd (H.fat F1) 0 rfl rfl rfl ?_
        refine br_f (vNe_F (by assumption)) ?_
        obtain ⟨b4, o3, E4⟩ := H.elt 1 rfl (e) (by omega)
        refine rIxE E4 rfl rfl rfl ?_
        refine rLd (H.el 1 rfl E4 f5) 0 rfl rfl rfl ?_
        refine cF (vNe_F (by omega)) ?_
        obtain ⟨b5, o4, E5⟩ := H.elt 2 rfl (i % (↑xs.length : Int)).toNat (by omega)
        refine rIxE E5 (by omega) rfl rfl ?_
        refine rLd (H.el 2 rfl E5 f6) 0 rfl rfl rfl ?_
        refine br_f (vLe_F (by omega)) ?_
        refine cF rfl ?_
        refine CallP.mk (Fc.imp (Go.Proofs.Ytpobebafdecgaaa.Nest.opens_ H hx ((i % (↑xs.length : Int)).toNat) _ ?_ ?_) ?_)
        · omega
        · omega
        clear H
        rintro _ w6 ⟨⟨b6, ⟨rfl, h7⟩⟩, H⟩
        refine br_t (h7.2 (by assumption)) ?_
        refine CallP.mk (Fc.imp (Go.Proofs.Ytpobebafdecgaaa.Nest.opens_ H hx ((j % (↑xs.length : Int)).toNat) _ ?_ ?_) ?_)
        · omega
        · omega
        clear H
        rintro _ w7 ⟨⟨b7, ⟨rfl, h8⟩⟩, H⟩
        refine br (fun c2 => ?_) (fun c2 => ?_)
        · replace c2 := h8.1 (c2)
          refine cI (fun c3 => ?_) (fun c3 => ?_)
          · replace c3 := vLt_t (c3)
            refine drawzS H [] [(0, .pure), (1, .pure), (2, .pure), (3, .held), (4, .pure), (5, .pure), (6, .pure), (7, .held), (8, .pure), (9, .pure), (10, .pure), (11, .pure), (12, .pure), (13, .held), (14, .pure), (15, .pure), (16, .pure), (17, .pure)] mixed (by kernel_rfl) (by kernel_rfl) ?_
            clear H
            intro w8 H
            clear w7
            obtain ⟨x1, hx1⟩ : ∃ x, (E1)[(j % (↑xs.length : Int)).toNat]? = some x := ⟨_, List.getElem?_eq_getElem (by omega)⟩
            obtain ⟨b8, o5, E6⟩ := H.elt 1 rfl (j % (↑xs.length : Int)).toNat (by omega)
            refine tk (fun wx HS => rIxE E6 (by omega) rfl rfl ⟨rfl, rfl⟩) ?_
            refine tk (fun wx HS => rLd (HS.el 1 rfl E6 hx1) 0 rfl rfl rfl ⟨rfl, rfl⟩) ?_
            refine tk (fun wx HS => rIxE E2 (by omega) rfl rfl ⟨rfl, rfl⟩) ?_
            refine tk (fun wx HS => rLd (HS.el 1 rfl E2 f1) 0 rfl rfl rfl ⟨rfl, rfl⟩) ?_
            refine br (fun c4 => ?_) (fun c4 => ?_)
            · replace c4 := vLt_t (c4)
              refine Done.mk ?_
              refine ⟨?_, ?_⟩
              · exact congrArg Value.bool (rfl)
              exact E.fin H
            replace c4 := vLt_f (c4)
            refine tk (fun wx HS => rIxE E2 (by omega) rfl rfl ⟨rfl, rfl⟩) ?_
            refine tk (fun wx HS => rLd (HS.el 1 rfl E2 f1) 0 rfl rfl rfl ⟨rfl, rfl⟩) ?_
            refine Done.mk ?_
            refine ⟨?_, ?_⟩
            · exact congrArg Value.bool (vLt_T (by have := two (by omega) c2 _ hx1; omega))
            exact E.fin H
          replace c3 := vLt_f (c3)
          refine Done.mk ?_
          refine ⟨?_, ?_⟩
          · exact congrArg Value.bool (rfl)
          exact E.fin H
        replace c2 := iff_f h8 (c2)
        refine cF rfl ?_
        refine Done.mk ?_
        refine ⟨?_, ?_⟩
        · exact congrArg Value.bool (rfl)
        exact E.fin H
      · obtain ⟨xi, hxi⟩ : ∃ x, xs[(i % (xs.length : Int)).toNat]? = some x := ⟨_, List.getElem?_eq_getElem (by omega)⟩
        obtain ⟨xq, hxq⟩ : ∃ x, xs[q]? = some x := ⟨_, List.getElem?_eq_getElem (by omega)⟩
        rw [oo_map hxi] at f9
        rw [oo_map hxq] at f10
        replace hx := FSl.extN (ok := Go.Proofs.Ytpobebafdecgaaa.Ins.okV) (fun _ _ _ h E => Go.Proofs.Ytpobebafdecgaaa.Ins.okV.ext h E) hx HE
        replace E := E.trans HE
        clear HE
        refine CallP.mk (Fc.imp (Go.Proofs.Ytpobebafdecgaaa.Nest.check H _ _ hf) ?_)
        clear H
        rintro _ w2 ⟨⟨e2, ⟨rfl, h2⟩⟩, H⟩
        refine br_f (vNe_F (by assumption)) ?_
        refine CallP.mk (Fc.imp (Go.Proofs.Ytpobebafdecgaaa.Nest.check H _ _ (SlR.nil _ _ _)) ?_)
        clear H
        rintro _ w4 ⟨⟨e3, ⟨rfl, h3⟩⟩, H⟩
        refine cF (vNe_F (by assumption)) ?_
        refine cF (vNe_F (by assumption)) ?_
        refine rLenS H 0 rfl rfl ?_
        refine rLd (H.at 2 rfl) 0 rfl rfl rfl ?_
        refine rLenSl rfl ?_
        refine br_f (vNe_F (by omega)) ?_
        refine rLenS H 1 rfl rfl ?_
        refine rLd (H.at 2 rfl) 0 rfl rfl rfl ?_
        refine rLenSl rfl ?_
        refine cF (vNe_F (by omega)) ?_
        refine drawzS H [] [(0, .pure), (1, .held), (2, .pure), (4, .pure), (5, .held), (6, .pure), (3, .forced), (7, .free), (8, .pure), (9, .pure)] mixed (by kernel_rfl) (by kernel_rfl) ?_
        clear H
        intro w5 H
        clear w4
        refine tk (fun wx HS => rLd (HS.at 2 rfl) 0 rfl rfl rfl ⟨rfl, rfl⟩) ?_
        refine tk (fun wx HS => rLenSl rfl ⟨rfl, rfl⟩) ?_
        refine tk (fun wx HS => rLd (HS.at 2 rfl) 0 rfl rfl rfl ⟨rfl, rfl⟩) ?_
        refine tk (fun wx HS => rLenSl rfl ⟨rfl, rfl⟩) ?_
        refine CallP.mk (Fc.imp (Go.Proofs.Ytpobebafdecgaaa.Ref.rest _ _ ?_ ?_ _) ?_)
        · assumption
        · omega
        rintro _ _ ⟨rfl, rfl⟩
        refine KeepP.mk (H) ?_
        refine CallP.mk (Fc.imp (Go.Proofs.Ytpobebafdecgaaa.Ref.rest _ _ ?_ ?_ _) ?_)
        · assumption
        · omega
        rintro _ _ ⟨rfl, rfl⟩
        refine H.fronts [2] ?_
        clear H
        intro H
        refine CallP.mk (Fc.imp (Go.Proofs.Ytpobebafdecgaaa.Nest.opens_ H hx ((i % (↑xs.length : Int)).toNat) _ ?_ ?_) ?_)
        · omega
        · omega
        clear H
        rintro _ w4 ⟨⟨b1, ⟨rfl, h4⟩⟩, H⟩
        refine cT (h4.2 (by assumption)) ?_
        obtain ⟨b2, o1, E2⟩ := H.elt 1 rfl (i % (↑xs.length : Int)).toNat (by omega)
        refine rIxE E2 (by omega) rfl rfl ?_
        refine rLd (H.el 1 rfl E2 f1) 0 rfl rfl rfl ?_
        refine br_f (vLe_F (by omega)) ?_
        refine rLd (H.at 0 rfl) 0 rfl rfl rfl ?_
        refine rLenSl rfl ?_
        refine br_f (vLe_F (by omega)) ?_
        refine rLd (H.at 0 rfl) 0 rfl rfl rfl ?_
        obtain ⟨b3, o2, E3, F1, hok1⟩ := FSl.elt hx hxe
        have hok1_op := hok1.op
        have hok1_a := hok1.a
        have hok1_b := hok1.b
        have hok1_to := hok1.to
        refine rIxE E3 rfl rfl rfl ?_
        refine rFieldAt rfl ?_
        refine rLd (H.fat F1) 0 rfl rfl rfl ?_
        refine br_f (vNe_F (by assumption)) ?_
        obtain ⟨b4, o3, E4⟩ := H.elt 1 rfl (e) (by omega)
        refine rIxE E4 rfl rfl rfl ?_
        refine rLd (H.el 1 rfl E4 f5) 0 rfl rfl rfl ?_
        refine cF (vNe_F (by omega)) ?_
        obtain ⟨b5, o4, E5⟩ := H.elt 2 rfl (i % (↑xs.length : Int)).toNat (by omega)
        refine rIxE E5 (by omega) rfl rfl ?_
        refine rLd (H.el 2 rfl E5 f6) 0 rfl rfl rfl ?_
        refine br_t (vLe_T (by omega)) ?_
        refine br_f (vLe_F (by omega)) ?_
        refine br_f (vLe_F (by omega)) ?_
        refine rLd (H.at 0 rfl) 0 rfl rfl rfl ?_
        obtain ⟨b6, o5, E6, F2, hok2⟩ := FSl.elt hx hxi
        have hok2_op := hok2.op
        have hok2_a := hok2.a
        have hok2_b := hok2.b
        have hok2_to := hok2.to
        refine rIxE E6 (by omega) rfl rfl ?_
        refine rFieldAt rfl ?_
        refine rLd (H.fat F2) 0 rfl rfl rfl ?_
        refine br_f (vNe_F (by assumption)) ?_
        refine rLd (H.at 0 rfl) 0 rfl rfl rfl ?_
        obtain ⟨b7, o6, E7, F3, hok3⟩ := FSl.elt hx hxq
        have hok3_op := hok3.op
        have hok3_a := hok3.a
        have hok3_b := hok3.b
        have hok3_to := hok3.to
        refine rIxE E7 rfl rfl rfl ?_
        refine rFieldAt rfl ?_
        refine rLd (H.fat F3) 0 rfl rfl rfl ?_
        refine br_f (vNe_F (by assumption)) ?_
        obtain ⟨b8, o7, E8⟩ := H.elt 2 rfl (q) (by omega)
        refine rIxE E8 rfl rfl rfl ?_
        refine rLd (H.el 2 rfl E8 f11) 0 rfl rfl rfl ?_
        refine br_f (vNe_F (by omega)) ?_
        obtain ⟨b9, o8, E9⟩ := H.elt 1 rfl (q) (by omega)
        refine rIxE E9 rfl rfl rfl ?_
        refine rLd (H.el 1 rfl E9 f12) 0 rfl rfl rfl ?_
        refine cF (vNe_F (by omega)) ?_
        refine CallP.mk (Fc.imp (Go.Proofs.Ytpobebafdecgaaa.Nest.opens_ H hx ((i % (↑xs.length : Int)).toNat) _ ?_ ?_) ?_)
        · omega
        · omega
        clear H
        rintro _ w6 ⟨⟨b10, ⟨rfl, h7⟩⟩, H⟩
        refine br_t (h7.2 (by assumption)) ?_
        refine CallP.mk (Fc.imp (Go.Proofs.Ytpobebafdecgaaa.Nest.opens_ H hx ((j % (↑xs.length : Int)).toNat) _ ?_ ?_) ?_)
        · omega
        · omega
        clear H
        rintro _ w7 ⟨⟨b11, ⟨rfl, h8⟩⟩, H⟩
        refine br (fun c2 => ?_) (fun c2 => ?_)
        · replace c2 := h8.1 (c2)
          refine cI (fun c3 => ?_) (fun c3 => ?_)
          · replace c3 := vLt_t (c3)
            refine drawzS H [] [(0, .pure), (1, .pure), (2, .pure), (3, .held), (4, .pure), (5, .pure), (6, .pure), (7, .held), (8, .pure), (9, .pure), (10, .pure), (11, .pure), (12, .pure), (13, .held), (14, .pure), (15, .pure), (16, .pure), (17, .pure)] mixed (by kernel_rfl) (by kernel_rfl) ?_
            clear H
            intro w8 H
            clear w7
            obtain ⟨x1, hx1⟩ : ∃ x, (E1)[(j % (↑xs.length : Int)).toNat]? = some x := ⟨_, List.getElem?_eq_getElem (by omega)⟩
            obtain ⟨b12, o9, E10⟩ := H.elt 1 rfl (j % (↑xs.length : Int)).toNat (by omega)
            refine tk (fun wx HS => rIxE E10 (by omega) rfl rfl ⟨rfl, rfl⟩) ?_
            refine tk (fun wx HS => rLd (HS.el 1 rfl E10 hx1) 0 rfl rfl rfl ⟨rfl, rfl⟩) ?_
            refine tk (fun wx HS => rIxE E2 (by omega) rfl rfl ⟨rfl, rfl⟩) ?_
            refine tk (fun wx HS => rLd (HS.el 1 rfl E2 f1) 0 rfl rfl rfl ⟨rfl, rfl⟩) ?_
            refine br (fun c4 => ?_) (fun c4 => ?_)
            · replace c4 := vLt_t (c4)
              refine Done.mk ?_
              refine ⟨?_, ?_⟩
              · exact congrArg Value.bool (rfl)
              exact E.fin H
            replace c4 := vLt_f (c4)
            refine tk (fun wx HS => rIxE E2 (by omega) rfl rfl ⟨rfl, rfl⟩) ?_
            refine tk (fun wx HS => rLd (HS.el 1 rfl E2 f1) 0 rfl rfl rfl ⟨rfl, rfl⟩) ?_
            refine Done.mk ?_
            refine ⟨?_, ?_⟩
            · exact congrArg Value.bool (vLt_T (by have := two (by omega) c2 _ hx1; omega))
            exact E.fin H
          replace c3 := vLt_f (c3)
          refine Done.mk ?_
          refine ⟨?_, ?_⟩
          · exact congrArg Value.bool (rfl)
          exact E.fin H
        replace c2 := iff_f h8 (c2)
        refine cF rfl ?_
        refine Done.mk ?_
        refine ⟨?_, ?_⟩
        · exact congrArg Value.bool (rfl)
        exact E.fin H
    · replace hx := FSl.extN (ok := Go.Proofs.Ytpobebafdecgaaa.Ins.okV) (fun _ _ _ h E => Go.Proofs.Ytpobebafdecgaaa.Ins.okV.ext h E) hx HE
      replace E := E.trans HE
      clear HE
      refine CallP.mk (Fc.imp (Go.Proofs.Ytpobebafdecgaaa.Nest.check H _ _ hf) ?_)
      clear H
      rintro _ w2 ⟨⟨e2, ⟨rfl, h2⟩⟩, H⟩
      refine br_f (vNe_F (by assumption)) ?_
      refine CallP.mk (Fc.imp (Go.Proofs.Ytpobebafdecgaaa.Nest.check H _ _ (SlR.nil _ _ _)) ?_)
      clear H
      rintro _ w4 ⟨⟨e3, ⟨rfl, h3⟩⟩, H⟩
      refine cF (vNe_F (by assumption)) ?_
      refine cF (vNe_F (by assumption)) ?_
      refine rLenS H 0 rfl rfl ?_
      refine rLd (H.at 2 rfl) 0 rfl rfl rfl ?_
      refine rLenSl rfl ?_
      refine br_f (vNe_F (by omega)) ?_
      refine rLenS H 1 rfl rfl ?_
      refine rLd (H.at 2 rfl) 0 rfl rfl rfl ?_
      refine rLenSl rfl ?_
      refine cF (vNe_F (by omega)) ?_
      refine drawzS H [] [(0, .pure), (1, .held), (2, .pure), (4, .pure), (5, .held), (6, .pure), (3, .forced), (7, .free), (8, .pure), (9, .pure)] mixed (by kernel_rfl) (by kernel_rfl) ?_
      clear H
      intro w5 H
      clear w4
      refine tk (fun wx HS => rLd (HS.at 2 rfl) 0 rfl rfl rfl ⟨rfl, rfl⟩) ?_
      refine tk (fun wx HS => rLenSl rfl ⟨rfl, rfl⟩) ?_
      refine tk (fun wx HS => rLd (HS.at 2 rfl) 0 rfl rfl rfl ⟨rfl, rfl⟩) ?_
      refine tk (fun wx HS => rLenSl rfl ⟨rfl, rfl⟩) ?_
      refine CallP.mk (Fc.imp (Go.Proofs.Ytpobebafdecgaaa.Ref.rest _ _ ?_ ?_ _) ?_)
      · assumption
      · omega
      rintro _ _ ⟨rfl, rfl⟩
      refine KeepP.mk (H) ?_
      refine CallP.mk (Fc.imp (Go.Proofs.Ytpobebafdecgaaa.Ref.rest _ _ ?_ ?_ _) ?_)
      · assumption
      · omega
      rintro _ _ ⟨rfl, rfl⟩
      refine H.fronts [2] ?_
      clear H
      intro H
      refine CallP.mk (Fc.imp (Go.Proofs.Ytpobebafdecgaaa.Nest.opens_ H hx ((i % (↑xs.length : Int)).toNat) _ ?_ ?_) ?_)
      · omega
      · omega
      clear H
      rintro _ w4 ⟨⟨b1, ⟨rfl, h4⟩⟩, H⟩
      refine cF (iff_F h4 (by assumption)) ?_
      refine CallP.mk (Fc.imp (Go.Proofs.Ytpobebafdecgaaa.Nest.opens_ H hx ((i % (↑xs.length : Int)).toNat) _ ?_ ?_) ?_)
      · omega
      · omega
      clear H
      rintro _ w6 ⟨⟨b2, ⟨rfl, h7⟩⟩, H⟩
      refine br_f (iff_F h7 (by assumption)) ?_
      refine cF rfl ?_
      refine Done.mk ?_
      refine ⟨?_, ?_⟩
      · exact congrArg Value.bool (rfl)
      exact E.fin H
end Go.Proofs.Ytpobebafdecgaaa.Nest
