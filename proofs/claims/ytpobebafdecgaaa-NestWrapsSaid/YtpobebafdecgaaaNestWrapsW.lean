/- The law NestWraps. -/
import Derived.Test.YtpobebafdecgaaaNestO
set_option maxRecDepth 100000
set_option maxHeartbeats 4000000
set_option linter.unusedVariables false
set_option linter.unusedSimpArgs false
namespace Go.Proofs.Ytpobebafdecgaaa.Nest
open Go Go.Proofs.Ytpobebafdecgaaa.Eng Go.RowKit
open Ins
theorem Parts.uniq {l rest : List InsD} {ns : List Nd} (h : Parts l ns rest) : ∀ {ns' rest'}, Parts l ns' rest' → ns' = ns ∧ rest' = rest := by
  induction h with
  | stop x r hx =>
    intro ns' rest' h'
    cases h' <;> first | exact ⟨rfl, rfl⟩ | omega
  | single x r ns rest h2 h3 h4 h5 h11 h ih =>
    intro ns' rest' h'
    cases h'
    case single => rename_i hp; obtain ⟨rfl, rfl⟩ := ih hp; exact ⟨rfl, rfl⟩
    all_goals omega
  | block x r w y r' ns rest hx hw h ihw ih =>
    intro ns' rest' h'
    cases h'
    case block =>
      rename_i hq hp
      obtain ⟨rfl, e⟩ := ihw hq
      injection e with e1 e2
      subst e2
      obtain ⟨rfl, rfl⟩ := ih hp
      exact ⟨rfl, rfl⟩
    all_goals omega
  | one x r w y r' ns rest hx hw hy h ihw ih =>
    intro ns' rest' h'
    cases h'
    case one =>
      rename_i hq hp
      obtain ⟨rfl, e⟩ := ihw hq
      injection e with e1 e2
      subst e2
      obtain ⟨rfl, rfl⟩ := ih hp
      exact ⟨rfl, rfl⟩
    case two =>
      obtain ⟨rfl, e⟩ := ihw ‹Parts r _ (_ :: _)›
      injection e with e1 e2
      subst e1
      omega
    all_goals omega
  | two x r w y r1 o z r2 ns rest hx hw hy ho h ihw iho ih =>
    intro ns' rest' h'
    cases h'
    case two =>
      rename_i ho' _ hq hp
      obtain ⟨rfl, e⟩ := ihw hq
      injection e with e1 e2
      subst e2
      obtain ⟨rfl, e⟩ := iho ho'
      injection e with e1 e2
      subst e2
      obtain ⟨rfl, rfl⟩ := ih hp
      exact ⟨rfl, rfl⟩
    case one =>
      obtain ⟨rfl, e⟩ := ihw ‹Parts r _ (_ :: _)›
      injection e with e1 e2
      subst e1
      omega
    all_goals omega
mutual
theorem size_flatN : ∀ n : Nd, canN n → sizeN n ≤ (flatN n).length
  | .single _, _ => by simp [sizeN]
  | .block _ w, hc => by have := size_flatL w hc.2.2; simp only [sizeN, flatN, List.length_cons, List.length_append]; omega
  | .choice _ w o both, hc => by
    have h1 := size_flatL w hc.2.2.1
    have h2 := size_flatL o hc.2.2.2.1
    have h3 := hc.2.2.2.2
    cases both
    · have := h3 rfl
      subst this
      simp only [sizeN, sizeL, flatN, List.length_cons, List.length_append]; omega
    · simp only [sizeN, flatN, List.length_cons, List.length_append, if_pos]; omega
theorem size_flatL : ∀ l : List Nd, canL l → sizeL l ≤ (flatL l).length
  | [], _ => by simp [sizeL]
  | n :: r, hc => by have := size_flatN n hc.1; have := size_flatL r hc.2; simp only [sizeL, flatL, List.length_append]; omega
end
section
variable {g : Glob} {w : World} {l : List As}
theorem wrapped (H : Sat g w l) (v : Value) (xs : List InsV) (hx : FSl g enV (okV g) 4 v xs) (hl : xs.length ≤ 1000) (o : Int) (ho : 0 ≤ o ∧ o ≤ 255) : Fc Try.prog 18 #[v, .int .u8 o, .int .u8 64] w (fun r w' => ∃ (g' : Glob) (zs : List InsV), Ext g g' ∧ FSl g' enV (okV g') 4 r zs ∧ zs.map InsV.d = ⟨o, 64, 0, []⟩ :: (xs.map InsV.d ++ [endI]) ∧ Sat g' w' l) := by
  refine Fc.of Try.func18 rfl (by kernel_rfl) ?_
  have hxl := hx.len
  have hone : ∀ y ∈ xs, ((enV y).all (·.oneCell')) = true := fun y hy => by
    have h1 := (FSl.all hx y hy).to.one
    show (_ && (_ && (_ && (y.tv.oneCell' && true)))) = true
    rw [h1]; rfl
  refine rConvI64 (by omega) rfl rfl ?_
  refine rBuild rfl rfl rfl ?_
  refine rBuildSliceS H rfl rfl rfl rfl ?_
  clear H
  intro p1 w1 H
  refine H.ptSl (n := 1) (en := enV) (s := 4) 0 rfl [⟨o, 64, 0, .slice none 0 0, []⟩] rfl rfl (fun _ => rfl) rfl ?_
  clear H
  intro H
  refine rApR 48 H 0 rfl (H.rd hx) (by assumption) rfl rfl rfl (by (simp only [List.length_append, List.length_set, List.length_cons, List.length_nil]; omega)) (by (simp only [List.length_append, List.length_set, List.length_cons, List.length_nil]; omega)) ?_
  intro v1
  clear H
  intro w2 H
  clear w1
  refine rBuild rfl rfl rfl ?_
  refine rBuildSliceS H rfl rfl rfl rfl ?_
  clear H
  intro p2 w1 H
  clear w2
  refine rApS (ys := [⟨11, 0, 0, .slice none 0 0, []⟩]) 48 H 1 rfl (H.at 0 rfl) rfl (fun y hy => by rw [List.mem_singleton.1 hy]; simp only [Go.Proofs.Ytpobebafdecgaaa.Ins.enV, List.all_cons, List.all_nil, H.one 1 rfl, FSl.one hx]; rfl) rfl rfl rfl (by (simp only [List.length_append, List.length_set, List.length_cons, List.length_nil]; omega)) (by (simp only [List.length_append, List.length_set, List.length_cons, List.length_nil]; omega)) ?_
  intro v2
  clear H
  intro w2 H
  clear w1
  refine H.frz1 1 (okV g) rfl ?_ ?_
  · intro y hy
    rcases List.mem_append.1 hy with hy | hy
    · rcases List.mem_append.1 hy with hy | hy
      · rw [List.mem_singleton.1 hy]; exact ⟨ho, (by decide : I64 64), (by decide : I64 0), FSl.nil0 _ _ _ _⟩
      · exact FSl.all hx y hy
    · rw [List.mem_singleton.1 hy]; exact ⟨by decide, by decide, by decide, FSl.nil0 _ _ _ _⟩
  intro g2 HE F
  clear H
  intro H
  exact Done.mk ⟨g2, _, HE, FSl.okm F (fun y _ h => h.ext HE), by rw [List.map_append, List.map_append]; rfl, H.tl⟩
end
theorem nestWraps (w : World) (v : Value) (xs : List InsV) (b : Bool) (hx : FSl (froz w) enV (okV (froz w)) 4 v xs) : Fc Try.prog 5 #[v, .bool b] w (fun v w' => v = .bool true ∧ Below w.heap.size w w') := by
  refine Fc.of Try.func5 rfl (by kernel_rfl) ?_
  have H := Sat.start w
  have E := Ext.refl (froz w)
  have hml : (xs.map InsV.d).length = xs.length := List.length_map ..
  by_cases hc : chkB (xs.map InsV.d) = 0
  · obtain ⟨hl, hS, _⟩ := chkB_ok hc
    have hall : ∀ x ∈ xs.map InsV.d, chk x = 0 := fun x hx => by
      obtain ⟨i, hi, rfl⟩ := List.mem_iff_getElem.1 hx
      exact (hS i _ hi (List.getElem?_eq_getElem hi)).1
    rw [hml] at hl
    have hcl : ∀ nv : List NdV, Parts (xs.map InsV.d) (dNs nv) [endI] → canL (dNs nv) ∧ sizeL (dNs nv) ≤ (flatL (dNs nv)).length ∧ deepL (dNs nv) ≤ sizeL (dNs nv) := fun nv hp => ⟨(hp.can hall).1, size_flatL _ (hp.can hall).1, deep_sizeL _⟩
    cases b
    · refine cF rfl ?_
      refine CallP.mk (Fc.imp (Go.Proofs.Ytpobebafdecgaaa.Nest.of_ H _ _ hx) ?_)
      clear H
      rintro _ w1 (⟨e1, ⟨rfl, ⟨h1, ⟨h2, H⟩⟩⟩⟩ | ⟨g'1, ⟨p1, ⟨u1, ⟨nv1, ⟨rfl, ⟨h3, ⟨HE, ⟨h4, ⟨h5, ⟨h6, ⟨h7, ⟨h8, H⟩⟩⟩⟩⟩⟩⟩⟩⟩⟩⟩⟩)
      · refine cT (vNe_T (by assumption)) ?_
        refine rPtrNil rfl ?_
        refine CallP.mk (Fc.imp (Go.Proofs.Ytpobebafdecgaaa.Nest.check H _ _ hx) ?_)
        clear H
        rintro _ w2 ⟨⟨e2, ⟨rfl, h3⟩⟩, H⟩
        refine Done.mk ?_
        refine ⟨?_, ?_⟩
        · exact congrArg Value.bool (vEq_T (by omega))
        omega
      replace E := E.trans HE
      replace hx := FSl.extN (ok := Go.Proofs.Ytpobebafdecgaaa.Ins.okV) (fun _ _ _ h E => Go.Proofs.Ytpobebafdecgaaa.Ins.okV.ext h E) hx HE
      clear HE
      refine cF (vNe_F (by omega)) ?_
      refine rPtrNil rfl ?_
      refine cF rfl ?_
      refine CallP.mk (Fc.imp (Go.Proofs.Ytpobebafdecgaaa.Nest.wrapped H _ _ hx ?_ _ ?_) ?_)
      · omega
      · omega
      clear H
      rintro v' w2 ⟨g'2, ⟨zs1, ⟨HE, ⟨h1, ⟨h2, H⟩⟩⟩⟩⟩
      replace hx := FSl.extN (ok := Go.Proofs.Ytpobebafdecgaaa.Ins.okV) (fun _ _ _ h E => Go.Proofs.Ytpobebafdecgaaa.Ins.okV.ext h E) hx HE
      replace E := E.trans HE
      replace h5 := h5.ext HE
      replace h4 := FSl.ext h4 HE
      clear HE
      obtain ⟨hw1, hw2, hw3⟩ := wraps hc ‹Parts _ (dNs nv1) _› ‹_ = flatL (dNs nv1) ++ _› (h := ⟨2, 64, 0, []⟩) (.inl rfl) (by decide)
      obtain ⟨hcn, hfz, hdz⟩ := hcl nv1 ‹_›
      have hfl := congrArg List.length ‹_ = flatL (dNs nv1) ++ _›
      rw [List.length_append, List.length_singleton, hml] at hfl
      rw [← h2, hml] at hw1 hw2 hw3
      have hzl := congrArg List.length h2
      rw [List.length_map, List.length_cons, List.length_append, hml, List.length_singleton] at hzl
      rcases Nat.lt_or_ge 198 xs.length with h198 | h198
      · have hz := hw1 h198
        clear hw1 hw2 hw3
        refine CallP.mk (Fc.imp (Go.Proofs.Ytpobebafdecgaaa.Nest.of_ H _ _ h1) ?_)
        clear H
        rintro _ w3 (⟨e1, ⟨rfl, ⟨h9, ⟨h10, H⟩⟩⟩⟩ | ⟨g'3, ⟨p2, ⟨u2, ⟨nv2, ⟨rfl, ⟨h11, ⟨HE, ⟨h12, ⟨h13, ⟨h14, ⟨h15, ⟨h16, H⟩⟩⟩⟩⟩⟩⟩⟩⟩⟩⟩⟩)
        · refine bk ?_
          refine rLenF hx rfl ?_
          refine cT (vLt_T (by omega)) ?_
          refine Done.mk ?_
          refine ⟨?_, ?_⟩
          · exact congrArg Value.bool (vEq_T (by omega))
          exact E.fin H
        replace h4 := FSl.ext h4 HE
        replace h5 := h5.ext HE
        replace E := E.trans HE
        replace hx := FSl.extN (ok := Go.Proofs.Ytpobebafdecgaaa.Ins.okV) (fun _ _ _ h E => Go.Proofs.Ytpobebafdecgaaa.Ins.okV.ext h E) hx HE
        replace h1 := FSl.extN (ok := Go.Proofs.Ytpobebafdecgaaa.Ins.okV) (fun _ _ _ h E => Go.Proofs.Ytpobebafdecgaaa.Ins.okV.ext h E) h1 HE
        clear HE
        refine bk ?_
        refine rLenF hx rfl ?_
        refine cT (vLt_T (by omega)) ?_
        refine Done.mk ?_
        refine ⟨?_, ?_⟩
        · exact congrArg Value.bool (vEq_T (by omega))
        exact E.fin H
      · have hz7 := hw2 h198
        have hz0 := hw3 h198
        clear hw1 hw2 hw3
        rcases Nat.lt_or_ge (deepL (dNs nv1)) 12 with h12 | h12
        · obtain ⟨hz, hzp⟩ := hz0 h12
          clear hz7 hz0
          have hun : ∀ nv : List NdV, Parts (zs1.map InsV.d) (dNs nv) [endI] → deepL (dNs nv) = deepL (dNs nv1) + 1 ∧ sizeL (dNs nv) = sizeL (dNs nv1) + 1 := fun nv hp => by
            rw [(hzp.uniq hp).1]
            simp only [deepL, deepN, sizeL, sizeN]
            omega
          clear hzp
          refine CallP.mk (Fc.imp (Go.Proofs.Ytpobebafdecgaaa.Nest.of_ H _ _ h1) ?_)
          clear H
          rintro _ w3 (⟨e1, ⟨rfl, ⟨h9, ⟨h10, H⟩⟩⟩⟩ | ⟨g'3, ⟨p2, ⟨u2, ⟨nv2, ⟨rfl, ⟨h11, ⟨HE, ⟨h13, ⟨h14, ⟨h15, ⟨h16, ⟨h17, H⟩⟩⟩⟩⟩⟩⟩⟩⟩⟩⟩⟩)
          · (first | have hun9 := hun _ ‹Parts _ (dNs nv2) _› | skip)
            refine bk ?_
            refine rLenF hx rfl ?_
            refine cT (vLt_T (by omega)) ?_
            refine Done.mk ?_
            refine ⟨?_, ?_⟩
            · exact congrArg Value.bool (vEq_T (by omega))
            exact E.fin H
          replace h4 := FSl.ext h4 HE
          replace h5 := h5.ext HE
          replace E := E.trans HE
          replace hx := FSl.extN (ok := Go.Proofs.Ytpobebafdecgaaa.Ins.okV) (fun _ _ _ h E => Go.Proofs.Ytpobebafdecgaaa.Ins.okV.ext h E) hx HE
          replace h1 := FSl.extN (ok := Go.Proofs.Ytpobebafdecgaaa.Ins.okV) (fun _ _ _ h E => Go.Proofs.Ytpobebafdecgaaa.Ins.okV.ext h E) h1 HE
          clear HE
          (first | have hun9 := hun _ ‹Parts _ (dNs nv2) _› | skip)
          refine bk ?_
          refine rLenF hx rfl ?_
          refine cF (vLt_F (by omega)) ?_
          refine H.fronts [1] ?_
          clear H
          intro H
          refine CallP.mk (Fc.imp (Go.Proofs.Ytpobebafdecgaaa.Nest.Deep (p1) _ _ H h4 ?_ ?_) ?_)
          · assumption
          · omega
          clear H
          rintro _ w4 ⟨⟨d1, ⟨rfl, h9⟩⟩, H⟩
          refine cF (vEq_F (by omega)) ?_
          refine br_t (vEq_T (by omega)) ?_
          refine H.fronts [1] ?_
          clear H
          intro H
          refine CallP.mk (Fc.imp (Go.Proofs.Ytpobebafdecgaaa.Nest.Deep (p2) _ _ H h13 ?_ ?_) ?_)
          · assumption
          · omega
          clear H
          rintro _ w5 ⟨⟨d2, ⟨rfl, h10⟩⟩, H⟩
          refine H.fronts [1] ?_
          clear H
          intro H
          refine CallP.mk (Fc.imp (Go.Proofs.Ytpobebafdecgaaa.Nest.Deep (p1) _ _ H h4 ?_ ?_) ?_)
          · assumption
          · omega
          clear H
          rintro _ w6 ⟨⟨d3, ⟨rfl, h18⟩⟩, H⟩
          refine eqI64 (by omega) ?_
          refine br_t (vEq_T (by omega)) ?_
          refine H.fronts [1] ?_
          clear H
          intro H
          refine CallP.mk (Fc.imp (Go.Proofs.Ytpobebafdecgaaa.Nest.Size (p2) _ _ H h13 ?_ ?_) ?_)
          · assumption
          · omega
          clear H
          rintro _ w7 ⟨⟨d4, ⟨rfl, h19⟩⟩, H⟩
          refine H.fronts [1] ?_
          clear H
          intro H
          refine CallP.mk (Fc.imp (Go.Proofs.Ytpobebafdecgaaa.Nest.Size (p1) _ _ H h4 ?_ ?_) ?_)
          · assumption
          · omega
          clear H
          rintro _ w8 ⟨⟨d5, ⟨rfl, h20⟩⟩, H⟩
          refine eqI64 (by omega) ?_
          refine br_t (vEq_T (by omega)) ?_
          refine CallP.mk (Fc.imp (Go.Proofs.Ytpobebafdecgaaa.Nest.Deep (p1) _ _ H h4 ?_ ?_) ?_)
          · assumption
          · omega
          clear H
          rintro _ w9 ⟨⟨d6, ⟨rfl, h21⟩⟩, H⟩
          refine CallP.mk (Fc.imp (Go.Proofs.Ytpobebafdecgaaa.Nest.Size (p1) _ _ H h4 ?_ ?_) ?_)
          · assumption
          · omega
          clear H
          rintro _ w10 ⟨⟨d7, ⟨rfl, h22⟩⟩, H⟩
          refine Done.mk ?_
          refine ⟨?_, ?_⟩
          · exact congrArg Value.bool (vLe_T (by omega))
          exact E.fin H
        · have hz := hz7 (by omega)
          clear hz7 hz0
          refine CallP.mk (Fc.imp (Go.Proofs.Ytpobebafdecgaaa.Nest.of_ H _ _ h1) ?_)
          clear H
          rintro _ w3 (⟨e1, ⟨rfl, ⟨h9, ⟨h10, H⟩⟩⟩⟩ | ⟨g'3, ⟨p2, ⟨u2, ⟨nv2, ⟨rfl, ⟨h11, ⟨HE, ⟨h13, ⟨h14, ⟨h15, ⟨h16, ⟨h17, H⟩⟩⟩⟩⟩⟩⟩⟩⟩⟩⟩⟩)
          · refine bk ?_
            refine rLenF hx rfl ?_
            refine cF (vLt_F (by omega)) ?_
            refine CallP.mk (Fc.imp (Go.Proofs.Ytpobebafdecgaaa.Nest.Deep (p1) _ _ H h4 ?_ ?_) ?_)
            · assumption
            · omega
            clear H
            rintro _ w4 ⟨⟨d1, ⟨rfl, h11⟩⟩, H⟩
            refine cT (vEq_T (by omega)) ?_
            refine Done.mk ?_
            refine ⟨?_, ?_⟩
            · exact congrArg Value.bool (vEq_T (by omega))
            exact E.fin H
          replace h4 := FSl.ext h4 HE
          replace h5 := h5.ext HE
          replace E := E.trans HE
          replace hx := FSl.extN (ok := Go.Proofs.Ytpobebafdecgaaa.Ins.okV) (fun _ _ _ h E => Go.Proofs.Ytpobebafdecgaaa.Ins.okV.ext h E) hx HE
          replace h1 := FSl.extN (ok := Go.Proofs.Ytpobebafdecgaaa.Ins.okV) (fun _ _ _ h E => Go.Proofs.Ytpobebafdecgaaa.Ins.okV.ext h E) h1 HE
          clear HE
          refine bk ?_
          refine rLenF hx rfl ?_
          refine cT (vLt_T (by omega)) ?_
          refine Done.mk ?_
          refine ⟨?_, ?_⟩
          · exact congrArg Value.bool (vEq_T (by omega))
          exact E.fin H
    · refine cT rfl ?_
      refine CallP.mk (Fc.imp (Go.Proofs.Ytpobebafdecgaaa.Nest.of_ H _ _ hx) ?_)
      clear H
      rintro _ w1 (⟨e1, ⟨rfl, ⟨h1, ⟨h2, H⟩⟩⟩⟩ | ⟨g'1, ⟨p1, ⟨u1, ⟨nv1, ⟨rfl, ⟨h3, ⟨HE, ⟨h4, ⟨h5, ⟨h6, ⟨h7, ⟨h8, H⟩⟩⟩⟩⟩⟩⟩⟩⟩⟩⟩⟩)
      · refine cT (vNe_T (by assumption)) ?_
        refine rPtrNil rfl ?_
        refine CallP.mk (Fc.imp (Go.Proofs.Ytpobebafdecgaaa.Nest.check H _ _ hx) ?_)
        clear H
        rintro _ w2 ⟨⟨e2, ⟨rfl, h3⟩⟩, H⟩
        refine Done.mk ?_
        refine ⟨?_, ?_⟩
        · exact congrArg Value.bool (vEq_T (by omega))
        omega
      replace E := E.trans HE
      replace hx := FSl.extN (ok := Go.Proofs.Ytpobebafdecgaaa.Ins.okV) (fun _ _ _ h E => Go.Proofs.Ytpobebafdecgaaa.Ins.okV.ext h E) hx HE
      clear HE
      refine cF (vNe_F (by omega)) ?_
      refine rPtrNil rfl ?_
      refine cF rfl ?_
      refine CallP.mk (Fc.imp (Go.Proofs.Ytpobebafdecgaaa.Nest.wrapped H _ _ hx ?_ _ ?_) ?_)
      · omega
      · omega
      clear H
      rintro v' w2 ⟨g'2, ⟨zs1, ⟨HE, ⟨h1, ⟨h2, H⟩⟩⟩⟩⟩
      replace hx := FSl.extN (ok := Go.Proofs.Ytpobebafdecgaaa.Ins.okV) (fun _ _ _ h E => Go.Proofs.Ytpobebafdecgaaa.Ins.okV.ext h E) hx HE
      replace E := E.trans HE
      replace h5 := h5.ext HE
      replace h4 := FSl.ext h4 HE
      clear HE
      obtain ⟨hw1, hw2, hw3⟩ := wraps hc ‹Parts _ (dNs nv1) _› ‹_ = flatL (dNs nv1) ++ _› (h := ⟨3, 64, 0, []⟩) (.inr rfl) (by decide)
      obtain ⟨hcn, hfz, hdz⟩ := hcl nv1 ‹_›
      have hfl := congrArg List.length ‹_ = flatL (dNs nv1) ++ _›
      rw [List.length_append, List.length_singleton, hml] at hfl
      rw [← h2, hml] at hw1 hw2 hw3
      have hzl := congrArg List.length h2
      rw [List.length_map, List.length_cons, List.length_append, hml, List.length_singleton] at hzl
      rcases Nat.lt_or_ge 198 xs.length with h198 | h198
      · have hz := hw1 h198
        clear hw1 hw2 hw3
        refine CallP.mk (Fc.imp (Go.Proofs.Ytpobebafdecgaaa.Nest.of_ H _ _ h1) ?_)
        clear H
        rintro _ w3 (⟨e1, ⟨rfl, ⟨h9, ⟨h10, H⟩⟩⟩⟩ | ⟨g'3, ⟨p2, ⟨u2, ⟨nv2, ⟨rfl, ⟨h11, ⟨HE, ⟨h12, ⟨h13, ⟨h14, ⟨h15, ⟨h16, H⟩⟩⟩⟩⟩⟩⟩⟩⟩⟩⟩⟩)
        · refine bk ?_
          refine rLenF hx rfl ?_
          refine cT (vLt_T (by omega)) ?_
          refine Done.mk ?_
          refine ⟨?_, ?_⟩
          · exact congrArg Value.bool (vEq_T (by omega))
          exact E.fin H
        replace h4 := FSl.ext h4 HE
        replace h5 := h5.ext HE
        replace E := E.trans HE
        replace hx := FSl.extN (ok := Go.Proofs.Ytpobebafdecgaaa.Ins.okV) (fun _ _ _ h E => Go.Proofs.Ytpobebafdecgaaa.Ins.okV.ext h E) hx HE
        replace h1 := FSl.extN (ok := Go.Proofs.Ytpobebafdecgaaa.Ins.okV) (fun _ _ _ h E => Go.Proofs.Ytpobebafdecgaaa.Ins.okV.ext h E) h1 HE
        clear HE
        refine bk ?_
        refine rLenF hx rfl ?_
        refine cT (vLt_T (by omega)) ?_
        refine Done.mk ?_
        refine ⟨?_, ?_⟩
        · exact congrArg Value.bool (vEq_T (by omega))
        exact E.fin H
      · have hz7 := hw2 h198
        have hz0 := hw3 h198
        clear hw1 hw2 hw3
        rcases Nat.lt_or_ge (deepL (dNs nv1)) 12 with h12 | h12
        · obtain ⟨hz, hzp⟩ := hz0 h12
          clear hz7 hz0
          have hun : ∀ nv : List NdV, Parts (zs1.map InsV.d) (dNs nv) [endI] → deepL (dNs nv) = deepL (dNs nv1) + 1 ∧ sizeL (dNs nv) = sizeL (dNs nv1) + 1 := fun nv hp => by
            rw [(hzp.uniq hp).1]
            simp only [deepL, deepN, sizeL, sizeN]
            omega
          clear hzp
          refine CallP.mk (Fc.imp (Go.Proofs.Ytpobebafdecgaaa.Nest.of_ H _ _ h1) ?_)
          clear H
          rintro _ w3 (⟨e1, ⟨rfl, ⟨h9, ⟨h10, H⟩⟩⟩⟩ | ⟨g'3, ⟨p2, ⟨u2, ⟨nv2, ⟨rfl, ⟨h11, ⟨HE, ⟨h13, ⟨h14, ⟨h15, ⟨h16, ⟨h17, H⟩⟩⟩⟩⟩⟩⟩⟩⟩⟩⟩⟩)
          · (first | have hun9 := hun _ ‹Parts _ (dNs nv2) _› | skip)
            refine bk ?_
            refine rLenF hx rfl ?_
            refine cT (vLt_T (by omega)) ?_
            refine Done.mk ?_
            refine ⟨?_, ?_⟩
            · exact congrArg Value.bool (vEq_T (by omega))
            exact E.fin H
          replace h4 := FSl.ext h4 HE
          replace h5 := h5.ext HE
          replace E := E.trans HE
          replace hx := FSl.extN (ok := Go.Proofs.Ytpobebafdecgaaa.Ins.okV) (fun _ _ _ h E => Go.Proofs.Ytpobebafdecgaaa.Ins.okV.ext h E) hx HE
          replace h1 := FSl.extN (ok := Go.Proofs.Ytpobebafdecgaaa.Ins.okV) (fun _ _ _ h E => Go.Proofs.Ytpobebafdecgaaa.Ins.okV.ext h E) h1 HE
          clear HE
          (first | have hun9 := hun _ ‹Parts _ (dNs nv2) _› | skip)
          refine bk ?_
          refine rLenF hx rfl ?_
          refine cF (vLt_F (by omega)) ?_
          refine H.fronts [1] ?_
          clear H
          intro H
          refine CallP.mk (Fc.imp (Go.Proofs.Ytpobebafdecgaaa.Nest.Deep (p1) _ _ H h4 ?_ ?_) ?_)
          · assumption
          · omega
          clear H
          rintro _ w4 ⟨⟨d1, ⟨rfl, h9⟩⟩, H⟩
          refine cF (vEq_F (by omega)) ?_
          refine br_t (vEq_T (by omega)) ?_
          refine H.fronts [1] ?_
          clear H
          intro H
          refine CallP.mk (Fc.imp (Go.Proofs.Ytpobebafdecgaaa.Nest.Deep (p2) _ _ H h13 ?_ ?_) ?_)
          · assumption
          · omega
          clear H
          rintro _ w5 ⟨⟨d2, ⟨rfl, h10⟩⟩, H⟩
          refine H.fronts [1] ?_
          clear H
          intro H
          refine CallP.mk (Fc.imp (Go.Proofs.Ytpobebafdecgaaa.Nest.Deep (p1) _ _ H h4 ?_ ?_) ?_)
          · assumption
          · omega
          clear H
          rintro _ w6 ⟨⟨d3, ⟨rfl, h18⟩⟩, H⟩
          refine eqI64 (by omega) ?_
          refine br_t (vEq_T (by omega)) ?_
          refine H.fronts [1] ?_
          clear H
          intro H
          refine CallP.mk (Fc.imp (Go.Proofs.Ytpobebafdecgaaa.Nest.Size (p2) _ _ H h13 ?_ ?_) ?_)
          · assumption
          · omega
          clear H
          rintro _ w7 ⟨⟨d4, ⟨rfl, h19⟩⟩, H⟩
          refine H.fronts [1] ?_
          clear H
          intro H
          refine CallP.mk (Fc.imp (Go.Proofs.Ytpobebafdecgaaa.Nest.Size (p1) _ _ H h4 ?_ ?_) ?_)
          · assumption
          · omega
          clear H
          rintro _ w8 ⟨⟨d5, ⟨rfl, h20⟩⟩, H⟩
          refine eqI64 (by omega) ?_
          refine br_t (vEq_T (by omega)) ?_
          refine CallP.mk (Fc.imp (Go.Proofs.Ytpobebafdecgaaa.Nest.Deep (p1) _ _ H h4 ?_ ?_) ?_)
          · assumption
          · omega
          clear H
          rintro _ w9 ⟨⟨d6, ⟨rfl, h21⟩⟩, H⟩
          refine CallP.mk (Fc.imp (Go.Proofs.Ytpobebafdecgaaa.Nest.Size (p1) _ _ H h4 ?_ ?_) ?_)
          · assumption
          · omega
          clear H
          rintro _ w10 ⟨⟨d7, ⟨rfl, h22⟩⟩, H⟩
          refine Done.mk ?_
          refine ⟨?_, ?_⟩
          · exact congrArg Value.bool (vLe_T (by omega))
          exact E.fin H
        · have hz := hz7 (by omega)
          clear hz7 hz0
          refine CallP.mk (Fc.imp (Go.Proofs.Ytpobebafdecgaaa.Nest.of_ H _ _ h1) ?_)
          clear H
          rintro _ w3 (⟨e1, ⟨rfl, ⟨h9, ⟨h10, H⟩⟩⟩⟩ | ⟨g'3, ⟨p2, ⟨u2, ⟨nv2, ⟨rfl, ⟨h11, ⟨HE, ⟨h13, ⟨h14, ⟨h15, ⟨h16, ⟨h17, H⟩⟩⟩⟩⟩⟩⟩⟩⟩⟩⟩⟩)
          · refine bk ?_
            refine rLenF hx rfl ?_
            refine cF (vLt_F (by omega)) ?_
            refine CallP.mk (Fc.imp (Go.Proofs.Ytpobebafdecgaaa.Nest.Deep (p1) _ _ H h4 ?_ ?_) ?_)
            · assumption
            · omega
            clear H
            rintro _ w4 ⟨⟨d1, ⟨rfl, h11⟩⟩, H⟩
            refine cT (vEq_T (by omega)) ?_
            refine Done.mk ?_
            refine ⟨?_, ?_⟩
            · exact congrArg Value.bool (vEq_T (by omega))
            exact E.fin H
          replace h4 := FSl.ext h4 HE
          replace h5 := h5.ext HE
          replace E := E.trans HE
          replace hx := FSl.extN (ok := Go.Proofs.Ytpobebafdecgaaa.Ins.okV) (fun _ _ _ h E => Go.Proofs.Ytpobebafdecgaaa.Ins.okV.ext h E) hx HE
          replace h1 := FSl.extN (ok := Go.Proofs.Ytpobebafdecgaaa.Ins.okV) (fun _ _ _ h E => Go.Proofs.Ytpobebafdecgaaa.Ins.okV.ext h E) h1 HE
          clear HE
          refine bk ?_
          refine rLenF hx rfl ?_
          refine cT (vLt_T (by omega)) ?_
          refine Done.mk ?_
          refine ⟨?_, ?_⟩
          · exact congrArg Value.bool (vEq_T (by omega))
          exact E.fin H
  · cases b
    · refine cF rfl ?_
      refine CallP.mk (Fc.imp (Go.Proofs.Ytpobebafdecgaaa.Nest.of_ H _ _ hx) ?_)
      clear H
      rintro _ w1 (⟨e1, ⟨rfl, ⟨h1, ⟨h2, H⟩⟩⟩⟩ | ⟨g'1, ⟨p1, ⟨u1, ⟨nv1, ⟨rfl, ⟨h3, ⟨HE, ⟨h4, ⟨h5, ⟨h6, ⟨h7, ⟨h8, H⟩⟩⟩⟩⟩⟩⟩⟩⟩⟩⟩⟩)
      · refine cT (vNe_T (by assumption)) ?_
        refine rPtrNil rfl ?_
        refine CallP.mk (Fc.imp (Go.Proofs.Ytpobebafdecgaaa.Nest.check H _ _ hx) ?_)
        clear H
        rintro _ w2 ⟨⟨e2, ⟨rfl, h3⟩⟩, H⟩
        refine Done.mk ?_
        refine ⟨?_, ?_⟩
        · exact congrArg Value.bool (vEq_T (by omega))
        exact E.fin H
      replace E := E.trans HE
      replace hx := FSl.extN (ok := Go.Proofs.Ytpobebafdecgaaa.Ins.okV) (fun _ _ _ h E => Go.Proofs.Ytpobebafdecgaaa.Ins.okV.ext h E) hx HE
      clear HE
      refine cT (vNe_T (by omega)) ?_
      refine rPtrNil rfl ?_
      refine Done.mk ?_
      refine ⟨?_, ?_⟩
      · exact congrArg Value.bool ((by omega))
      exact E.fin H
    · refine cT rfl ?_
      refine CallP.mk (Fc.imp (Go.Proofs.Ytpobebafdecgaaa.Nest.of_ H _ _ hx) ?_)
      clear H
      rintro _ w1 (⟨e1, ⟨rfl, ⟨h1, ⟨h2, H⟩⟩⟩⟩ | ⟨g'1, ⟨p1, ⟨u1, ⟨nv1, ⟨rfl, ⟨h3, ⟨HE, ⟨h4, ⟨h5, ⟨h6, ⟨h7, ⟨h8, H⟩⟩⟩⟩⟩⟩⟩⟩⟩⟩⟩⟩)
      · refine cT (vNe_T (by assumption)) ?_
        refine rPtrNil rfl ?_
        refine CallP.mk (Fc.imp (Go.Proofs.Ytpobebafdecgaaa.Nest.check H _ _ hx) ?_)
        clear H
        rintro _ w2 ⟨⟨e2, ⟨rfl, h3⟩⟩, H⟩
        refine Done.mk ?_
        refine ⟨?_, ?_⟩
        · exact congrArg Value.bool (vEq_T (by omega))
        exact E.fin H
      replace E := E.trans HE
      replace hx := FSl.extN (ok := Go.Proofs.Ytpobebafdecgaaa.Ins.okV) (fun _ _ _ h E => Go.Proofs.Ytpobebafdecgaaa.Ins.okV.ext h E) hx HE
      clear HE
      refine cT (vNe_T (by omega)) ?_
      refine rPtrNil rfl ?_
      refine Done.mk ?_
      refine ⟨?_, ?_⟩
      · exact congrArg Value.bool ((by omega))
      exact E.fin H
end Go.Proofs.Ytpobebafdecgaaa.Nest
