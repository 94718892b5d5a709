/- The law NestBack. -/
import Derived.Test.YtpobebafdecgaaaNestO
set_option maxRecDepth 100000
set_option maxHeartbeats 4000000
set_option linter.unusedVariables false
set_option linter.unusedSimpArgs false
namespace Go.Proofs.Ytpobebafdecgaaa.Nest
open Go Go.Proofs.Ytpobebafdecgaaa.Eng Go.RowKit
open Ins
theorem nestBack (w : World) (v : Value) (xs : List InsV) (more : List UInt8) (hx : FSl (froz w) enV (okV (froz w)) 4 v xs) (_hxl : xs.length ≤ 1048576) (hm : more.length ≤ 1048576) : Fc Try.prog 9 #[v, .string (bs more)] w (fun v w' => v = .bool true ∧ Below w.heap.size w w') := by
  refine Fc.of Try.func9 rfl (by kernel_rfl) ?_
  have H := Sat.start w
  have E := Ext.refl (froz w)
  have hml : (xs.map InsV.d).length = xs.length := List.length_map ..
  by_cases hc : chkB (xs.map InsV.d) = 0
  · have hops : opsOk (xs.map InsV.d) := fun y hy => by
      obtain ⟨z, hz, rfl⟩ := List.mem_map.1 hy
      have := FSl.all hx z hz
      exact ⟨this.op, this.a⟩
    have hr := rdB_txt hc hops more
    obtain ⟨hl, hS, _⟩ := chkB_ok hc
    have hall : ∀ x ∈ xs.map InsV.d, chk x = 0 := fun x hx => by
      obtain ⟨i, hi, rfl⟩ := List.mem_iff_getElem.1 hx
      exact (hS i _ hi (List.getElem?_eq_getElem hi)).1
    rw [hml] at hl
    refine CallP.mk (Fc.imp (Go.Proofs.Ytpobebafdecgaaa.Nest.write H _ _ hx) ?_)
    clear H
    rintro _ w1 ⟨ot1, ⟨e1, ⟨rfl, ⟨h1, ⟨h2, ⟨h3, H⟩⟩⟩⟩⟩⟩
    rw [hc] at h1
    rw [if_pos hc] at h2
    subst h2
    subst h1
    refine CallP.mk (Fc.imp (Go.Proofs.Ytpobebafdecgaaa.Nest.of_ H _ _ hx) ?_)
    clear H
    rintro _ w2 (⟨e1, ⟨rfl, ⟨h1, ⟨h2, H⟩⟩⟩⟩ | ⟨g'1, ⟨p1, ⟨u1, ⟨nv1, ⟨rfl, ⟨h4, ⟨HE, ⟨h5, ⟨h6, ⟨h7, ⟨h8, ⟨h9, H⟩⟩⟩⟩⟩⟩⟩⟩⟩⟩⟩⟩)
    · (first | have hcn := (‹Parts _ _ _›.can hall).1 | skip)
      (first | have hfl9 := congrArg List.length ‹List.map InsV.d _ = flatL _ ++ _› | skip)
      (first | simp only [List.length_append, List.length_singleton, List.length_map] at hfl9 | skip)
      refine CallP.mk (Fc.imp (Go.Proofs.Ytpobebafdecgaaa.Nest.check H _ _ hx) ?_)
      clear H
      rintro _ w3 ⟨⟨e2, ⟨rfl, h4⟩⟩, H⟩
      refine br_t (vNe_T (by omega)) ?_
      refine cT rfl ?_
      refine br_t (vEq_T (by omega)) ?_
      refine rStrEq ?_
      refine br_t (dec_T (by omega)) ?_
      refine br_t (vEq_T (by omega)) ?_
      refine rPtrNil rfl ?_
      refine Done.mk ?_
      exact ⟨rfl, H.finish⟩
    replace E := E.trans HE
    replace hx := FSl.extN (ok := Go.Proofs.Ytpobebafdecgaaa.Ins.okV) (fun _ _ _ h E => Go.Proofs.Ytpobebafdecgaaa.Ins.okV.ext h E) hx HE
    clear HE
    (first | have hcn := (‹Parts _ _ _›.can hall).1 | skip)
    (first | have hfl9 := congrArg List.length ‹List.map InsV.d _ = flatL _ ++ _› | skip)
    (first | simp only [List.length_append, List.length_singleton, List.length_map] at hfl9 | skip)
    refine CallP.mk (Fc.imp (Go.Proofs.Ytpobebafdecgaaa.Nest.check H _ _ hx) ?_)
    clear H
    rintro _ w3 ⟨⟨e1, ⟨rfl, h1⟩⟩, H⟩
    refine br_f (vNe_F (by omega)) ?_
    refine br_f (vNe_F (by omega)) ?_
    refine cF (vNe_F (by omega)) ?_
    refine rCat (by omega) ?_
    refine CallP.mk (Fc.imp (Go.Proofs.Ytpobebafdecgaaa.Nest.read H _ ?_) ?_)
    · (simp only [List.length_append, List.length_set, List.length_cons, List.length_nil]; omega)
    clear H
    rintro _ w4 ⟨g'2, ⟨u2, ⟨ys1, ⟨n1, ⟨e2, ⟨rfl, ⟨h2, ⟨HE, ⟨h10, ⟨h11, H⟩⟩⟩⟩⟩⟩⟩⟩⟩⟩
    replace hx := FSl.extN (ok := Go.Proofs.Ytpobebafdecgaaa.Ins.okV) (fun _ _ _ h E => Go.Proofs.Ytpobebafdecgaaa.Ins.okV.ext h E) hx HE
    replace E := E.trans HE
    replace h6 := h6.ext HE
    replace h5 := FSl.ext h5 HE
    clear HE
    obtain ⟨hq1, hq⟩ := Prod.mk.inj (hr.symm.trans ‹rdB _ = _›)
    obtain ⟨hq2, hq3⟩ := Prod.mk.inj hq
    subst hq2
    subst hq3
    refine br_t (vEq_T (by omega)) ?_
    refine rLenStr rfl ?_
    refine br_t (vEq_T (by omega)) ?_
    refine CallP.mk (Fc.imp (Go.Proofs.Ytpobebafdecgaaa.Nest.sameBody _ _ _ _ H hx h10) ?_)
    clear H
    rintro _ w5 ⟨⟨b1, ⟨rfl, h12⟩⟩, H⟩
    refine br_t (h12.2 (by assumption)) ?_
    refine CallP.mk (Fc.imp (Go.Proofs.Ytpobebafdecgaaa.Nest.Flat (p1) _ _ H h5 ?_ ?_ ?_) ?_)
    · assumption
    · assumption
    · omega
    clear H
    rintro v' w6 ⟨g'3, ⟨zs1, ⟨HE, ⟨h13, ⟨h14, H⟩⟩⟩⟩⟩
    replace h5 := FSl.ext h5 HE
    replace h6 := h6.ext HE
    replace E := E.trans HE
    replace hx := FSl.extN (ok := Go.Proofs.Ytpobebafdecgaaa.Ins.okV) (fun _ _ _ h E => Go.Proofs.Ytpobebafdecgaaa.Ins.okV.ext h E) hx HE
    replace h10 := FSl.extN (ok := Go.Proofs.Ytpobebafdecgaaa.Ins.okV) (fun _ _ _ h E => Go.Proofs.Ytpobebafdecgaaa.Ins.okV.ext h E) h10 HE
    clear HE
    refine CallP.mk (Fc.imp (Go.Proofs.Ytpobebafdecgaaa.Nest.sameBody _ _ _ _ H h13 hx) ?_)
    clear H
    rintro _ w7 ⟨⟨b2, ⟨rfl, h15⟩⟩, H⟩
    refine Done.mk ?_
    refine ⟨?_, ?_⟩
    · exact congrArg Value.bool (h15.2 (h14.trans h8.symm))
    exact E.fin H
  · refine CallP.mk (Fc.imp (Go.Proofs.Ytpobebafdecgaaa.Nest.write H _ _ hx) ?_)
    clear H
    rintro _ w1 ⟨ot1, ⟨e1, ⟨rfl, ⟨h1, ⟨h2, ⟨h3, H⟩⟩⟩⟩⟩⟩
    rw [if_neg hc] at h2
    subst h2
    refine CallP.mk (Fc.imp (Go.Proofs.Ytpobebafdecgaaa.Nest.of_ H _ _ hx) ?_)
    clear H
    rintro _ w2 (⟨e2, ⟨rfl, ⟨h2, ⟨h4, H⟩⟩⟩⟩ | ⟨g'1, ⟨p1, ⟨u1, ⟨nv1, ⟨rfl, ⟨h5, ⟨HE, ⟨h6, ⟨h7, ⟨h8, ⟨h9, ⟨h10, H⟩⟩⟩⟩⟩⟩⟩⟩⟩⟩⟩⟩)
    · refine CallP.mk (Fc.imp (Go.Proofs.Ytpobebafdecgaaa.Nest.check H _ _ hx) ?_)
      clear H
      rintro _ w3 ⟨⟨e3, ⟨rfl, h5⟩⟩, H⟩
      refine br_t (vNe_T (by omega)) ?_
      refine cT rfl ?_
      refine br_t (vEq_T (by omega)) ?_
      refine rStrEq ?_
      refine br_t (vEq_T (by omega)) ?_
      refine rPtrNil rfl ?_
      refine Done.mk ?_
      exact ⟨rfl, H.finish⟩
    replace E := E.trans HE
    replace hx := FSl.extN (ok := Go.Proofs.Ytpobebafdecgaaa.Ins.okV) (fun _ _ _ h E => Go.Proofs.Ytpobebafdecgaaa.Ins.okV.ext h E) hx HE
    clear HE
    refine CallP.mk (Fc.imp (Go.Proofs.Ytpobebafdecgaaa.Nest.check H _ _ hx) ?_)
    clear H
    rintro _ w3 ⟨⟨e2, ⟨rfl, h2⟩⟩, H⟩
    refine br_t (vNe_T (by omega)) ?_
    refine cT rfl ?_
    refine br_t (vEq_T (by omega)) ?_
    refine rStrEq ?_
    refine br_t (vEq_T (by omega)) ?_
    refine rPtrNil rfl ?_
    refine Done.mk ?_
    refine ⟨?_, ?_⟩
    · exact congrArg Value.bool ((by omega))
    exact E.fin H
end Go.Proofs.Ytpobebafdecgaaa.Nest
