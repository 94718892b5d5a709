/- The law ShotOne. -/
import Derived.Test.YtffkcgogkhdcdaaShotBackW
import Derived.Test.YtffkcgogkhdcdaaRefR
set_option maxRecDepth 100000
set_option maxHeartbeats 4000000
set_option linter.unusedVariables false
set_option linter.unusedSimpArgs false
namespace Go.Proofs.Ytffkcgogkhdcdaa.Shot
open Go Go.Proofs.Ytffkcgogkhdcdaa.Eng Go.RowKit
attribute [local irreducible] errR shotR shotT wr okS
open Ref (rest)
theorem shotOne (w : World) (s : List UInt8) (at_ : Int) (hs : s.length ≤ 9223372036854775807) (hat : I64 at_) : Fc Try.prog 6 #[.string (bs s), .int .i64 at_] w (fun v w' => v = .bool true ∧ Below w.heap.size w w') := by
  refine Fc.of Try.func6 rfl (by kernel_rfl) ?_
  have H := Sat.start w
  have E := Ext.refl (froz w)
  by_cases he : errR s = 0
  · obtain ⟨ho, hs1, hs2⟩ := read_ok he
    refine CallP.mk (Fc.imp (Go.Proofs.Ytffkcgogkhdcdaa.Shot.read H _ ?_) ?_)
    · assumption
    clear H
    rintro _ w1 ⟨g'1, ⟨mem1, ⟨tv1, ⟨gv1, ⟨cv1, ⟨tab1, ⟨glob1, ⟨host1, ⟨calls1, ⟨e1, ⟨rfl, ⟨h1, ⟨HE, ⟨h2, ⟨h3, ⟨h4, ⟨h5, ⟨h6, ⟨h7, ⟨h8, H⟩⟩⟩⟩⟩⟩⟩⟩⟩⟩⟩⟩⟩⟩⟩⟩⟩⟩⟩⟩
    replace E := E.trans HE
    clear HE
    (first | have hfin : e3 = 3 := (‹e3 = errR _›).trans (hcut _ (by omega)) | skip)
    refine rAllocS H rfl ?_
    clear H
    intro p1 w2 H
    clear w1
    refine rAllocS H rfl ?_
    clear H
    intro p2 w1 H
    clear w2
    refine rStAS H 1 rfl rfl rfl (by simp only [List.all_cons, List.all_nil, FSl.one h4, FSl.one h3, FSl.one h2]; rfl) ?_
    clear H
    intro w2 H
    clear w1
    refine rStAS H 0 rfl rfl rfl (by simp only [List.all_cons, List.all_nil, FSl.one h4, FSl.one h3, FSl.one h2]; rfl) ?_
    clear H
    intro w1 H
    clear w2
    refine cF (vNe_F (by omega)) ?_
    refine rLdA (H.at 1 rfl) 0 rfl rfl rfl ?_
    refine rLdA (H.at 0 rfl) 0 rfl rfl rfl ?_
    refine CallP.mk (Fc.imp (Go.Proofs.Ytffkcgogkhdcdaa.Shot.write H _ _ _ _ _ _ _ _ ?_ h2 h3 ?_ h4) ?_)
    · omega
    · assumption
    clear H
    rintro _ w2 ⟨t1, ⟨e2, ⟨rfl, ⟨h9, ⟨h10, ⟨⟨h11, h12⟩, ⟨h13, H⟩⟩⟩⟩⟩⟩⟩
    have hD := h7 (h1.trans he)
    rw [← hD] at ho hs1
    have he2 : e2 = 0 := h10.2 ho
    have ht1 : t1 = s := h9.trans ((wr_ok ho).trans hs1.symm)
    have hsl : 0 < s.length := List.length_pos_iff.2 hs2
    have hi := i64_of (mem := mem1) (tab := tab1) (host := host1) h3 h4
    have hcut : ∀ j, j < s.length → errR (s.take j) = 3 := fun j hj => by have h := shot_cut ho hi (j := j) (by rw [← hs1]; exact hj); rw [← hs1] at h; exact h
    have hm1 := Int.emod_nonneg at_ (b := (s.length : Int)) (by omega)
    have hm2 := Int.emod_lt_of_pos at_ (b := (s.length : Int)) (by omega)
    refine br_f (vNe_F (by assumption)) ?_
    refine rStrNe ?_
    refine br_f (not_F (dec_T (by assumption))) ?_
    refine rStrEq ?_
    refine cF (dec_F (by assumption)) ?_
    refine rLenStr rfl ?_
    refine CallP.mk (Fc.imp (Go.Proofs.Ytffkcgogkhdcdaa.Ref.rest _ _ ?_ ?_ _) ?_)
    · assumption
    · omega
    rintro _ _ ⟨rfl, rfl⟩
    refine rSubH rfl (at_ % (↑s.length : Int)).toNat (by omega) (by omega) ?_
    refine CallP.mk (Fc.imp (Go.Proofs.Ytffkcgogkhdcdaa.Shot.read H _ ?_) ?_)
    · (simp; omega)
    clear H
    rintro _ w3 ⟨g'2, ⟨mem2, ⟨tv2, ⟨gv2, ⟨cv2, ⟨tab2, ⟨glob2, ⟨host2, ⟨calls2, ⟨e3, ⟨rfl, ⟨h14, ⟨HE, ⟨h15, ⟨h16, ⟨h17, ⟨h18, ⟨h19, ⟨h20, ⟨h21, H⟩⟩⟩⟩⟩⟩⟩⟩⟩⟩⟩⟩⟩⟩⟩⟩⟩⟩⟩⟩
    replace E := E.trans HE
    replace h4 := FSl.extN (ok := Go.Proofs.Ytffkcgogkhdcdaa.Shot.okV) (fun _ _ _ h E => Go.Proofs.Ytffkcgogkhdcdaa.Shot.okV.ext h E) h4 HE
    replace h3 := FSl.ext h3 HE
    replace h2 := FSl.ext h2 HE
    clear HE
    (first | have hfin : e3 = 3 := (‹e3 = errR _›).trans (hcut _ (by omega)) | skip)
    refine rAllocS H rfl ?_
    clear H
    intro p3 w4 H
    clear w3
    refine rAllocS H rfl ?_
    clear H
    intro p4 w3 H
    clear w4
    refine rStAS H 1 rfl rfl rfl (by simp only [List.all_cons, List.all_nil, FSl.one h2, FSl.one h3, FSl.one h4, FSl.one h17, FSl.one h16, FSl.one h15]; rfl) ?_
    clear H
    intro w4 H
    clear w3
    refine rStAS H 0 rfl rfl rfl (by simp only [List.all_cons, List.all_nil, FSl.one h2, FSl.one h3, FSl.one h4, FSl.one h17, FSl.one h16, FSl.one h15]; rfl) ?_
    clear H
    intro w3 H
    clear w4
    refine Done.mk ?_
    refine ⟨?_, ?_⟩
    · exact congrArg Value.bool (vEq_T hfin)
    exact E.fin H
  · refine CallP.mk (Fc.imp (Go.Proofs.Ytffkcgogkhdcdaa.Shot.read H _ ?_) ?_)
    · assumption
    clear H
    rintro _ w1 ⟨g'1, ⟨mem1, ⟨tv1, ⟨gv1, ⟨cv1, ⟨tab1, ⟨glob1, ⟨host1, ⟨calls1, ⟨e1, ⟨rfl, ⟨h1, ⟨HE, ⟨h2, ⟨h3, ⟨h4, ⟨h5, ⟨h6, ⟨h7, ⟨h8, H⟩⟩⟩⟩⟩⟩⟩⟩⟩⟩⟩⟩⟩⟩⟩⟩⟩⟩⟩⟩
    replace E := E.trans HE
    clear HE
    obtain ⟨q1, q2, q3, q4, q5⟩ := h8 (by rw [h1]; exact he)
    refine rAllocS H rfl ?_
    clear H
    intro p1 w2 H
    clear w1
    refine rAllocS H rfl ?_
    clear H
    intro p2 w1 H
    clear w2
    refine rStAS H 1 rfl rfl rfl (by simp only [List.all_cons, List.all_nil, FSl.one h4, FSl.one h3, FSl.one h2]; rfl) ?_
    clear H
    intro w2 H
    clear w1
    refine rStAS H 0 rfl rfl rfl (by simp only [List.all_cons, List.all_nil, FSl.one h4, FSl.one h3, FSl.one h2]; rfl) ?_
    clear H
    intro w1 H
    clear w2
    refine cT (vNe_T (by omega)) ?_
    refine rLdA (H.at 1 rfl) 0 rfl rfl rfl ?_
    refine rBuild rfl rfl rfl ?_
    refine CallP.mk (Fc.imp (Go.Proofs.Ytffkcgogkhdcdaa.Shot.sameImage H _ _ _ _ _ _ _ _ _ _ h2 (SlR.nil _ _ _) h3 (SlR.nil _ _ _)) ?_)
    clear H
    rintro _ w2 ⟨b1, ⟨rfl, ⟨h9, H⟩⟩⟩
    refine br (fun c1 => ?_) (fun c1 => ?_)
    · replace c1 := h9.1 (c1)
      refine rLdA (H.at 0 rfl) 0 rfl rfl rfl ?_
      refine rBuild rfl rfl rfl ?_
      refine CallP.mk (Fc.imp (Go.Proofs.Ytffkcgogkhdcdaa.Shot.sameState _ _ _ _ _ _ H h4 (SlR.nil _ _ _)) ?_)
      clear H
      rintro _ w3 ⟨⟨b2, ⟨rfl, h10⟩⟩, H⟩
      refine Done.mk ?_
      refine ⟨?_, ?_⟩
      · exact congrArg Value.bool (h10.2 ⟨q4, by rw [q5]⟩)
      exact E.fin H
    replace c1 := iff_f h9 (c1)
    refine Done.mk ?_
    exact absurd (show mem1 = [] ∧ tab1 = [] ∧ glob1 = [] from ⟨q1, q2, q3⟩) (by assumption)
end Go.Proofs.Ytffkcgogkhdcdaa.Shot
