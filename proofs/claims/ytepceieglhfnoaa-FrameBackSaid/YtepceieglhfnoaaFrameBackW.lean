/- The law FrameBack. -/
import Derived.Test.YtepceieglhfnoaaFrame7
set_option maxRecDepth 100000
set_option maxHeartbeats 4000000
set_option linter.unusedVariables false
set_option linter.unusedSimpArgs false
namespace Go.Proofs.Ytepceieglhfnoaa.Frame
open Go Go.Proofs.Ytepceieglhfnoaa.Eng Go.RowKit
theorem frameBack (w : World) (x : Fr) (hx : okFS x) : Fc Try.prog 5 #[.agg (cellsF x).toArray] w (fun v w' => v = .bool true ∧ Below w.heap.size w w') := by
  have hx : x.body.length ≤ 9223372036854775807 := hx
  refine Fc.of Try.func5 rfl (by kernel_rfl) ?_
  have H := Sat.start w
  by_cases hc : chkF x = 0
  · have hP := wrR_ok hc
    have hU := rd_wr hc
    have hL := wrF_len x
    have hB := (chkF_ok hc).2
    refine rBoxS H ?_
    clear H
    intro p1 w1 H
    refine rLdA (H.at 0 rfl) 0 rfl rfl rfl ?_
    refine CallP.mk (Fc.imp (Go.Proofs.Ytepceieglhfnoaa.Frame.write _ ?_ _) ?_)
    · assumption
    rintro _ w2 ⟨s1, ⟨e1, ⟨rfl, ⟨h1, H'⟩⟩⟩⟩
    refine H.mergeK H' ?_
    clear H H'
    intro H
    rw [hP] at h1
    obtain ⟨rfl, rfl⟩ := Prod.mk.inj h1
    clear h1
    refine cF (vNe_F (by rfl)) ?_
    refine CallP.mk (Fc.imp (Go.Proofs.Ytepceieglhfnoaa.Frame.read _ ?_ _) ?_)
    · omega
    rintro _ w3 ⟨x1, ⟨e1, ⟨rfl, ⟨h1, H'⟩⟩⟩⟩
    refine H.mergeK H' ?_
    clear H H'
    intro H
    rw [hU] at h1
    obtain ⟨rfl, rfl⟩ := Prod.mk.inj h1
    clear h1
    refine rAllocS H rfl ?_
    clear H
    intro p2 w4 H
    clear w3
    refine rStAS H 0 rfl rfl rfl rfl ?_
    clear H
    intro w3 H
    clear w4
    refine br_t (vEq_T (by rfl)) ?_
    refine rLdA (H.at 1 rfl) 0 rfl rfl rfl ?_
    refine rLdA (H.at 0 rfl) 0 rfl rfl rfl ?_
    refine rStructEq (by kernel_rfl) (by kernel_rfl) ?_
    refine br_t ((by (simp [vEq_iff]; done))) ?_
    refine rLenStr rfl ?_
    refine rFieldAt rfl ?_
    refine rLd (H.at 1 rfl) 4 rfl rfl rfl ?_
    refine rLenStr rfl ?_
    refine eqI64 (by omega) ?_
    refine br_t (vEq_T (by omega)) ?_
    refine rLdA (H.at 1 rfl) 0 rfl rfl rfl ?_
    refine CallP.mk (Fc.imp (Go.Proofs.Ytepceieglhfnoaa.Frame.checkF _ ?_ _) ?_)
    · assumption
    rintro _ w4 ⟨e1, ⟨rfl, ⟨h1, H'⟩⟩⟩
    refine H.mergeK H' ?_
    clear H H'
    intro H
    refine Done.mk ?_
    refine ⟨?_, ?_⟩
    · exact congrArg Value.bool (vEq_T (by omega))
    exact H.finish
  · have hP := wrR_bad hc
    refine rBoxS H ?_
    clear H
    intro p1 w1 H
    refine rLdA (H.at 0 rfl) 0 rfl rfl rfl ?_
    refine CallP.mk (Fc.imp (Go.Proofs.Ytepceieglhfnoaa.Frame.write _ ?_ _) ?_)
    · assumption
    rintro _ w2 ⟨s1, ⟨e1, ⟨rfl, ⟨h1, H'⟩⟩⟩⟩
    refine H.mergeK H' ?_
    clear H H'
    intro H
    rw [hP] at h1
    obtain ⟨rfl, rfl⟩ := Prod.mk.inj h1
    clear h1
    refine cT (vNe_T (by assumption)) ?_
    refine rStrEq ?_
    refine rLdA (H.at 0 rfl) 0 rfl rfl rfl ?_
    refine CallP.mk (Fc.imp (Go.Proofs.Ytepceieglhfnoaa.Frame.checkF _ ?_ _) ?_)
    · assumption
    rintro _ w3 ⟨e1, ⟨rfl, ⟨h1, H'⟩⟩⟩
    refine H.mergeK H' ?_
    clear H H'
    intro H
    refine Done.mk ?_
    refine ⟨?_, ?_⟩
    · exact congrArg Value.bool (vEq_T (by omega))
    exact H.finish
end Go.Proofs.Ytepceieglhfnoaa.Frame
