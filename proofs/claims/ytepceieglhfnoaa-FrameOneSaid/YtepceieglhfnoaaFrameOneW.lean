/- The law FrameOne. -/
import Derived.Test.YtepceieglhfnoaaFrame7
set_option maxRecDepth 100000
set_option maxHeartbeats 4000000
set_option linter.unusedVariables false
set_option linter.unusedSimpArgs false
namespace Go.Proofs.Ytepceieglhfnoaa.Frame
open Go Go.Proofs.Ytepceieglhfnoaa.Eng Go.RowKit
theorem frameOne (w : World) (s : List UInt8) (hs : s.length ≤ 9223372036854775807) : Fc Try.prog 7 #[.string (bs s)] w (fun v w' => v = .bool true ∧ Below w.heap.size w w') := by
  refine Fc.of Try.func7 rfl (by kernel_rfl) ?_
  have H := Sat.start w
  have hN := rd_nil
  rcases rd_ways s with ⟨f, hU, hc, hW, hB⟩ | ⟨e, he, hU⟩
  · have hP := wrR_ok hc
    refine CallP.mk (Fc.imp (Go.Proofs.Ytepceieglhfnoaa.Frame.read _ ?_ _) ?_)
    · (simp [vEq_iff]; done)
    rintro _ w1 ⟨x1, ⟨e1, ⟨rfl, ⟨h1, H'⟩⟩⟩⟩
    refine H.mergeK H' ?_
    clear H H'
    intro H
    first | rw [hN] at h1 | rw [hU] at h1
    obtain ⟨rfl, rfl⟩ := Prod.mk.inj h1
    clear h1
    refine rAllocS H rfl ?_
    clear H
    intro p1 w2 H
    clear w1
    refine rStAS H 0 rfl rfl rfl rfl ?_
    clear H
    intro w1 H
    clear w2
    refine cF (vNe_F (by rfl)) ?_
    refine CallP.mk (Fc.imp (Go.Proofs.Ytepceieglhfnoaa.Frame.read _ ?_ _) ?_)
    · assumption
    rintro _ w2 ⟨x1, ⟨e1, ⟨rfl, ⟨h1, H'⟩⟩⟩⟩
    refine H.mergeK H' ?_
    clear H H'
    intro H
    first | rw [hN] at h1 | rw [hU] at h1
    obtain ⟨rfl, rfl⟩ := Prod.mk.inj h1
    clear h1
    refine rAllocS H rfl ?_
    clear H
    intro p2 w3 H
    clear w2
    refine rStAS H 0 rfl rfl rfl rfl ?_
    clear H
    intro w2 H
    clear w3
    refine cF (vNe_F (by rfl)) ?_
    refine rLdA (H.at 0 rfl) 0 rfl rfl rfl ?_
    refine CallP.mk (Fc.imp (Go.Proofs.Ytepceieglhfnoaa.Frame.write _ ?_ _) ?_)
    · omega
    rintro _ w3 ⟨s1, ⟨e1, ⟨rfl, ⟨h1, H'⟩⟩⟩⟩
    refine H.mergeK H' ?_
    clear H H'
    intro H
    rw [hP] at h1
    obtain ⟨rfl, rfl⟩ := Prod.mk.inj h1
    clear h1
    refine br_t (vEq_T (by rfl)) ?_
    refine rStrEq ?_
    refine Done.mk ?_
    refine ⟨?_, ?_⟩
    · exact congrArg Value.bool (decide_eq_true hW.symm)
    exact H.finish
  · refine CallP.mk (Fc.imp (Go.Proofs.Ytepceieglhfnoaa.Frame.read _ ?_ _) ?_)
    · (simp [vEq_iff]; done)
    rintro _ w1 ⟨x1, ⟨e1, ⟨rfl, ⟨h1, H'⟩⟩⟩⟩
    refine H.mergeK H' ?_
    clear H H'
    intro H
    first | rw [hN] at h1 | rw [hU] at h1
    obtain ⟨rfl, rfl⟩ := Prod.mk.inj h1
    clear h1
    refine rAllocS H rfl ?_
    clear H
    intro p1 w2 H
    clear w1
    refine rStAS H 0 rfl rfl rfl rfl ?_
    clear H
    intro w1 H
    clear w2
    refine cF (vNe_F (by rfl)) ?_
    refine CallP.mk (Fc.imp (Go.Proofs.Ytepceieglhfnoaa.Frame.read _ ?_ _) ?_)
    · assumption
    rintro _ w2 ⟨x1, ⟨e1, ⟨rfl, ⟨h1, H'⟩⟩⟩⟩
    refine H.mergeK H' ?_
    clear H H'
    intro H
    first | rw [hN] at h1 | rw [hU] at h1
    obtain ⟨rfl, rfl⟩ := Prod.mk.inj h1
    clear h1
    refine rAllocS H rfl ?_
    clear H
    intro p2 w3 H
    clear w2
    refine rStAS H 0 rfl rfl rfl rfl ?_
    clear H
    intro w2 H
    clear w3
    refine cT (vNe_T (by assumption)) ?_
    refine rLdA (H.at 0 rfl) 0 rfl rfl rfl ?_
    refine rBuild rfl rfl rfl ?_
    refine rStructEq (by kernel_rfl) (by kernel_rfl) ?_
    refine Done.mk ?_
    refine ⟨?_, ?_⟩
    · (simp [vEq_iff, zeroF, bs]; done)
    exact H.finish
end Go.Proofs.Ytepceieglhfnoaa.Frame
