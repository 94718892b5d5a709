/- The law FrameSignals. -/
import Derived.Test.YtepceieglhfnoaaFrame3
import Derived.Test.YtepceieglhfnoaaOpen
set_option maxRecDepth 100000
set_option maxHeartbeats 4000000
set_option linter.unusedVariables false
set_option linter.unusedSimpArgs false
namespace Go.Proofs.Ytepceieglhfnoaa.Frame
open Go Go.Proofs.Ytepceieglhfnoaa.Eng Go.RowKit
def okS (x : Sg) : Prop := x.body.length ≤ 9223372036854775807
theorem fitsG (cs : List Value) (h : fitsL [.int .i64, .int .i64, .int .i64, .int .i64, .int .i64, .int .i64, .int .i64, .int .i64, .str] cs) : ∃ x, cs = cellsG x ∧ okS x := by
  obtain ⟨_, _, rfl, ⟨a, rfl, _⟩, _, _, rfl, ⟨b, rfl, _⟩, _, _, rfl, ⟨c, rfl, _⟩, _, _, rfl, ⟨d, rfl, _⟩, _, _, rfl, ⟨e, rfl, _⟩, _, _, rfl, ⟨f, rfl, _⟩, _, _, rfl, ⟨g, rfl, _⟩, _, _, rfl, ⟨i, rfl, _⟩, _, _, rfl, ⟨l, rfl, hl⟩, rfl⟩ := h
  exact ⟨⟨a, b, c, d, e, f, g, i, l⟩, rfl, hl⟩
theorem frameSignals (w : World) (x : Sg) (t : List UInt8) (hx : okS x) (ht : t.length ≤ 9223372036854775807) : Fc Try.prog 3 #[.agg (cellsG x).toArray, .string (bs t)] w (fun v w' => v = .bool true ∧ Below w.heap.size w w') := by
  have hx : x.body.length ≤ 9223372036854775807 := hx
  refine Fc.of Try.func3 rfl (by kernel_rfl) ?_
  have H := Sat.start w
  by_cases hc : chkG x = 0
  · have hP := packR_ok hc
    have hU := unR_pack hc
    have hL := pack_len x
    have hB := (chk_ok hc).2
    rcases unR_ways t with ⟨X, hT, hQ, hXB⟩ | ⟨e, he, hT⟩
    · refine rBoxS H ?_
      clear H
      intro p1 w1 H
      refine rLdA (H.at 0 rfl) 0 rfl rfl rfl ?_
      refine CallP.mk (Fc.imp (Go.Proofs.Ytepceieglhfnoaa.Frame.pack _ ?_ _) ?_)
      · assumption
      rintro _ w2 ⟨s1, ⟨e1, ⟨rfl, ⟨h1, H'⟩⟩⟩⟩
      refine H.mergeK H' ?_
      clear H H'
      intro H
      first | rw [hP] at h1 | rw [hQ] at h1
      obtain ⟨rfl, rfl⟩ := Prod.mk.inj h1
      clear h1
      refine CallP.mk (Fc.imp (Go.Proofs.Ytepceieglhfnoaa.Frame.unpack _ ?_ _) ?_)
      · omega
      rintro _ w3 ⟨x1, ⟨e1, ⟨rfl, ⟨h1, H'⟩⟩⟩⟩
      refine H.mergeK H' ?_
      clear H H'
      intro H
      first | rw [hU] at h1 | rw [hT] at h1
      obtain ⟨rfl, rfl⟩ := Prod.mk.inj h1
      clear h1
      refine rAllocS H rfl ?_
      clear H
      intro p2 w4 H
      clear w3
      refine rStAS H 0 rfl rfl rfl rfl ?_
      clear H
      intro w3 H
      clear w4
      refine br_t (vEq_T (by rfl)) ?_
      refine br_f (vNe_F (by rfl)) ?_
      refine rLdA (H.at 1 rfl) 0 rfl rfl rfl ?_
      refine rLdA (H.at 0 rfl) 0 rfl rfl rfl ?_
      refine rStructNe (by kernel_rfl) (by kernel_rfl) ?_
      refine br_f (not_F ((by (simp [vEq_iff]; done)))) ?_
      refine rLenStr rfl ?_
      refine rFieldAt rfl ?_
      refine rLd (H.at 1 rfl) 8 rfl rfl rfl ?_
      refine rLenStr rfl ?_
      refine eqI64 (by omega) ?_
      refine br_f (vNe_F (by omega)) ?_
      refine br_f (vNe_F (by rfl)) ?_
      refine cF rfl ?_
      refine CallP.mk (Fc.imp (Go.Proofs.Ytepceieglhfnoaa.Frame.unpack _ ?_ _) ?_)
      · assumption
      rintro _ w4 ⟨x2, ⟨e1, ⟨rfl, ⟨h1, H'⟩⟩⟩⟩
      refine H.mergeK H' ?_
      clear H H'
      intro H
      first | rw [hU] at h1 | rw [hT] at h1
      obtain ⟨rfl, rfl⟩ := Prod.mk.inj h1
      clear h1
      refine rAllocS H rfl ?_
      clear H
      intro p3 w5 H
      clear w4
      refine rStAS H 0 rfl rfl rfl rfl ?_
      clear H
      intro w4 H
      clear w5
      refine rLdA (H.at 0 rfl) 0 rfl rfl rfl ?_
      refine CallP.mk (Fc.imp (Go.Proofs.Ytepceieglhfnoaa.Frame.pack _ ?_ _) ?_)
      · omega
      rintro _ w5 ⟨s1, ⟨e1, ⟨rfl, ⟨h1, H'⟩⟩⟩⟩
      refine H.mergeK H' ?_
      clear H H'
      intro H
      first | rw [hP] at h1 | rw [hQ] at h1
      obtain ⟨rfl, rfl⟩ := Prod.mk.inj h1
      clear h1
      refine br_f (vNe_F (by rfl)) ?_
      refine br_t (vEq_T (by rfl)) ?_
      refine br_t (vEq_T (by rfl)) ?_
      refine rStrEq ?_
      refine Done.mk ?_
      refine ⟨?_, ?_⟩
      · (simp [vEq_iff]; done)
      exact H.finish
    · have hQ := packR_zero
      refine rBoxS H ?_
      clear H
      intro p1 w1 H
      refine rLdA (H.at 0 rfl) 0 rfl rfl rfl ?_
      refine CallP.mk (Fc.imp (Go.Proofs.Ytepceieglhfnoaa.Frame.pack _ ?_ _) ?_)
      · assumption
      rintro _ w2 ⟨s1, ⟨e1, ⟨rfl, ⟨h1, H'⟩⟩⟩⟩
      refine H.mergeK H' ?_
      clear H H'
      intro H
      first | rw [hP] at h1 | rw [hQ] at h1
      obtain ⟨rfl, rfl⟩ := Prod.mk.inj h1
      clear h1
      refine CallP.mk (Fc.imp (Go.Proofs.Ytepceieglhfnoaa.Frame.unpack _ ?_ _) ?_)
      · omega
      rintro _ w3 ⟨x1, ⟨e1, ⟨rfl, ⟨h1, H'⟩⟩⟩⟩
      refine H.mergeK H' ?_
      clear H H'
      intro H
      first | rw [hU] at h1 | rw [hT] at h1
      obtain ⟨rfl, rfl⟩ := Prod.mk.inj h1
      clear h1
      refine rAllocS H rfl ?_
      clear H
      intro p2 w4 H
      clear w3
      refine rStAS H 0 rfl rfl rfl rfl ?_
      clear H
      intro w3 H
      clear w4
      refine br_t (vEq_T (by rfl)) ?_
      refine br_f (vNe_F (by rfl)) ?_
      refine rLdA (H.at 1 rfl) 0 rfl rfl rfl ?_
      refine rLdA (H.at 0 rfl) 0 rfl rfl rfl ?_
      refine rStructNe (by kernel_rfl) (by kernel_rfl) ?_
      refine br_f (not_F ((by (simp [vEq_iff]; done)))) ?_
      refine rLenStr rfl ?_
      refine rFieldAt rfl ?_
      refine rLd (H.at 1 rfl) 8 rfl rfl rfl ?_
      refine rLenStr rfl ?_
      refine eqI64 (by omega) ?_
      refine br_f (vNe_F (by omega)) ?_
      refine br_f (vNe_F (by rfl)) ?_
      refine cF rfl ?_
      refine CallP.mk (Fc.imp (Go.Proofs.Ytepceieglhfnoaa.Frame.unpack _ ?_ _) ?_)
      · assumption
      rintro _ w4 ⟨x2, ⟨e1, ⟨rfl, ⟨h1, H'⟩⟩⟩⟩
      refine H.mergeK H' ?_
      clear H H'
      intro H
      first | rw [hU] at h1 | rw [hT] at h1
      obtain ⟨rfl, rfl⟩ := Prod.mk.inj h1
      clear h1
      refine rAllocS H rfl ?_
      clear H
      intro p3 w5 H
      clear w4
      refine rStAS H 0 rfl rfl rfl rfl ?_
      clear H
      intro w4 H
      clear w5
      refine rLdA (H.at 0 rfl) 0 rfl rfl rfl ?_
      refine CallP.mk (Fc.imp (Go.Proofs.Ytepceieglhfnoaa.Frame.pack _ ?_ _) ?_)
      · (simp [vEq_iff, zeroG, bs]; done)
      rintro _ w5 ⟨s1, ⟨e2, ⟨rfl, ⟨h1, H'⟩⟩⟩⟩
      refine H.mergeK H' ?_
      clear H H'
      intro H
      first | rw [hP] at h1 | rw [hQ] at h1
      obtain ⟨rfl, rfl⟩ := Prod.mk.inj h1
      clear h1
      refine br_t (vNe_T (by assumption)) ?_
      refine rLdA (H.at 0 rfl) 0 rfl rfl rfl ?_
      refine rBuild rfl rfl rfl ?_
      refine rStructEq (by kernel_rfl) (by kernel_rfl) ?_
      refine br_t ((by (simp [vEq_iff, zeroG, bs]; done))) ?_
      refine br_t (vEq_T (by rfl)) ?_
      refine Done.mk ?_
      exact ⟨rfl, H.finish⟩
  · have hP := packR_bad hc
    have hU := unR_nil
    rcases unR_ways t with ⟨X, hT, hQ, hXB⟩ | ⟨e, he, hT⟩
    · refine rBoxS H ?_
      clear H
      intro p1 w1 H
      refine rLdA (H.at 0 rfl) 0 rfl rfl rfl ?_
      refine CallP.mk (Fc.imp (Go.Proofs.Ytepceieglhfnoaa.Frame.pack _ ?_ _) ?_)
      · assumption
      rintro _ w2 ⟨s1, ⟨e1, ⟨rfl, ⟨h1, H'⟩⟩⟩⟩
      refine H.mergeK H' ?_
      clear H H'
      intro H
      first | rw [hP] at h1 | rw [hQ] at h1
      obtain ⟨rfl, rfl⟩ := Prod.mk.inj h1
      clear h1
      refine CallP.mk (Fc.imp (Go.Proofs.Ytepceieglhfnoaa.Frame.unpack _ ?_ _) ?_)
      · (simp [vEq_iff]; done)
      rintro _ w3 ⟨x1, ⟨e1, ⟨rfl, ⟨h1, H'⟩⟩⟩⟩
      refine H.mergeK H' ?_
      clear H H'
      intro H
      first | rw [hU] at h1 | rw [hT] at h1
      obtain ⟨rfl, rfl⟩ := Prod.mk.inj h1
      clear h1
      refine rAllocS H rfl ?_
      clear H
      intro p2 w4 H
      clear w3
      refine rStAS H 0 rfl rfl rfl rfl ?_
      clear H
      intro w3 H
      clear w4
      refine br_f (vEq_F (by assumption)) ?_
      refine br_t (vNe_T (by assumption)) ?_
      refine rStrNe ?_
      refine cF rfl ?_
      refine CallP.mk (Fc.imp (Go.Proofs.Ytepceieglhfnoaa.Frame.unpack _ ?_ _) ?_)
      · assumption
      rintro _ w4 ⟨x1, ⟨e1, ⟨rfl, ⟨h1, H'⟩⟩⟩⟩
      refine H.mergeK H' ?_
      clear H H'
      intro H
      first | rw [hU] at h1 | rw [hT] at h1
      obtain ⟨rfl, rfl⟩ := Prod.mk.inj h1
      clear h1
      refine rAllocS H rfl ?_
      clear H
      intro p3 w5 H
      clear w4
      refine rStAS H 0 rfl rfl rfl rfl ?_
      clear H
      intro w4 H
      clear w5
      refine rLdA (H.at 0 rfl) 0 rfl rfl rfl ?_
      refine CallP.mk (Fc.imp (Go.Proofs.Ytepceieglhfnoaa.Frame.pack _ ?_ _) ?_)
      · omega
      rintro _ w5 ⟨s1, ⟨e1, ⟨rfl, ⟨h1, H'⟩⟩⟩⟩
      refine H.mergeK H' ?_
      clear H H'
      intro H
      first | rw [hP] at h1 | rw [hQ] at h1
      obtain ⟨rfl, rfl⟩ := Prod.mk.inj h1
      clear h1
      refine br_f (vNe_F (by rfl)) ?_
      refine br_t (vEq_T (by rfl)) ?_
      refine br_t (vEq_T (by rfl)) ?_
      refine rStrEq ?_
      refine Done.mk ?_
      refine ⟨?_, ?_⟩
      · (simp [vEq_iff]; done)
      exact H.finish
    · have hQ := packR_zero
      refine rBoxS H ?_
      clear H
      intro p1 w1 H
      refine rLdA (H.at 0 rfl) 0 rfl rfl rfl ?_
      refine CallP.mk (Fc.imp (Go.Proofs.Ytepceieglhfnoaa.Frame.pack _ ?_ _) ?_)
      · assumption
      rintro _ w2 ⟨s1, ⟨e1, ⟨rfl, ⟨h1, H'⟩⟩⟩⟩
      refine H.mergeK H' ?_
      clear H H'
      intro H
      first | rw [hP] at h1 | rw [hQ] at h1
      obtain ⟨rfl, rfl⟩ := Prod.mk.inj h1
      clear h1
      refine CallP.mk (Fc.imp (Go.Proofs.Ytepceieglhfnoaa.Frame.unpack _ ?_ _) ?_)
      · (simp [vEq_iff]; done)
      rintro _ w3 ⟨x1, ⟨e1, ⟨rfl, ⟨h1, H'⟩⟩⟩⟩
      refine H.mergeK H' ?_
      clear H H'
      intro H
      first | rw [hU] at h1 | rw [hT] at h1
      obtain ⟨rfl, rfl⟩ := Prod.mk.inj h1
      clear h1
      refine rAllocS H rfl ?_
      clear H
      intro p2 w4 H
      clear w3
      refine rStAS H 0 rfl rfl rfl rfl ?_
      clear H
      intro w3 H
      clear w4
      refine br_f (vEq_F (by assumption)) ?_
      refine br_t (vNe_T (by assumption)) ?_
      refine rStrNe ?_
      refine cF rfl ?_
      refine CallP.mk (Fc.imp (Go.Proofs.Ytepceieglhfnoaa.Frame.unpack _ ?_ _) ?_)
      · assumption
      rintro _ w4 ⟨x1, ⟨e1, ⟨rfl, ⟨h1, H'⟩⟩⟩⟩
      refine H.mergeK H' ?_
      clear H H'
      intro H
      first | rw [hU] at h1 | rw [hT] at h1
      obtain ⟨rfl, rfl⟩ := Prod.mk.inj h1
      clear h1
      refine rAllocS H rfl ?_
      clear H
      intro p3 w5 H
      clear w4
      refine rStAS H 0 rfl rfl rfl rfl ?_
      clear H
      intro w4 H
      clear w5
      refine rLdA (H.at 0 rfl) 0 rfl rfl rfl ?_
      refine CallP.mk (Fc.imp (Go.Proofs.Ytepceieglhfnoaa.Frame.pack _ ?_ _) ?_)
      · (simp [vEq_iff, zeroG, bs]; done)
      rintro _ w5 ⟨s1, ⟨e2, ⟨rfl, ⟨h1, H'⟩⟩⟩⟩
      refine H.mergeK H' ?_
      clear H H'
      intro H
      first | rw [hP] at h1 | rw [hQ] at h1
      obtain ⟨rfl, rfl⟩ := Prod.mk.inj h1
      clear h1
      refine br_t (vNe_T (by assumption)) ?_
      refine rLdA (H.at 0 rfl) 0 rfl rfl rfl ?_
      refine rBuild rfl rfl rfl ?_
      refine rStructEq (by kernel_rfl) (by kernel_rfl) ?_
      refine br_t ((by (simp [vEq_iff, zeroG, bs]; done))) ?_
      refine br_t (vEq_T (by rfl)) ?_
      refine Done.mk ?_
      exact ⟨rfl, H.finish⟩
end Go.Proofs.Ytepceieglhfnoaa.Frame
