/- The law LebNamed. -/
import Derived.Test.YtfhchhkddblmkaaDoorLebNm
set_option maxRecDepth 100000
set_option maxHeartbeats 4000000
set_option linter.unusedVariables false
set_option linter.unusedSimpArgs false
namespace Go.Proofs.YtfhchhkddblmkaaDoor.Leb
open Go Go.Proofs.YtfhchhkddblmkaaDoor.Eng Go.RowKit
theorem lebNamed (w : World) (s more : List UInt8) (hs : s.length ≤ 1048576) (hm : more.length ≤ 1048576) (hT : U8F (froz w)) : Fc Tryd.prog 3 #[.string (bs s), .string (bs more)] w (fun v w' => v = .bool true ∧ Below w.heap.size w w') := by
  refine Fc.of Tryd.func3 rfl (by kernel_rfl) ?_
  have H := Sat.start w
  by_cases h16 : 16 < s.length
  · have hE : nameE s = 2 := if_pos h16
    refine CallP.mk (Fc.imp (Go.Proofs.YtfhchhkddblmkaaDoor.Leb.name H ?_ _ ?_) ?_)
    · assumption
    · omega
    clear H
    rintro _ w1 ⟨t1, ⟨e1, ⟨rfl, ⟨h1, ⟨h2, ⟨h3, H⟩⟩⟩⟩⟩⟩
    rw [hE] at h1 h2
    rw [if_neg (by decide)] at h2
    subst h1
    subst h2
    refine rLenStr rfl ?_
    refine cT (vLt_T (by omega)) ?_
    refine br_t (vEq_T (by omega)) ?_
    refine rStrEq ?_
    refine Done.mk ?_
    exact ⟨rfl, H.finish⟩
  · have hv := valid_ff _ (s.take (s.length / 2)) (Nat.le_refl _)
    have hE2 : nameE (s.take (s.length / 2) ++ [255]) = 4 := by
      unfold nameE
      rw [if_neg (by rw [List.length_append, List.length_take]; simp; omega), if_neg (by rw [hv]; decide)]
    have hE3 : nameE s = 0 ∨ nameE s = 4 := by
      unfold nameE
      rw [if_neg h16]
      split
      · exact .inl rfl
      · exact .inr rfl
    refine CallP.mk (Fc.imp (Go.Proofs.YtfhchhkddblmkaaDoor.Leb.name H ?_ _ ?_) ?_)
    · assumption
    · omega
    clear H
    rintro _ w1 ⟨t1, ⟨e1, ⟨rfl, ⟨h1, ⟨h2, ⟨h3, H⟩⟩⟩⟩⟩⟩
    refine rLenStr rfl ?_
    refine cF (vLt_F (by omega)) ?_
    refine rLenStr rfl ?_
    refine DivP.mk (by decide) ?_
    refine eqQuo (by omega) (by omega) ?_
    refine rSubH rfl ((s.length) / 2) (by omega) (by omega) ?_
    refine rCat (by (simp; omega)) ?_
    refine CallP.mk (Fc.imp (Go.Proofs.YtfhchhkddblmkaaDoor.Leb.name H ?_ _ ?_) ?_)
    · assumption
    · (simp; omega)
    clear H
    rintro _ w2 ⟨t2, ⟨e2, ⟨rfl, ⟨h4, ⟨h5, ⟨h6, H⟩⟩⟩⟩⟩⟩
    refine cF (vNe_F (by omega)) ?_
    refine cI (fun c1 => ?_) (fun c1 => ?_)
    · replace c1 := vNe_t (c1)
      refine br_t (vEq_T (by omega)) ?_
      refine rStrEq ?_
      refine Done.mk ?_
      refine ⟨?_, ?_⟩
      · exact congrArg Value.bool (decide_eq_true (h2.trans (if_neg (fun hz => c1 (h1.trans hz)))))
      exact H.finish
    replace c1 := vNe_f (c1)
    refine rCat (by omega) ?_
    have h0 : nameE s = 0 := h1.symm.trans c1
    have hvs : Lib.validD s = true := by
      unfold nameE at h0
      rw [if_neg h16] at h0
      split at h0
      · assumption
      · omega
    have ht1 : t1 ++ more = uleb s.length ++ (s ++ more) := by rw [h2, if_pos h0, List.append_assoc]
    have htl : t1.length = (uleb s.length).length + s.length := by rw [h2, if_pos h0, List.length_append]
    have hlm : (t1 ++ more).length = t1.length + more.length := List.length_append
    refine CallP.mk (Fc.imp (Go.Proofs.YtfhchhkddblmkaaDoor.Leb.readName H ?_ _ _ _ ht1 ?_ ?_ ?_) ?_)
    · assumption
    · omega
    · assumption
    · omega
    clear H
    rintro _ w3 ⟨rfl, H⟩
    refine br_t (vEq_T (by omega)) ?_
    refine rStrEq ?_
    refine br (fun c2 => ?_) (fun c2 => ?_)
    · replace c2 := dec_t (c2)
      refine rLenStr rfl ?_
      refine Done.mk ?_
      refine ⟨?_, ?_⟩
      · exact congrArg Value.bool (vEq_T (by omega))
      exact H.finish
    replace c2 := dec_f (c2)
    refine Done.mk ?_
    exact absurd rfl (by assumption)
end Go.Proofs.YtfhchhkddblmkaaDoor.Leb
