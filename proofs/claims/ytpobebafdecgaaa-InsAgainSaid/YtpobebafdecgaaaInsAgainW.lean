/- The law InsAgain. -/
import Derived.Test.YtpobebafdecgaaaInsE
import Derived.Test.YtpobebafdecgaaaInsW
import Derived.Test.YtpobebafdecgaaaInsRd
import Derived.Test.YtpobebafdecgaaaRefR
set_option maxRecDepth 100000
set_option maxHeartbeats 4000000
set_option linter.unusedVariables false
set_option linter.unusedSimpArgs false
namespace Go.Proofs.Ytpobebafdecgaaa.Ins
open Go Go.Proofs.Ytpobebafdecgaaa.Eng Go.RowKit
open Leb
theorem rd_nil : rdI [] = (zeroI, 0, 3) := by
  have : insR [] ⟨0, 0⟩ = (zeroI, ⟨0, 3⟩) := rfl
  unfold rdI
  rw [this]; rfl
theorem rdI_zero {s : List UInt8} {x : InsD} {n : Nat} {e : Int} (h : rdI s = (x, n, e)) (he : e ≠ 0) : n = 0 := by
  unfold rdI at h
  split at h
  · injection h with _ h; injection h with _ h; exact absurd h.symm he
  · injection h with _ h; injection h with h _; exact h.symm
theorem txt_pos (x : InsD) : 0 < (txt x).length := by unfold txt; simp
theorem insAgain (w : World) (s : List UInt8) (at_ : Int) (hs : s.length ≤ 9223372036854775807) (hat : I64 at_) : Fc Try.prog 7 #[.string (bs s), .int .i64 at_] w (fun v w' => v = .bool true ∧ Below w.heap.size w w') := by
  refine Fc.of Try.func7 rfl (by kernel_rfl) ?_
  have H := Sat.start w
  have hn := rd_nil
  refine CallP.mk (Fc.imp (Go.Proofs.Ytpobebafdecgaaa.Ins.read _ ?_ _) ?_)
  · (simp only [List.length_append, List.length_set, List.length_cons, List.length_nil]; omega)
  rintro _ w1 ⟨o1, ⟨a1, ⟨b1, ⟨tv1, ⟨to1, ⟨n1, ⟨e1, ⟨rfl, ⟨h1, ⟨h2, ⟨⟨h3, h4⟩, H'⟩⟩⟩⟩⟩⟩⟩⟩⟩⟩⟩
  refine H.mergeK H' ?_
  clear H H'
  intro H
  rw [hn] at h1
  obtain ⟨_, hq⟩ := Prod.mk.inj h1
  obtain ⟨hq1, hq2⟩ := Prod.mk.inj hq
  subst hq1
  subst hq2
  refine rAllocS H rfl ?_
  clear H
  intro p1 w2 H
  clear w1
  refine rStAS H 0 rfl rfl rfl (by simp only [List.all_cons, List.all_nil, H.one 1 rfl]; rfl) ?_
  clear H
  intro w1 H
  clear w2
  refine cF (vNe_F (by omega)) ?_
  refine CallP.mk (Fc.imp (Go.Proofs.Ytpobebafdecgaaa.Ins.read _ ?_ _) ?_)
  · assumption
  rintro _ w2 ⟨o2, ⟨a2, ⟨b2, ⟨tv2, ⟨to2, ⟨n1, ⟨e1, ⟨rfl, ⟨h5, ⟨h6, ⟨⟨h7, h8⟩, H'⟩⟩⟩⟩⟩⟩⟩⟩⟩⟩⟩
  refine H.mergeK H' ?_
  clear H H'
  intro H
  refine rAllocS H rfl ?_
  clear H
  intro p2 w3 H
  clear w2
  refine rStAS H 0 rfl rfl rfl (by simp only [List.all_cons, List.all_nil, H.one 1 rfl, H.one 3 rfl]; rfl) ?_
  clear H
  intro w2 H
  clear w3
  refine cI (fun c1 => ?_) (fun c1 => ?_)
  · replace c1 := vNe_t (c1)
    refine Done.mk ?_
    refine ⟨?_, ?_⟩
    · exact congrArg Value.bool (vEq_T (by rw [rdI_zero h5 (by assumption)]; rfl))
    exact H.finish
  replace c1 := vNe_f (c1)
  refine rLdA (H.at 0 rfl) 0 rfl rfl rfl ?_
  subst c1
  obtain ⟨k1, k2, k3, hc, hl, ha, hb⟩ := rdI_told h5
  simp only at k2 k3 ha hb
  have hp := txt_pos ⟨o2, a2, b2, to2⟩
  have hto : ∀ n ∈ to2, okI n := h6.2.2
  obtain ⟨tx, htx⟩ : ∃ tx, tx = txt ⟨o2, a2, b2, to2⟩ := ⟨_, rfl⟩
  rw [← htx] at hl hp
  refine CallP.mk (Fc.imp (Go.Proofs.Ytpobebafdecgaaa.Ins.write _ _ _ _ _ _ ?_ ?_ (H.rdo 1 rfl ?_)) ?_)
  · omega
  · assumption
  · assumption
  rintro _ w3 ⟨t1, ⟨e1, ⟨rfl, ⟨h9, ⟨h10, ⟨h11, H'⟩⟩⟩⟩⟩⟩
  refine H.mergeK H' ?_
  clear H H'
  intro H
  rw [hc] at h9
  subst h9
  rw [if_pos hc, ← htx] at h10
  subst h10
  refine br_f (vNe_F (by omega)) ?_
  refine rStrEq ?_
  refine br (fun c1 => ?_) (fun c1 => ?_)
  · replace c1 := dec_t (c1)
    refine cT rfl ?_
    refine Done.mk ?_
    (subst c1; exact absurd hp (Nat.lt_irrefl 0))
  replace c1 := dec_f (c1)
  refine rLenStr rfl ?_
  refine br_f (vLt_F (by omega)) ?_
  refine rLenStr rfl ?_
  refine cF (vLt_F (by omega)) ?_
  refine rLenStr rfl ?_
  have hcut := fun j h => rdI_cut (j := j) hc ⟨k2, k3⟩ ha h
  have hm1 := Int.emod_nonneg at_ (b := (t1.length : Int)) (by omega)
  have hm2 := Int.emod_lt_of_pos at_ (b := (t1.length : Int)) (by omega)
  rw [← htx] at hcut
  refine CallP.mk (Fc.imp (Go.Proofs.Ytpobebafdecgaaa.Ref.rest _ _ ?_ ?_ _) ?_)
  · assumption
  · omega
  rintro _ _ ⟨rfl, rfl⟩
  refine rSubH rfl (at_ % (↑t1.length : Int)).toNat (by omega) (by omega) ?_
  refine CallP.mk (Fc.imp (Go.Proofs.Ytpobebafdecgaaa.Ins.read _ ?_ _) ?_)
  · (simp; omega)
  rintro _ w4 ⟨o3, ⟨a3, ⟨b3, ⟨tv3, ⟨to3, ⟨n2, ⟨e1, ⟨rfl, ⟨h9, ⟨h10, ⟨⟨h12, h13⟩, H'⟩⟩⟩⟩⟩⟩⟩⟩⟩⟩⟩
  refine H.mergeK H' ?_
  clear H H'
  intro H
  refine rAllocS H rfl ?_
  clear H
  intro p3 w5 H
  clear w4
  refine rStAS H 0 rfl rfl rfl (by simp only [List.all_cons, List.all_nil, H.one 1 rfl, H.one 3 rfl, H.one 5 rfl]; rfl) ?_
  clear H
  intro w4 H
  clear w5
  refine Done.mk ?_
  refine ⟨?_, ?_⟩
  · exact congrArg Value.bool (vEq_T (by have := hcut _ (show (at_ % (t1.length : Int)).toNat < t1.length by omega); rw [h9] at this; exact this))
  exact H.finish
end Go.Proofs.Ytpobebafdecgaaa.Ins
