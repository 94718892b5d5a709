/- The remainder that is never negative: trouperef.Rest. -/
import Derived.Test.YtkkfjhaknbaiaaaMem
import Derived.Test.YtkkfjhaknbaiaaaRows
set_option maxRecDepth 100000
namespace Go.Proofs.Ytkkfjhaknbaiaaa.Eng
open Go Go.RowKit
theorem restW (n m : Int) (hn : -9223372036854775808 ≤ n ∧ n ≤ 9223372036854775807) (hm : 0 < m ∧ m ≤ 9223372036854775807) (w : World) :
    Fc Try.prog 17 #[.int .i64 n, .int .i64 m] w (fun v w' => (∃ r, v = .int .i64 r ∧ r = n % m) ∧ w = w') := by
  refine Fc.of Try.func17 rfl (by kernel_rfl) ?_
  refine DivP.mk (by omega) ?_
  have e : vRem n m = n.tmod m := by unfold vRem; rfl
  have h1 := Int.emod_lt_of_pos n hm.1
  have h2 := Int.emod_nonneg n (show m ≠ 0 by omega)
  have h3 : n.tmod m = if 0 ≤ n ∨ m ∣ n then n % m else n % m - m := by
    rw [Int.tmod_eq_emod]
    split
    · simp
    · rw [Int.natAbs_of_nonneg (by omega)]
  refine cI (fun h => ?_) (fun h => ?_)
  · have h := vLt_t h
    refine Done.mk ⟨⟨_, rfl, ?_⟩, rfl⟩
    rw [e] at h
    have hneg : ¬ (0 ≤ n ∨ m ∣ n) := by intro hh; rw [h3, if_pos hh] at h; omega
    rw [e, h3, if_neg hneg, wi64 (by omega)]
    omega
  · have h := vLt_f h
    refine Done.mk ⟨⟨_, rfl, ?_⟩, rfl⟩
    rw [e] at h
    have hpos : 0 ≤ n ∨ m ∣ n := by
      apply Decidable.byContradiction
      intro hh; rw [h3, if_neg hh] at h; omega
    rw [e, h3, if_pos hpos]
end Go.Proofs.Ytkkfjhaknbaiaaa.Eng
