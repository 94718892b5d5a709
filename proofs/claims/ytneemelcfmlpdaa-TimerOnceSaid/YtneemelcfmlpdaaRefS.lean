/- The document's Step. -/
import Derived.Test.YtneemelcfmlpdaaRefR
set_option maxRecDepth 100000
set_option maxHeartbeats 4000000
set_option linter.unusedVariables false
set_option linter.unusedSimpArgs false
namespace Go.Proofs.Ytneemelcfmlpdaa.Ref
open Go Go.Proofs.Ytneemelcfmlpdaa.Eng Go.RowKit
theorem step (n m : Int) (hn : -9223372036854775808 ≤ n ∧ n ≤ 9223372036854775807) (hm : 0 < m ∧ m ≤ 9223372036854775807) (w : World) : Fc Try.prog 15 #[.int .i64 n, .int .i64 m] w (fun v w' => v = .int .i64 (n % m) ∧ w = w') := by
  refine Fc.of Try.func15 rfl (by kernel_rfl) ?_
  have H := Sat.start w
  refine CallP.mk (Fc.imp (Go.Proofs.Ytneemelcfmlpdaa.Ref.rest _ _ ?_ ?_ _) ?_)
  · assumption
  · assumption
  rintro _ _ ⟨rfl, rfl⟩
  refine Done.mk ?_
  exact ⟨rfl, rfl⟩
end Go.Proofs.Ytneemelcfmlpdaa.Ref
