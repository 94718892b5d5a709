/- Package turns: Share. -/
import Derived.Test.YtcgenmddojgbpaaRefR
set_option maxRecDepth 100000
set_option maxHeartbeats 4000000
set_option linter.unusedVariables false
set_option linter.unusedSimpArgs false
namespace Go.Proofs.Ytcgenmddojgbpaa.Turns
open Go Go.Proofs.Ytcgenmddojgbpaa.Eng Go.RowKit
open Ref
def okI (n : Int) : Prop := True
def bad (n : Int) : Prop := n < 0 ∨ 2000 < n
theorem isBad (n : Int) (w : World) : Fc Try.prog 41 #[.int .i64 n] w (fun v w' => (∃ b, v = .bool b ∧ (b = true ↔ bad n)) ∧ w = w') := by
  refine Fc.of Try.func41 rfl (by kernel_rfl) ?_
  have H := Sat.start w
  refine br (fun c1 => ?_) (fun c1 => ?_)
  · replace c1 := vLt_t (c1)
    refine Done.mk ?_
    (simp [bad, vLt_iff]; omega)
  replace c1 := vLt_f (c1)
  refine Done.mk ?_
  (simp [bad, vLt_iff]; omega)
end Go.Proofs.Ytcgenmddojgbpaa.Turns
