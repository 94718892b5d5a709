/- Package frame: signals. -/
import Derived.Test.YtepceieglhfnoaaBase
set_option maxRecDepth 100000
set_option maxHeartbeats 4000000
set_option linter.unusedVariables false
set_option linter.unusedSimpArgs false
namespace Go.Proofs.Ytepceieglhfnoaa.Frame
open Go Go.Proofs.Ytepceieglhfnoaa.Eng Go.RowKit
structure Sg where
  kind : Int
  fn : Int
  fm : Int
  tn : Int
  tm : Int
  ref : Int
  why : Int
  tag : Int
  body : List UInt8
abbrev cellsG (x : Sg) : List Value := [.int .i64 x.kind, .int .i64 x.fn, .int .i64 x.fm, .int .i64 x.tn, .int .i64 x.tm, .int .i64 x.ref, .int .i64 x.why, .int .i64 x.tag, .string (bs x.body)]
abbrev aggG (x : Sg) : Value := .agg #[.int .i64 x.kind, .int .i64 x.fn, .int .i64 x.fm, .int .i64 x.tn, .int .i64 x.tm, .int .i64 x.ref, .int .i64 x.why, .int .i64 x.tag, .string (bs x.body)]
theorem isNode (n : Int) (w : World) : Fc Try.prog 40 #[.int .i64 n] w (fun v w' => (∃ b, v = .bool b ∧ (b = true ↔ (0 ≤ n ∧ n < 3))) ∧ w = w') := by
  refine Fc.of Try.func40 rfl (by kernel_rfl) ?_
  have H := Sat.start w
  refine br (fun c1 => ?_) (fun c1 => ?_)
  · replace c1 := vLe_t (c1)
    refine Done.mk ?_
    exact ⟨⟨_, rfl, by simp [vLe_iff, vLt_iff]; omega⟩, rfl⟩
  replace c1 := vLe_f (c1)
  refine Done.mk ?_
  exact ⟨⟨_, rfl, by simp [vLe_iff, vLt_iff]; omega⟩, rfl⟩
theorem isOctet (n : Int) (w : World) : Fc Try.prog 49 #[.int .i64 n] w (fun v w' => (∃ b, v = .bool b ∧ (b = true ↔ (0 ≤ n ∧ n ≤ 255))) ∧ w = w') := by
  refine Fc.of Try.func49 rfl (by kernel_rfl) ?_
  have H := Sat.start w
  refine br (fun c1 => ?_) (fun c1 => ?_)
  · replace c1 := vLe_t (c1)
    refine Done.mk ?_
    exact ⟨⟨_, rfl, by simp [vLe_iff, vLt_iff]; omega⟩, rfl⟩
  replace c1 := vLe_f (c1)
  refine Done.mk ?_
  exact ⟨⟨_, rfl, by simp [vLe_iff, vLt_iff]; omega⟩, rfl⟩
end Go.Proofs.Ytepceieglhfnoaa.Frame
