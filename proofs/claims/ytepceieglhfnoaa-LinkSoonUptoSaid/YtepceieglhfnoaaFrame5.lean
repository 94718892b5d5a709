/- Package frame: Check, Write, Read. -/
import Derived.Test.YtepceieglhfnoaaFrame3
import Derived.Test.YtepceieglhfnoaaFrame4
set_option maxRecDepth 100000
set_option maxHeartbeats 4000000
set_option linter.unusedVariables false
set_option linter.unusedSimpArgs false
namespace Go.Proofs.Ytepceieglhfnoaa.Frame
open Go Go.Proofs.Ytepceieglhfnoaa.Eng Go.RowKit
structure Fr where
  src : Int
  dst : Int
  seq : Int
  ack : Int
  body : List UInt8
abbrev cellsF (x : Fr) : List Value := [.int .i64 x.src, .int .i64 x.dst, .int .i64 x.seq, .int .i64 x.ack, .string (bs x.body)]
abbrev aggF (x : Fr) : Value := .agg #[.int .i64 x.src, .int .i64 x.dst, .int .i64 x.seq, .int .i64 x.ack, .string (bs x.body)]
def okF (f : Fr) : Prop := (0 ≤ f.src ∧ f.src < 3) ∧ (0 ≤ f.dst ∧ f.dst < 3) ∧ f.src ≠ f.dst ∧ (0 ≤ f.seq ∧ f.seq ≤ 1099511627776) ∧ (0 ≤ f.ack ∧ f.ack ≤ 1099511627776) ∧ ¬ (f.seq = 0 ∧ f.body ≠ [])
open Classical in
noncomputable def chkF (f : Fr) : Int := if okF f then (if f.body.length ≤ 64 then 0 else 2) else 1
theorem isCount (n : Int) (w : World) : Fc Try.prog 41 #[.int .i64 n] w (fun v w' => (∃ b, v = .bool b ∧ (b = true ↔ (0 ≤ n ∧ n ≤ 1099511627776))) ∧ w = w') := by
  refine Fc.of Try.func41 rfl (by kernel_rfl) ?_
  have H := Sat.start w
  refine br (fun c1 => ?_) (fun c1 => ?_)
  · replace c1 := vLe_t (c1)
    refine Done.mk ?_
    exact ⟨⟨_, rfl, by simp [vLe_iff, vLt_iff]; omega⟩, rfl⟩
  replace c1 := vLe_f (c1)
  refine Done.mk ?_
  exact ⟨⟨_, rfl, by simp [vLe_iff, vLt_iff]; omega⟩, rfl⟩
end Go.Proofs.Ytepceieglhfnoaa.Frame
