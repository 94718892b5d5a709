/- Package link: New, Offer, Waits, Tick. -/
import Derived.Test.YtepceieglhfnoaaBase
set_option maxRecDepth 100000
set_option maxHeartbeats 4000000
set_option linter.unusedVariables false
set_option linter.unusedSimpArgs false
namespace Go.Proofs.Ytepceieglhfnoaa.Link
open Go Go.Proofs.Ytepceieglhfnoaa.Eng Go.RowKit
structure O where
  body : List UInt8
  sent : Bool
  at' : Int
def enO (x : O) : List Value := [.string (bs x.body), .bool x.sent, .int .i64 x.at']
def okO (x : O) : Prop := True
structure LS where
  me : Int
  other : Int
  now : Int
  acked : Int
  highest : Int
  waits : List O
  came : Int
  e0 : Bool × List UInt8
  e1 : Bool × List UInt8
  e2 : Bool × List UInt8
  e3 : Bool × List UInt8
  owed : Bool
abbrev linkC (S : LS) (vw : Value) : List Value := [.int .i64 S.me, .int .i64 S.other, .int .i64 S.now, .int .i64 S.acked, .int .i64 S.highest, vw, .int .i64 S.came, .bool S.e0.1, .string (bs S.e0.2), .bool S.e1.1, .string (bs S.e1.2), .bool S.e2.1, .string (bs S.e2.2), .bool S.e3.1, .string (bs S.e3.2), .bool S.owed]
def newS (me other : Int) : LS := ⟨me, other, 0, 0, 0, [], 0, (false, []), (false, []), (false, []), (false, []), false⟩
theorem isBad (n : Int) (w : World) : Fc Try.prog 50 #[.int .i64 n] w (fun v w' => (∃ b, v = .bool b ∧ (b = true ↔ (n < 0 ∨ 3 ≤ n))) ∧ w = w') := by
  refine Fc.of Try.func50 rfl (by kernel_rfl) ?_
  have H := Sat.start w
  refine br (fun c1 => ?_) (fun c1 => ?_)
  · replace c1 := vLt_t (c1)
    refine Done.mk ?_
    (simp [vLe_iff, vLt_iff]; omega)
  replace c1 := vLt_f (c1)
  refine Done.mk ?_
  (simp [vLe_iff, vLt_iff]; omega)
end Go.Proofs.Ytepceieglhfnoaa.Link
