/- Package frame: signals, checked. -/
import Derived.Test.YtepceieglhfnoaaFrame
set_option maxRecDepth 100000
set_option maxHeartbeats 4000000
set_option linter.unusedVariables false
set_option linter.unusedSimpArgs false
namespace Go.Proofs.Ytepceieglhfnoaa.Frame
open Go Go.Proofs.Ytepceieglhfnoaa.Eng Go.RowKit
theorem isPid (n m : Int) (w : World) : Fc Try.prog 48 #[.agg #[.int .i64 n, .int .i64 m]] w (fun v w' => (∃ b, v = .bool b ∧ (b = true ↔ (0 ≤ n ∧ n < 3 ∧ 1 ≤ m ∧ m ≤ 16))) ∧ Sat (froz w) w' []) := by
  refine Fc.of Try.func48 rfl (by kernel_rfl) ?_
  have H := Sat.start w
  refine rBoxS H ?_
  clear H
  intro p1 w1 H
  refine rFieldAt rfl ?_
  refine rLd (H.at 0 rfl) 0 rfl rfl rfl ?_
  refine CallP.mk (Fc.imp (Go.Proofs.Ytepceieglhfnoaa.Frame.isNode _ _) ?_)
  rintro _ _ ⟨⟨b1, ⟨rfl, h1⟩⟩, rfl⟩
  refine br (fun c1 => ?_) (fun c1 => ?_)
  · replace c1 := h1.1 (c1)
    refine rFieldAt rfl ?_
    refine rLd (H.at 0 rfl) 1 rfl rfl rfl ?_
    refine br (fun c2 => ?_) (fun c2 => ?_)
    · replace c2 := vLe_t (c2)
      refine rFieldAt rfl ?_
      refine rLd (H.at 0 rfl) 1 rfl rfl rfl ?_
      refine Done.mk ?_
      exact ⟨⟨_, rfl, by simp [vLe_iff, vLt_iff]; omega⟩, H.firsts 0 (fun H => H)⟩
    replace c2 := vLe_f (c2)
    refine Done.mk ?_
    exact ⟨⟨_, rfl, by simp [vLe_iff, vLt_iff]; omega⟩, H.firsts 0 (fun H => H)⟩
  replace c1 := iff_f h1 (c1)
  refine Done.mk ?_
  exact ⟨⟨_, rfl, by simp [vLe_iff, vLt_iff]; omega⟩, H.firsts 0 (fun H => H)⟩
def okG (x : Sg) : Prop := 1 ≤ x.kind ∧ x.kind ≤ 6 ∧ (0 ≤ x.fn ∧ x.fn < 3 ∧ 1 ≤ x.fm ∧ x.fm ≤ 16) ∧ (0 ≤ x.tn ∧ x.tn < 3 ∧ 1 ≤ x.tm ∧ x.tm ≤ 16) ∧ (0 ≤ x.ref ∧ x.ref ≤ 255) ∧ (0 ≤ x.why ∧ x.why ≤ 255) ∧ (0 ≤ x.tag ∧ x.tag ≤ 255)
open Classical in
noncomputable def chkG (x : Sg) : Int := if okG x then (if x.body.length ≤ 32 then 0 else 2) else 1
end Go.Proofs.Ytepceieglhfnoaa.Frame
