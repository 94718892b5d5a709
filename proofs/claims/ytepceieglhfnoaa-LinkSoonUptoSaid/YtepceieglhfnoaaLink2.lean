/- Package link: New, Offer, Waits, Tick. -/
import Derived.Test.YtepceieglhfnoaaLink
set_option maxRecDepth 100000
set_option maxHeartbeats 4000000
set_option linter.unusedVariables false
set_option linter.unusedSimpArgs false
namespace Go.Proofs.Ytepceieglhfnoaa.Link
open Go Go.Proofs.Ytepceieglhfnoaa.Eng Go.RowKit
theorem new (me other : Int) (w : World) : Fc Try.prog 43 #[.int .i64 me, .int .i64 other] w (fun v w' => (∃ p, v = .tuple #[.pointer (some ⟨p, 0, none⟩), .int .i64 0] ∧ (0 ≤ me ∧ me < 3 ∧ 0 ≤ other ∧ other < 3 ∧ me ≠ other) ∧ Sat (froz w) w' [Pt p (linkC (newS me other) (.slice none 0 0)) 104, Sl 106 3 enO (.slice none 0 0) []]) ∨ (v = .tuple #[.pointer none, .int .i64 1] ∧ ¬ (0 ≤ me ∧ me < 3 ∧ 0 ≤ other ∧ other < 3 ∧ me ≠ other) ∧ Sat (froz w) w' [])) := by
  refine Fc.of Try.func43 rfl (by kernel_rfl) ?_
  have H := Sat.start w
  refine CallP.mk (Fc.imp (Go.Proofs.Ytepceieglhfnoaa.Link.isBad _ _) ?_)
  rintro _ _ ⟨⟨b1, ⟨rfl, h1⟩⟩, rfl⟩
  refine br (fun c1 => ?_) (fun c1 => ?_)
  · replace c1 := h1.1 (c1)
    refine cT rfl ?_
    refine Done.mk ?_
    refine (Or.inr ?_)
    refine ⟨?_, ?_⟩
    · rfl
    refine ⟨?_, ?_⟩
    · rintro ⟨x0_1, x1_1, x2_1, x3_1, x4_1⟩
      omega
    exact H
  replace c1 := iff_f h1 (c1)
  refine CallP.mk (Fc.imp (Go.Proofs.Ytepceieglhfnoaa.Link.isBad _ _) ?_)
  rintro _ _ ⟨⟨b2, ⟨rfl, h2⟩⟩, rfl⟩
  refine br (fun c2 => ?_) (fun c2 => ?_)
  · replace c2 := h2.1 (c2)
    refine cT rfl ?_
    refine Done.mk ?_
    refine (Or.inr ?_)
    refine ⟨?_, ?_⟩
    · rfl
    refine ⟨?_, ?_⟩
    · rintro ⟨x0_1, x1_1, x2_1, x3_1, x4_1⟩
      omega
    exact H
  replace c2 := iff_f h2 (c2)
  refine cI (fun c3 => ?_) (fun c3 => ?_)
  · replace c3 := vEq_t (c3)
    refine Done.mk ?_
    refine (Or.inr ?_)
    refine ⟨?_, ?_⟩
    · rfl
    refine ⟨?_, ?_⟩
    · rintro ⟨x0_1, x1_1, x2_1, x3_1, x4_1⟩
      contradiction
    exact H
  replace c3 := vEq_f (c3)
  refine rBuild rfl rfl rfl ?_
  refine rBoxS H ?_
  clear H
  intro p1 w1 H
  refine Done.mk ?_
  refine (Or.inl ?_)
  refine ⟨p1, ?_⟩
  refine ⟨?_, ?_⟩
  · rfl
  refine ⟨?_, ?_⟩
  · refine ⟨?_, ?_⟩
    · omega
    refine ⟨?_, ?_⟩
    · omega
    refine ⟨?_, ?_⟩
    · omega
    refine ⟨?_, ?_⟩
    · omega
    assumption
  replace H := H.sl0 (en := enO) (s := 3) (106) (fun _ => rfl)
  refine H.fronts [0, 1] ?_
  clear H
  intro H
  exact H
end Go.Proofs.Ytepceieglhfnoaa.Link
