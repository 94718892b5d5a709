/- The document's takes, beside, InsCheck of an instruction that has a number and 64. -/
import Derived.Test.YtcpniokopahakaaDoorAsmP
set_option maxRecDepth 100000
set_option maxHeartbeats 4000000
set_option linter.unusedVariables false
set_option linter.unusedSimpArgs false
namespace Go.Proofs.YtcpniokopahakaaDoor.RefD
open Go Go.Proofs.YtcpniokopahakaaDoor.Eng Go.RowKit
open Asm
section
variable {g : Glob} {w : World} {l : List As}
theorem takes (n : Nat) (hn : n ≤ 255) (w : World) : Fc Tryd.prog 110 #[.int .u8 n] w (fun v w' => (∃ s, v = .string (bs s) ∧ (s = [63] ↔ ¬ tkP n)) ∧ Sat (froz w) w' []) := by
  refine Fc.of Tryd.func110 rfl (by kernel_rfl) ?_
  have H := Sat.start w
  refine rConvI64 (by omega) rfl rfl ?_
  refine bk ?_
  refine cI (fun c1 => ?_) (fun c1 => ?_)
  · replace c1 := vEq_t (c1)
    refine cT (vEq_T (by assumption)) ?_
    refine Done.mk ?_
    refine ⟨?_, ?_⟩
    · refine ⟨[105, 62, 105], ?_⟩
      refine ⟨?_, ?_⟩
      · rfl
      exact ⟨fun h => absurd h (by decide), fun h => absurd (by unfold tkP; omega) h⟩
    exact H
  replace c1 := vEq_f (c1)
  refine br (fun c2 => ?_) (fun c2 => ?_)
  · replace c2 := vLe_t (c2)
    refine cI (fun c3 => ?_) (fun c3 => ?_)
    · replace c3 := vLe_t (c3)
      refine cT (vLe_T (by assumption)) ?_
      refine Done.mk ?_
      refine ⟨?_, ?_⟩
      · refine ⟨[105, 62, 105], ?_⟩
        refine ⟨?_, ?_⟩
        · rfl
        exact ⟨fun h => absurd h (by decide), fun h => absurd (by unfold tkP; omega) h⟩
      exact H
    replace c3 := vLe_f (c3)
    refine cI (fun c4 => ?_) (fun c4 => ?_)
    · replace c4 := vEq_t (c4)
      refine cT (vEq_T (by assumption)) ?_
      refine Done.mk ?_
      refine ⟨?_, ?_⟩
      · refine ⟨[105, 62, 105], ?_⟩
        refine ⟨?_, ?_⟩
        · rfl
        exact ⟨fun h => absurd h (by decide), fun h => absurd (by unfold tkP; omega) h⟩
      exact H
    replace c4 := vEq_f (c4)
    refine cI (fun c5 => ?_) (fun c5 => ?_)
    · replace c5 := vEq_t (c5)
      refine cT (vEq_T (by assumption)) ?_
      refine Done.mk ?_
      refine ⟨?_, ?_⟩
      · refine ⟨[105, 62, 105], ?_⟩
        refine ⟨?_, ?_⟩
        · rfl
        exact ⟨fun h => absurd h (by decide), fun h => absurd (by unfold tkP; omega) h⟩
      exact H
    replace c5 := vEq_f (c5)
    refine cF (vEq_F (by omega)) ?_
    refine cF (vEq_F (by omega)) ?_
    refine br_t (vLe_T (by omega)) ?_
    refine cF (vLe_F (by omega)) ?_
    refine cF (vEq_F (by omega)) ?_
    refine cI (fun c6 => ?_) (fun c6 => ?_)
    · replace c6 := vEq_t (c6)
      refine Done.mk ?_
      refine ⟨?_, ?_⟩
      · refine ⟨[108, 62, 105], ?_⟩
        refine ⟨?_, ?_⟩
        · rfl
        exact ⟨fun h => absurd h (by decide), fun h => absurd (by unfold tkP; omega) h⟩
      exact H
    replace c6 := vEq_f (c6)
    refine br_t (vLe_T (by omega)) ?_
    refine cF (vLe_F (by omega)) ?_
    refine br_t (vLe_T (by assumption)) ?_
    refine cI (fun c7 => ?_) (fun c7 => ?_)
    · replace c7 := vLe_t (c7)
      refine Done.mk ?_
      refine ⟨?_, ?_⟩
      · refine ⟨[105, 105, 62, 105], ?_⟩
        refine ⟨?_, ?_⟩
        · rfl
        exact ⟨fun h => absurd h (by decide), fun h => absurd (by unfold tkP; omega) h⟩
      exact H
    replace c7 := vLe_f (c7)
    refine br_t (vLe_T (by omega)) ?_
    refine cF (vLe_F (by omega)) ?_
    refine br_t (vLe_T (by assumption)) ?_
    refine cI (fun c8 => ?_) (fun c8 => ?_)
    · replace c8 := vLe_t (c8)
      refine cT (vLe_T (by assumption)) ?_
      refine Done.mk ?_
      refine ⟨?_, ?_⟩
      · refine ⟨[108, 62, 108], ?_⟩
        refine ⟨?_, ?_⟩
        · rfl
        exact ⟨fun h => absurd h (by decide), fun h => absurd (by unfold tkP; omega) h⟩
      exact H
    replace c8 := vLe_f (c8)
    refine br (fun c9 => ?_) (fun c9 => ?_)
    · replace c9 := vLe_t (c9)
      refine cI (fun c10 => ?_) (fun c10 => ?_)
      · replace c10 := vLe_t (c10)
        refine Done.mk ?_
        refine ⟨?_, ?_⟩
        · refine ⟨[108, 62, 108], ?_⟩
          refine ⟨?_, ?_⟩
          · rfl
          exact ⟨fun h => absurd h (by decide), fun h => absurd (by unfold tkP; omega) h⟩
        exact H
      replace c10 := vLe_f (c10)
      refine br_t (vLe_T (by assumption)) ?_
      refine cF (vLe_F (by omega)) ?_
      refine cF (vEq_F (by omega)) ?_
      refine cF (vEq_F (by omega)) ?_
      refine cF (vEq_F (by omega)) ?_
      refine br_t (vLe_T (by omega)) ?_
      refine cF (vLe_F (by omega)) ?_
      refine cF (vEq_F (by omega)) ?_
      refine cF (vEq_F (by omega)) ?_
      refine cF (vEq_F (by omega)) ?_
      refine cF (vEq_F (by omega)) ?_
      refine br_t (vLe_T (by omega)) ?_
      refine cF (vLe_F (by omega)) ?_
      refine cF (vEq_F (by omega)) ?_
      refine cF (vEq_F (by omega)) ?_
      refine cF (vEq_F (by omega)) ?_
      refine Done.mk ?_
      refine ⟨?_, ?_⟩
      · refine ⟨[63], ?_⟩
        refine ⟨?_, ?_⟩
        · rfl
        exact ⟨fun _ => by unfold tkP; omega, fun _ => rfl⟩
      exact H
    replace c9 := vLe_f (c9)
    refine cF rfl ?_
    refine br_t (vLe_T (by assumption)) ?_
    refine cI (fun c10 => ?_) (fun c10 => ?_)
    · replace c10 := vLe_t (c10)
      refine Done.mk ?_
      refine ⟨?_, ?_⟩
      · refine ⟨[108, 108, 62, 108], ?_⟩
        refine ⟨?_, ?_⟩
        · rfl
        exact ⟨fun h => absurd h (by decide), fun h => absurd (by unfold tkP; omega) h⟩
      exact H
    replace c10 := vLe_f (c10)
    refine cI (fun c11 => ?_) (fun c11 => ?_)
    · replace c11 := vEq_t (c11)
      refine cT (vEq_T (by assumption)) ?_
      refine Done.mk ?_
      refine ⟨?_, ?_⟩
      · refine ⟨[105, 62, 108], ?_⟩
        refine ⟨?_, ?_⟩
        · rfl
        exact ⟨fun h => absurd h (by decide), fun h => absurd (by unfold tkP; omega) h⟩
      exact H
    replace c11 := vEq_f (c11)
    refine cI (fun c12 => ?_) (fun c12 => ?_)
    · replace c12 := vEq_t (c12)
      refine cT (vEq_T (by assumption)) ?_
      refine Done.mk ?_
      refine ⟨?_, ?_⟩
      · refine ⟨[105, 62, 108], ?_⟩
        refine ⟨?_, ?_⟩
        · rfl
        exact ⟨fun h => absurd h (by decide), fun h => absurd (by unfold tkP; omega) h⟩
      exact H
    replace c12 := vEq_f (c12)
    refine cF (vEq_F (by omega)) ?_
    refine br_t (vLe_T (by omega)) ?_
    refine cF (vLe_F (by omega)) ?_
    refine cF (vEq_F (by omega)) ?_
    refine cF (vEq_F (by omega)) ?_
    refine cF (vEq_F (by omega)) ?_
    refine cF (vEq_F (by omega)) ?_
    refine br_t (vLe_T (by omega)) ?_
    refine cF (vLe_F (by omega)) ?_
    refine cF (vEq_F (by omega)) ?_
    refine cF (vEq_F (by omega)) ?_
    refine cF (vEq_F (by omega)) ?_
    refine Done.mk ?_
    refine ⟨?_, ?_⟩
    · refine ⟨[63], ?_⟩
      refine ⟨?_, ?_⟩
      · rfl
      exact ⟨fun _ => by unfold tkP; omega, fun _ => rfl⟩
    exact H
  replace c2 := vLe_f (c2)
  refine cF rfl ?_
  refine cF (vEq_F (by omega)) ?_
  refine cF (vEq_F (by omega)) ?_
  refine cI (fun c3 => ?_) (fun c3 => ?_)
  · replace c3 := vEq_t (c3)
    refine cT (vEq_T (by assumption)) ?_
    refine Done.mk ?_
    refine ⟨?_, ?_⟩
    · refine ⟨[105, 62, 105], ?_⟩
      refine ⟨?_, ?_⟩
      · rfl
      exact ⟨fun h => absurd h (by decide), fun h => absurd (by unfold tkP; omega) h⟩
    exact H
  replace c3 := vEq_f (c3)
  refine cI (fun c4 => ?_) (fun c4 => ?_)
  · replace c4 := vEq_t (c4)
    refine cT (vEq_T (by assumption)) ?_
    refine Done.mk ?_
    refine ⟨?_, ?_⟩
    · refine ⟨[105, 62, 105], ?_⟩
      refine ⟨?_, ?_⟩
      · rfl
      exact ⟨fun h => absurd h (by decide), fun h => absurd (by unfold tkP; omega) h⟩
    exact H
  replace c4 := vEq_f (c4)
  refine br (fun c5 => ?_) (fun c5 => ?_)
  · replace c5 := vLe_t (c5)
    refine cI (fun c6 => ?_) (fun c6 => ?_)
    · replace c6 := vLe_t (c6)
      refine Done.mk ?_
      refine ⟨?_, ?_⟩
      · refine ⟨[105, 62, 105], ?_⟩
        refine ⟨?_, ?_⟩
        · rfl
        exact ⟨fun h => absurd h (by decide), fun h => absurd (by unfold tkP; omega) h⟩
      exact H
    replace c6 := vLe_f (c6)
    refine cI (fun c7 => ?_) (fun c7 => ?_)
    · replace c7 := vEq_t (c7)
      refine cT (vEq_T (by assumption)) ?_
      refine Done.mk ?_
      refine ⟨?_, ?_⟩
      · refine ⟨[108, 62, 105], ?_⟩
        refine ⟨?_, ?_⟩
        · rfl
        exact ⟨fun h => absurd h (by decide), fun h => absurd (by unfold tkP; omega) h⟩
      exact H
    replace c7 := vEq_f (c7)
    refine cF (vEq_F (by omega)) ?_
    refine br (fun c8 => ?_) (fun c8 => ?_)
    · replace c8 := vLe_t (c8)
      refine cI (fun c9 => ?_) (fun c9 => ?_)
      · replace c9 := vLe_t (c9)
        refine cT (vLe_T (by assumption)) ?_
        refine Done.mk ?_
        refine ⟨?_, ?_⟩
        · refine ⟨[105, 105, 62, 105], ?_⟩
          refine ⟨?_, ?_⟩
          · rfl
          exact ⟨fun h => absurd h (by decide), fun h => absurd (by unfold tkP; omega) h⟩
        exact H
      replace c9 := vLe_f (c9)
      refine br_f (vLe_F (by omega)) ?_
      refine cF rfl ?_
      refine br_t (vLe_T (by omega)) ?_
      refine cI (fun c10 => ?_) (fun c10 => ?_)
      · replace c10 := vLe_t (c10)
        refine Done.mk ?_
        refine ⟨?_, ?_⟩
        · refine ⟨[108, 108, 62, 105], ?_⟩
          refine ⟨?_, ?_⟩
          · rfl
          exact ⟨fun h => absurd h (by decide), fun h => absurd (by unfold tkP; omega) h⟩
        exact H
      replace c10 := vLe_f (c10)
      refine br_f (vLe_F (by omega)) ?_
      refine cF rfl ?_
      refine br_f (vLe_F (by omega)) ?_
      refine cF rfl ?_
      refine br_f (vLe_F (by omega)) ?_
      refine cF rfl ?_
      refine cF (vEq_F (by omega)) ?_
      refine cF (vEq_F (by omega)) ?_
      refine cF (vEq_F (by omega)) ?_
      refine br_t (vLe_T (by assumption)) ?_
      refine cF (vLe_F (by omega)) ?_
      refine cF (vEq_F (by omega)) ?_
      refine cF (vEq_F (by omega)) ?_
      refine cF (vEq_F (by omega)) ?_
      refine cF (vEq_F (by omega)) ?_
      refine br_t (vLe_T (by omega)) ?_
      refine cF (vLe_F (by omega)) ?_
      refine cF (vEq_F (by omega)) ?_
      refine cF (vEq_F (by omega)) ?_
      refine cF (vEq_F (by omega)) ?_
      refine Done.mk ?_
      refine ⟨?_, ?_⟩
      · refine ⟨[63], ?_⟩
        refine ⟨?_, ?_⟩
        · rfl
        exact ⟨fun _ => by unfold tkP; omega, fun _ => rfl⟩
      exact H
    replace c8 := vLe_f (c8)
    refine cF rfl ?_
    refine br_f (vLe_F (by omega)) ?_
    refine cF rfl ?_
    refine br_f (vLe_F (by omega)) ?_
    refine cF rfl ?_
    refine br_f (vLe_F (by omega)) ?_
    refine cF rfl ?_
    refine br_f (vLe_F (by omega)) ?_
    refine cF rfl ?_
    refine br_f (vLe_F (by omega)) ?_
    refine cF rfl ?_
    refine cF (vEq_F (by omega)) ?_
    refine cF (vEq_F (by omega)) ?_
    refine cF (vEq_F (by omega)) ?_
    refine br_t (vLe_T (by assumption)) ?_
    refine cI (fun c9 => ?_) (fun c9 => ?_)
    · replace c9 := vLe_t (c9)
      refine Done.mk ?_
      refine ⟨?_, ?_⟩
      · refine ⟨[105, 62, 108], ?_⟩
        refine ⟨?_, ?_⟩
        · rfl
        exact ⟨fun h => absurd h (by decide), fun h => absurd (by unfold tkP; omega) h⟩
      exact H
    replace c9 := vLe_f (c9)
    refine cI (fun c10 => ?_) (fun c10 => ?_)
    · replace c10 := vEq_t (c10)
      refine cT (vEq_T (by assumption)) ?_
      refine Done.mk ?_
      refine ⟨?_, ?_⟩
      · refine ⟨[105, 105, 62], ?_⟩
        refine ⟨?_, ?_⟩
        · rfl
        exact ⟨fun h => absurd h (by decide), fun h => absurd (by unfold tkP; omega) h⟩
      exact H
    replace c10 := vEq_f (c10)
    refine cI (fun c11 => ?_) (fun c11 => ?_)
    · replace c11 := vEq_t (c11)
      refine cT (vEq_T (by assumption)) ?_
      refine Done.mk ?_
      refine ⟨?_, ?_⟩
      · refine ⟨[105, 105, 62], ?_⟩
        refine ⟨?_, ?_⟩
        · rfl
        exact ⟨fun h => absurd h (by decide), fun h => absurd (by unfold tkP; omega) h⟩
      exact H
    replace c11 := vEq_f (c11)
    refine cI (fun c12 => ?_) (fun c12 => ?_)
    · replace c12 := vEq_t (c12)
      refine Done.mk ?_
      refine ⟨?_, ?_⟩
      · refine ⟨[105, 105, 62], ?_⟩
        refine ⟨?_, ?_⟩
        · rfl
        exact ⟨fun h => absurd h (by decide), fun h => absurd (by unfold tkP; omega) h⟩
      exact H
    replace c12 := vEq_f (c12)
    refine cI (fun c13 => ?_) (fun c13 => ?_)
    · replace c13 := vEq_t (c13)
      refine cT (vEq_T (by assumption)) ?_
      refine Done.mk ?_
      refine ⟨?_, ?_⟩
      · refine ⟨[105, 108, 62], ?_⟩
        refine ⟨?_, ?_⟩
        · rfl
        exact ⟨fun h => absurd h (by decide), fun h => absurd (by unfold tkP; omega) h⟩
      exact H
    replace c13 := vEq_f (c13)
    refine br (fun c14 => ?_) (fun c14 => ?_)
    · replace c14 := vLe_t (c14)
      refine cI (fun c15 => ?_) (fun c15 => ?_)
      · replace c15 := vLe_t (c15)
        refine Done.mk ?_
        refine ⟨?_, ?_⟩
        · refine ⟨[105, 108, 62], ?_⟩
          refine ⟨?_, ?_⟩
          · rfl
          exact ⟨fun h => absurd h (by decide), fun h => absurd (by unfold tkP; omega) h⟩
        exact H
      replace c15 := vLe_f (c15)
      refine cI (fun c16 => ?_) (fun c16 => ?_)
      · replace c16 := vEq_t (c16)
        refine cT (vEq_T (by assumption)) ?_
        refine Done.mk ?_
        refine ⟨?_, ?_⟩
        · refine ⟨[62, 105], ?_⟩
          refine ⟨?_, ?_⟩
          · rfl
          exact ⟨fun h => absurd h (by decide), fun h => absurd (by unfold tkP; omega) h⟩
        exact H
      replace c16 := vEq_f (c16)
      refine cI (fun c17 => ?_) (fun c17 => ?_)
      · replace c17 := vEq_t (c17)
        refine Done.mk ?_
        refine ⟨?_, ?_⟩
        · refine ⟨[62, 105], ?_⟩
          refine ⟨?_, ?_⟩
          · rfl
          exact ⟨fun h => absurd h (by decide), fun h => absurd (by unfold tkP; omega) h⟩
        exact H
      replace c17 := vEq_f (c17)
      refine cI (fun c18 => ?_) (fun c18 => ?_)
      · replace c18 := vEq_t (c18)
        refine Done.mk ?_
        refine ⟨?_, ?_⟩
        · refine ⟨[62, 108], ?_⟩
          refine ⟨?_, ?_⟩
          · rfl
          exact ⟨fun h => absurd h (by decide), fun h => absurd (by unfold tkP; omega) h⟩
        exact H
      replace c18 := vEq_f (c18)
      refine Done.mk ?_
      refine ⟨?_, ?_⟩
      · refine ⟨[63], ?_⟩
        refine ⟨?_, ?_⟩
        · rfl
        exact ⟨fun _ => by unfold tkP; omega, fun _ => rfl⟩
      exact H
    replace c14 := vLe_f (c14)
    refine cF rfl ?_
    refine cF (vEq_F (by omega)) ?_
    refine cF (vEq_F (by omega)) ?_
    refine cF (vEq_F (by omega)) ?_
    refine Done.mk ?_
    refine ⟨?_, ?_⟩
    · refine ⟨[63], ?_⟩
      refine ⟨?_, ?_⟩
      · rfl
      exact ⟨fun _ => by unfold tkP; omega, fun _ => rfl⟩
    exact H
  replace c5 := vLe_f (c5)
  refine cF rfl ?_
  refine cF (vEq_F (by omega)) ?_
  refine cF (vEq_F (by omega)) ?_
  refine br_f (vLe_F (by omega)) ?_
  refine cF rfl ?_
  refine br_f (vLe_F (by omega)) ?_
  refine cF rfl ?_
  refine br_f (vLe_F (by omega)) ?_
  refine cF rfl ?_
  refine br_f (vLe_F (by omega)) ?_
  refine cF rfl ?_
  refine br_f (vLe_F (by omega)) ?_
  refine cF rfl ?_
  refine br_f (vLe_F (by omega)) ?_
  refine cF rfl ?_
  refine cF (vEq_F (by omega)) ?_
  refine cF (vEq_F (by omega)) ?_
  refine cI (fun c6 => ?_) (fun c6 => ?_)
  · replace c6 := vEq_t (c6)
    refine cT (vEq_T (by assumption)) ?_
    refine Done.mk ?_
    refine ⟨?_, ?_⟩
    · refine ⟨[105, 62, 108], ?_⟩
      refine ⟨?_, ?_⟩
      · rfl
      exact ⟨fun h => absurd h (by decide), fun h => absurd (by unfold tkP; omega) h⟩
    exact H
  replace c6 := vEq_f (c6)
  refine br_f (vLe_F (by omega)) ?_
  refine cF rfl ?_
  refine cF (vEq_F (by omega)) ?_
  refine cF (vEq_F (by omega)) ?_
  refine cF (vEq_F (by omega)) ?_
  refine cF (vEq_F (by omega)) ?_
  refine br_f (vLe_F (by omega)) ?_
  refine cF rfl ?_
  refine cF (vEq_F (by omega)) ?_
  refine cF (vEq_F (by omega)) ?_
  refine cF (vEq_F (by omega)) ?_
  refine Done.mk ?_
  refine ⟨?_, ?_⟩
  · refine ⟨[63], ?_⟩
    refine ⟨?_, ?_⟩
    · rfl
    exact ⟨fun _ => by unfold tkP; omega, fun _ => rfl⟩
  exact H
theorem beside (H : Sat g w l) (m : Int) (hM : FAt g 2 0 [.int .i64 m]) (n : Nat) (hn : n ≤ 255) : Fc Tryd.prog 39 #[.int .u8 n] w (fun v w' => ∃ s, v = .string (bs s) ∧ s = besideL n ∧ Sat g w' l) := by
  refine Fc.of Tryd.func39 rfl (by kernel_rfl) ?_
  refine rConvI64 (by omega) rfl rfl ?_
  refine bk ?_
  refine br (fun c1 => ?_) (fun c1 => ?_)
  · replace c1 := vLe_t (c1)
    refine cI (fun c2 => ?_) (fun c2 => ?_)
    · replace c2 := vLe_t (c2)
      refine Done.mk ?_
      refine ⟨[107], ?_⟩
      refine ⟨?_, ?_⟩
      · rfl
      refine ⟨?_, ?_⟩
      · (unfold besideL; repeat first | rw [if_pos (by omega)] | rw [if_neg (by omega)] | rw [if_pos (.inl (by omega))] | rw [if_pos (bsT_r (by assumption) (by assumption))] | rw [if_neg (bsT_n (by assumption) (by assumption) (by omega))])
      exact H
    replace c2 := vLe_f (c2)
    refine cI (fun c3 => ?_) (fun c3 => ?_)
    · replace c3 := vEq_t (c3)
      refine cT (vEq_T (by assumption)) ?_
      refine Done.mk ?_
      refine ⟨[97], ?_⟩
      refine ⟨?_, ?_⟩
      · rfl
      refine ⟨?_, ?_⟩
      · (unfold besideL; repeat first | rw [if_pos (by omega)] | rw [if_neg (by omega)] | rw [if_pos (.inl (by omega))] | rw [if_pos (bsT_r (by assumption) (by assumption))] | rw [if_neg (bsT_n (by assumption) (by assumption) (by omega))])
      exact H
    replace c3 := vEq_f (c3)
    refine cI (fun c4 => ?_) (fun c4 => ?_)
    · replace c4 := vEq_t (c4)
      refine cT (vEq_T (by assumption)) ?_
      refine Done.mk ?_
      refine ⟨[97], ?_⟩
      refine ⟨?_, ?_⟩
      · rfl
      refine ⟨?_, ?_⟩
      · (unfold besideL; repeat first | rw [if_pos (by omega)] | rw [if_neg (by omega)] | rw [if_pos (.inl (by omega))] | rw [if_pos (bsT_r (by assumption) (by assumption))] | rw [if_neg (bsT_n (by assumption) (by assumption) (by omega))])
      exact H
    replace c4 := vEq_f (c4)
    refine cI (fun c5 => ?_) (fun c5 => ?_)
    · replace c5 := vEq_t (c5)
      refine cT (vEq_T (by assumption)) ?_
      refine Done.mk ?_
      refine ⟨[97], ?_⟩
      refine ⟨?_, ?_⟩
      · rfl
      refine ⟨?_, ?_⟩
      · (unfold besideL; repeat first | rw [if_pos (by omega)] | rw [if_neg (by omega)] | rw [if_pos (.inl (by omega))] | rw [if_pos (bsT_r (by assumption) (by assumption))] | rw [if_neg (bsT_n (by assumption) (by assumption) (by omega))])
      exact H
    replace c5 := vEq_f (c5)
    refine br (fun c6 => ?_) (fun c6 => ?_)
    · replace c6 := vLe_t (c6)
      refine cI (fun c7 => ?_) (fun c7 => ?_)
      · replace c7 := vLe_t (c7)
        refine Done.mk ?_
        refine ⟨[97], ?_⟩
        refine ⟨?_, ?_⟩
        · rfl
        refine ⟨?_, ?_⟩
        · (unfold besideL; repeat first | rw [if_pos (by omega)] | rw [if_neg (by omega)] | rw [if_pos (.inl (by omega))] | rw [if_pos (bsT_r (by assumption) (by assumption))] | rw [if_neg (bsT_n (by assumption) (by assumption) (by omega))])
        exact H
      replace c7 := vLe_f (c7)
      refine cF (vEq_F (by omega)) ?_
      refine cF (vEq_F (by omega)) ?_
      refine CallP.mk (Fc.imp (Go.Proofs.YtcpniokopahakaaDoor.RefD.insWidth H _ hM (n) ?_) ?_)
      · assumption
      clear H
      rintro _ w1 ⟨r1, ⟨rfl, ⟨h1, H⟩⟩⟩
      refine cI (fun c8 => ?_) (fun c8 => ?_)
      · replace c8 := vLt_t (c8)
        refine Done.mk ?_
        refine ⟨[97, 98], ?_⟩
        refine ⟨?_, ?_⟩
        · rfl
        refine ⟨?_, ?_⟩
        · (unfold besideL; repeat first | rw [if_pos (by omega)] | rw [if_neg (by omega)] | rw [if_pos (.inl (by omega))] | rw [if_pos (bsT_r (by assumption) (by assumption))] | rw [if_neg (bsT_n (by assumption) (by assumption) (by omega))])
        exact H
      replace c8 := vLt_f (c8)
      refine cI (fun c9 => ?_) (fun c9 => ?_)
      · replace c9 := vEq_t (c9)
        refine cT (vEq_T (by assumption)) ?_
        refine Done.mk ?_
        refine ⟨[122], ?_⟩
        refine ⟨?_, ?_⟩
        · rfl
        refine ⟨?_, ?_⟩
        · (unfold besideL; repeat first | rw [if_pos (by omega)] | rw [if_neg (by omega)] | rw [if_pos (.inl (by omega))] | rw [if_pos (bsT_r (by assumption) (by assumption))] | rw [if_neg (bsT_n (by assumption) (by assumption) (by omega))])
        exact H
      replace c9 := vEq_f (c9)
      refine cI (fun c10 => ?_) (fun c10 => ?_)
      · replace c10 := vEq_t (c10)
        refine Done.mk ?_
        refine ⟨[122], ?_⟩
        refine ⟨?_, ?_⟩
        · rfl
        refine ⟨?_, ?_⟩
        · (unfold besideL; repeat first | rw [if_pos (by omega)] | rw [if_neg (by omega)] | rw [if_pos (.inl (by omega))] | rw [if_pos (bsT_r (by assumption) (by assumption))] | rw [if_neg (bsT_n (by assumption) (by assumption) (by omega))])
        exact H
      replace c10 := vEq_f (c10)
      refine cI (fun c11 => ?_) (fun c11 => ?_)
      · replace c11 := vEq_t (c11)
        refine Done.mk ?_
        refine ⟨[99], ?_⟩
        refine ⟨?_, ?_⟩
        · rfl
        refine ⟨?_, ?_⟩
        · (unfold besideL; repeat first | rw [if_pos (by omega)] | rw [if_neg (by omega)] | rw [if_pos (.inl (by omega))] | rw [if_pos (bsT_r (by assumption) (by assumption))] | rw [if_neg (bsT_n (by assumption) (by assumption) (by omega))])
        exact H
      replace c11 := vEq_f (c11)
      refine cI (fun c12 => ?_) (fun c12 => ?_)
      · replace c12 := vEq_t (c12)
        refine Done.mk ?_
        refine ⟨[100], ?_⟩
        refine ⟨?_, ?_⟩
        · rfl
        refine ⟨?_, ?_⟩
        · (unfold besideL; repeat first | rw [if_pos (by omega)] | rw [if_neg (by omega)] | rw [if_pos (.inl (by omega))] | rw [if_pos (bsT_r (by assumption) (by assumption))] | rw [if_neg (bsT_n (by assumption) (by assumption) (by omega))])
        exact H
      replace c12 := vEq_f (c12)
      refine cF (vEq_F (by omega)) ?_
      refine cF (vEq_F (by omega)) ?_
      refine cF (vEq_F (by omega)) ?_
      refine cF (vEq_F (by omega)) ?_
      refine cF (vEq_F (by omega)) ?_
      refine cF (vEq_F (by omega)) ?_
      refine cF (vEq_F (by omega)) ?_
      refine CallP.mk (Fc.imp (Go.Proofs.YtcpniokopahakaaDoor.RefD.takes (n) ?_ _) ?_)
      · assumption
      rintro _ w2 ⟨⟨s1, ⟨rfl, h2⟩⟩, H'⟩
      refine H.mergeK H' ?_
      clear H H'
      intro H
      refine rStrNe ?_
      refine cI (fun c13 => ?_) (fun c13 => ?_)
      · replace c13 := dec_f (not_t (c13))
        refine Done.mk ?_
        refine ⟨[], ?_⟩
        refine ⟨?_, ?_⟩
        · rfl
        refine ⟨?_, ?_⟩
        · (unfold besideL; repeat first | rw [if_pos (by omega)] | rw [if_neg (by omega)] | rw [if_pos (.inl (by omega))] | rw [if_pos (bsT_r (by assumption) (by assumption))] | rw [if_neg (bsT_n (by assumption) (by assumption) (by omega))])
        exact H
      replace c13 := dec_t (not_f (c13))
      refine Done.mk ?_
      refine ⟨[63], ?_⟩
      refine ⟨?_, ?_⟩
      · rfl
      refine ⟨?_, ?_⟩
      · (unfold besideL; repeat first | rw [if_pos (by omega)] | rw [if_neg (by omega)] | rw [if_pos (.inl (by omega))] | rw [if_pos (bsT_r (by assumption) (by assumption))] | rw [if_neg (bsT_n (by assumption) (by assumption) (by omega))])
      exact H
    replace c6 := vLe_f (c6)
    refine cF rfl ?_
    refine cI (fun c7 => ?_) (fun c7 => ?_)
    · replace c7 := vEq_t (c7)
      refine Done.mk ?_
      refine ⟨[116], ?_⟩
      refine ⟨?_, ?_⟩
      · rfl
      refine ⟨?_, ?_⟩
      · (unfold besideL; repeat first | rw [if_pos (by omega)] | rw [if_neg (by omega)] | rw [if_pos (.inl (by omega))] | rw [if_pos (bsT_r (by assumption) (by assumption))] | rw [if_neg (bsT_n (by assumption) (by assumption) (by omega))])
      exact H
    replace c7 := vEq_f (c7)
    refine cI (fun c8 => ?_) (fun c8 => ?_)
    · replace c8 := vEq_t (c8)
      refine Done.mk ?_
      refine ⟨[97, 122], ?_⟩
      refine ⟨?_, ?_⟩
      · rfl
      refine ⟨?_, ?_⟩
      · (unfold besideL; repeat first | rw [if_pos (by omega)] | rw [if_neg (by omega)] | rw [if_pos (.inl (by omega))] | rw [if_pos (bsT_r (by assumption) (by assumption))] | rw [if_neg (bsT_n (by assumption) (by assumption) (by omega))])
      exact H
    replace c8 := vEq_f (c8)
    refine CallP.mk (Fc.imp (Go.Proofs.YtcpniokopahakaaDoor.RefD.insWidth H _ hM (n) ?_) ?_)
    · assumption
    clear H
    rintro _ w1 ⟨r1, ⟨rfl, ⟨h1, H⟩⟩⟩
    refine cI (fun c9 => ?_) (fun c9 => ?_)
    · replace c9 := vLt_t (c9)
      refine Done.mk ?_
      refine ⟨[97, 98], ?_⟩
      refine ⟨?_, ?_⟩
      · rfl
      refine ⟨?_, ?_⟩
      · (unfold besideL; repeat first | rw [if_pos (by omega)] | rw [if_neg (by omega)] | rw [if_pos (.inl (by omega))] | rw [if_pos (bsT_r (by assumption) (by assumption))] | rw [if_neg (bsT_n (by assumption) (by assumption) (by omega))])
      exact H
    replace c9 := vLt_f (c9)
    refine cF (vEq_F (by omega)) ?_
    refine cF (vEq_F (by omega)) ?_
    refine cF (vEq_F (by omega)) ?_
    refine cF (vEq_F (by omega)) ?_
    refine cF (vEq_F (by omega)) ?_
    refine cF (vEq_F (by omega)) ?_
    refine cI (fun c10 => ?_) (fun c10 => ?_)
    · replace c10 := vEq_t (c10)
      refine cT (vEq_T (by assumption)) ?_
      refine Done.mk ?_
      refine ⟨[], ?_⟩
      refine ⟨?_, ?_⟩
      · rfl
      refine ⟨?_, ?_⟩
      · (unfold besideL; repeat first | rw [if_pos (by omega)] | rw [if_neg (by omega)] | rw [if_pos (.inl (by omega))] | rw [if_pos (bsT_r (by assumption) (by assumption))] | rw [if_neg (bsT_n (by assumption) (by assumption) (by omega))])
      exact H
    replace c10 := vEq_f (c10)
    refine cI (fun c11 => ?_) (fun c11 => ?_)
    · replace c11 := vEq_t (c11)
      refine cT (vEq_T (by assumption)) ?_
      refine Done.mk ?_
      refine ⟨[], ?_⟩
      refine ⟨?_, ?_⟩
      · rfl
      refine ⟨?_, ?_⟩
      · (unfold besideL; repeat first | rw [if_pos (by omega)] | rw [if_neg (by omega)] | rw [if_pos (.inl (by omega))] | rw [if_pos (bsT_r (by assumption) (by assumption))] | rw [if_neg (bsT_n (by assumption) (by assumption) (by omega))])
      exact H
    replace c11 := vEq_f (c11)
    refine cI (fun c12 => ?_) (fun c12 => ?_)
    · replace c12 := vEq_t (c12)
      refine cT (vEq_T (by assumption)) ?_
      refine Done.mk ?_
      refine ⟨[], ?_⟩
      refine ⟨?_, ?_⟩
      · rfl
      refine ⟨?_, ?_⟩
      · (unfold besideL; repeat first | rw [if_pos (by omega)] | rw [if_neg (by omega)] | rw [if_pos (.inl (by omega))] | rw [if_pos (bsT_r (by assumption) (by assumption))] | rw [if_neg (bsT_n (by assumption) (by assumption) (by omega))])
      exact H
    replace c12 := vEq_f (c12)
    refine cI (fun c13 => ?_) (fun c13 => ?_)
    · replace c13 := vEq_t (c13)
      refine cT (vEq_T (by assumption)) ?_
      refine Done.mk ?_
      refine ⟨[], ?_⟩
      refine ⟨?_, ?_⟩
      · rfl
      refine ⟨?_, ?_⟩
      · (unfold besideL; repeat first | rw [if_pos (by omega)] | rw [if_neg (by omega)] | rw [if_pos (.inl (by omega))] | rw [if_pos (bsT_r (by assumption) (by assumption))] | rw [if_neg (bsT_n (by assumption) (by assumption) (by omega))])
      exact H
    replace c13 := vEq_f (c13)
    refine cI (fun c14 => ?_) (fun c14 => ?_)
    · replace c14 := vEq_t (c14)
      refine cT (vEq_T (by assumption)) ?_
      refine Done.mk ?_
      refine ⟨[], ?_⟩
      refine ⟨?_, ?_⟩
      · rfl
      refine ⟨?_, ?_⟩
      · (unfold besideL; repeat first | rw [if_pos (by omega)] | rw [if_neg (by omega)] | rw [if_pos (.inl (by omega))] | rw [if_pos (bsT_r (by assumption) (by assumption))] | rw [if_neg (bsT_n (by assumption) (by assumption) (by omega))])
      exact H
    replace c14 := vEq_f (c14)
    refine CallP.mk (Fc.imp (Go.Proofs.YtcpniokopahakaaDoor.RefD.takes (n) ?_ _) ?_)
    · assumption
    rintro _ w2 ⟨⟨s1, ⟨rfl, h2⟩⟩, H'⟩
    refine H.mergeK H' ?_
    clear H H'
    intro H
    refine rStrNe ?_
    refine cI (fun c15 => ?_) (fun c15 => ?_)
    · replace c15 := dec_f (not_t (c15))
      refine Done.mk ?_
      refine ⟨[], ?_⟩
      refine ⟨?_, ?_⟩
      · rfl
      refine ⟨?_, ?_⟩
      · (unfold besideL; repeat first | rw [if_pos (by omega)] | rw [if_neg (by omega)] | rw [if_pos (.inl (by omega))] | rw [if_pos (bsT_r (by assumption) (by assumption))] | rw [if_neg (bsT_n (by assumption) (by assumption) (by omega))])
      exact H
    replace c15 := dec_t (not_f (c15))
    refine Done.mk ?_
    refine ⟨[63], ?_⟩
    refine ⟨?_, ?_⟩
    · rfl
    refine ⟨?_, ?_⟩
    · (unfold besideL; repeat first | rw [if_pos (by omega)] | rw [if_neg (by omega)] | rw [if_pos (.inl (by omega))] | rw [if_pos (bsT_r (by assumption) (by assumption))] | rw [if_neg (bsT_n (by assumption) (by assumption) (by omega))])
    exact H
  replace c1 := vLe_f (c1)
  refine cF rfl ?_
  refine cF (vEq_F (by omega)) ?_
  refine cF (vEq_F (by omega)) ?_
  refine cF (vEq_F (by omega)) ?_
  refine br_f (vLe_F (by omega)) ?_
  refine cF rfl ?_
  refine cF (vEq_F (by omega)) ?_
  refine cF (vEq_F (by omega)) ?_
  refine CallP.mk (Fc.imp (Go.Proofs.YtcpniokopahakaaDoor.RefD.insWidth H _ hM (n) ?_) ?_)
  · assumption
  clear H
  rintro _ w1 ⟨r1, ⟨rfl, ⟨h1, H⟩⟩⟩
  refine cI (fun c2 => ?_) (fun c2 => ?_)
  · replace c2 := vLt_t (c2)
    refine Done.mk ?_
    refine ⟨[97, 98], ?_⟩
    refine ⟨?_, ?_⟩
    · rfl
    refine ⟨?_, ?_⟩
    · (unfold besideL; repeat first | rw [if_pos (by omega)] | rw [if_neg (by omega)] | rw [if_pos (.inl (by omega))] | rw [if_pos (bsT_r (by assumption) (by assumption))] | rw [if_neg (bsT_n (by assumption) (by assumption) (by omega))])
    exact H
  replace c2 := vLt_f (c2)
  refine cF (vEq_F (by omega)) ?_
  refine cF (vEq_F (by omega)) ?_
  refine cF (vEq_F (by omega)) ?_
  refine cF (vEq_F (by omega)) ?_
  refine cI (fun c3 => ?_) (fun c3 => ?_)
  · replace c3 := vEq_t (c3)
    refine cT (vEq_T (by assumption)) ?_
    refine Done.mk ?_
    refine ⟨[], ?_⟩
    refine ⟨?_, ?_⟩
    · rfl
    refine ⟨?_, ?_⟩
    · (unfold besideL; repeat first | rw [if_pos (by omega)] | rw [if_neg (by omega)] | rw [if_pos (.inl (by omega))] | rw [if_pos (bsT_r (by assumption) (by assumption))] | rw [if_neg (bsT_n (by assumption) (by assumption) (by omega))])
    exact H
  replace c3 := vEq_f (c3)
  refine cT (vEq_T (by omega)) ?_
  refine cT (vEq_T (by omega)) ?_
  refine Done.mk ?_
  refine ⟨[], ?_⟩
  refine ⟨?_, ?_⟩
  · rfl
  refine ⟨?_, ?_⟩
  · (unfold besideL; repeat first | rw [if_pos (by omega)] | rw [if_neg (by omega)] | rw [if_pos (.inl (by omega))] | rw [if_pos (bsT_r (by assumption) (by assumption))] | rw [if_neg (bsT_n (by assumption) (by assumption) (by omega))])
  exact H
theorem containsAny (H : Sat g w l) (s sub : List UInt8) (hs : s.length < 4294967281) (hsub : sub.length < 4294967281) (ha : ∀ (j : Nat) (b : UInt8), s[j]? = some b → b.toNat < 128) (hb : ∀ (j : Nat) (b : UInt8), sub[j]? = some b → b.toNat < 128) : Fc Tryd.prog 41 #[.string (bs s), .string (bs sub)] w (fun v w' => (∃ b, v = .bool b) ∧ Sat g w' l) := by
  refine Fc.ofCalls Tryd.func41 rfl (by kernel_rfl) ?_
  refine (Tryd.strings_ContainsAny_laid (bs s) (bs sub) w (by rw [bs_size]; exact hs) (by rw [bs_size]; exact hsub) (by rw [bs_list]; exact ha) (by rw [bs_list]; exact hb)).mono ?_
  rintro e w' ⟨rfl, hb⟩
  exact ⟨_, rfl, ⟨_, rfl⟩, H.below hb⟩
end
end Go.Proofs.YtcpniokopahakaaDoor.RefD
