/- Texts of this claim, one behind the other. -/
import Derived.Test.YtndhikahjmgamaaGreatDoorM6
import Derived.Test.YtndhikahjmgamaaGreatDoorM2
import Derived.Test.YtndhikahjmgamaaGreatDoorM4
import Derived.Test.YtndhikahjmgamaaGreatDoorTie
import Derived.SevenTiedAt
import Derived.Lib.LaidU8T
import Derived.LaidMore
import Derived.Lay
import Derived.JoinedCond
import Derived.Stop.LaidErr
/- The document's takes, beside, InsCheck of an instruction that has a number and 64. -/
set_option maxRecDepth 100000
set_option maxHeartbeats 4000000
set_option linter.unusedVariables false
set_option linter.unusedSimpArgs false
namespace Go.Proofs.YtndhikahjmgamaaGreatDoor.RefD
open Go Go.Proofs.YtndhikahjmgamaaGreatDoor.Eng Go.RowKit
open Asm
section
variable {g : Glob} {w : World} {l : List As}
theorem takes (n : Nat) (hn : n ≤ 255) (w : World) : Fc Tryz.prog 103 #[.int .u8 n] w (fun v w' => (∃ s, v = .string (bs s) ∧ (s = [63] ↔ ¬ tkP n)) ∧ Sat (froz w) w' []) := by
  refine Fc.of Tryz.func103 rfl (by kernel_rfl) ?_
  have H := Sat.start w
  refine rConvI64 (by omega) rfl rfl ?_
  refine bk ?_
  refine cI (fun c1 => ?_) (fun c1 => ?_)
  · replace c1 := vEq_t (c1)
    refine cT (vEq_T (by assumption)) ?_
    refine Done.mk ?_
    refine ⟨?_, ?_⟩
    · refine ⟨[105, 62, 105], ?_⟩
      refine ⟨?_, ?_⟩
      · rfl
      exact ⟨fun h => absurd h (by decide), fun h => absurd (by unfold tkP; omega) h⟩
    exact H
  replace c1 := vEq_f (c1)
  refine br (fun c2 => ?_) (fun c2 => ?_)
  · replace c2 := vLe_t (c2)
    refine cI (fun c3 => ?_) (fun c3 => ?_)
    · replace c3 := vLe_t (c3)
      refine cT (vLe_T (by assumption)) ?_
      refine Done.mk ?_
      refine ⟨?_, ?_⟩
      · refine ⟨[105, 62, 105], ?_⟩
        refine ⟨?_, ?_⟩
        · rfl
        exact ⟨fun h => absurd h (by decide), fun h => absurd (by unfold tkP; omega) h⟩
      exact H
    replace c3 := vLe_f (c3)
    refine cI (fun c4 => ?_) (fun c4 => ?_)
    · replace c4 := vEq_t (c4)
      refine cT (vEq_T (by assumption)) ?_
      refine Done.mk ?_
      refine ⟨?_, ?_⟩
      · refine ⟨[105, 62, 105], ?_⟩
        refine ⟨?_, ?_⟩
        · rfl
        exact ⟨fun h => absurd h (by decide), fun h => absurd (by unfold tkP; omega) h⟩
      exact H
    replace c4 := vEq_f (c4)
    refine cI (fun c5 => ?_) (fun c5 => ?_)
    · replace c5 := vEq_t (c5)
      refine cT (vEq_T (by assumption)) ?_
      refine Done.mk ?_
      refine ⟨?_, ?_⟩
      · refine ⟨[105, 62, 105], ?_⟩
        refine ⟨?_, ?_⟩
        · rfl
        exact ⟨fun h => absurd h (by decide), fun h => absurd (by unfold tkP; omega) h⟩
      exact H
    replace c5 := vEq_f (c5)
    refine cF (vEq_F (by omega)) ?_
    refine cF (vEq_F (by omega)) ?_
    refine br_t (vLe_T (by omega)) ?_
    refine cF (vLe_F (by omega)) ?_
    refine cF (vEq_F (by omega)) ?_
    refine cI (fun c6 => ?_) (fun c6 => ?_)
    · replace c6 := vEq_t (c6)
      refine Done.mk ?_
      refine ⟨?_, ?_⟩
      · refine ⟨[108, 62, 105], ?_⟩
        refine ⟨?_, ?_⟩
        · rfl
        exact ⟨fun h => absurd h (by decide), fun h => absurd (by unfold tkP; omega) h⟩
      exact H
    replace c6 := vEq_f (c6)
    refine br_t (vLe_T (by omega)) ?_
    refine cF (vLe_F (by omega)) ?_
    refine br_t (vLe_T (by assumption)) ?_
    refine cI (fun c7 => ?_) (fun c7 => ?_)
    · replace c7 := vLe_t (c7)
      refine Done.mk ?_
      refine ⟨?_, ?_⟩
      · refine ⟨[105, 105, 62, 105], ?_⟩
        refine ⟨?_, ?_⟩
        · rfl
        exact ⟨fun h => absurd h (by decide), fun h => absurd (by unfold tkP; omega) h⟩
      exact H
    replace c7 := vLe_f (c7)
    refine br_t (vLe_T (by omega)) ?_
    refine cF (vLe_F (by omega)) ?_
    refine br_t (vLe_T (by assumption)) ?_
    refine cI (fun c8 => ?_) (fun c8 => ?_)
    · replace c8 := vLe_t (c8)
      refine cT (vLe_T (by assumption)) ?_
      refine Done.mk ?_
      refine ⟨?_, ?_⟩
      · refine ⟨[108, 62, 108], ?_⟩
        refine ⟨?_, ?_⟩
        · rfl
        exact ⟨fun h => absurd h (by decide), fun h => absurd (by unfold tkP; omega) h⟩
      exact H
    replace c8 := vLe_f (c8)
    refine br (fun c9 => ?_) (fun c9 => ?_)
    · replace c9 := vLe_t (c9)
      refine cI (fun c10 => ?_) (fun c10 => ?_)
      · replace c10 := vLe_t (c10)
        refine Done.mk ?_
        refine ⟨?_, ?_⟩
        · refine ⟨[108, 62, 108], ?_⟩
          refine ⟨?_, ?_⟩
          · rfl
          exact ⟨fun h => absurd h (by decide), fun h => absurd (by unfold tkP; omega) h⟩
        exact H
      replace c10 := vLe_f (c10)
      refine br_t (vLe_T (by assumption)) ?_
      refine cF (vLe_F (by omega)) ?_
      refine cF (vEq_F (by omega)) ?_
      refine cF (vEq_F (by omega)) ?_
      refine cF (vEq_F (by omega)) ?_
      refine br_t (vLe_T (by omega)) ?_
      refine cF (vLe_F (by omega)) ?_
      refine cF (vEq_F (by omega)) ?_
      refine cF (vEq_F (by omega)) ?_
      refine cF (vEq_F (by omega)) ?_
      refine cF (vEq_F (by omega)) ?_
      refine br_t (vLe_T (by omega)) ?_
      refine cF (vLe_F (by omega)) ?_
      refine cF (vEq_F (by omega)) ?_
      refine cF (vEq_F (by omega)) ?_
      refine cF (vEq_F (by omega)) ?_
      refine Done.mk ?_
      refine ⟨?_, ?_⟩
      · refine ⟨[63], ?_⟩
        refine ⟨?_, ?_⟩
        · rfl
        exact ⟨fun _ => by unfold tkP; omega, fun _ => rfl⟩
      exact H
    replace c9 := vLe_f (c9)
    refine cF rfl ?_
    refine br_t (vLe_T (by assumption)) ?_
    refine cI (fun c10 => ?_) (fun c10 => ?_)
    · replace c10 := vLe_t (c10)
      refine Done.mk ?_
      refine ⟨?_, ?_⟩
      · refine ⟨[108, 108, 62, 108], ?_⟩
        refine ⟨?_, ?_⟩
        · rfl
        exact ⟨fun h => absurd h (by decide), fun h => absurd (by unfold tkP; omega) h⟩
      exact H
    replace c10 := vLe_f (c10)
    refine cI (fun c11 => ?_) (fun c11 => ?_)
    · replace c11 := vEq_t (c11)
      refine cT (vEq_T (by assumption)) ?_
      refine Done.mk ?_
      refine ⟨?_, ?_⟩
      · refine ⟨[105, 62, 108], ?_⟩
        refine ⟨?_, ?_⟩
        · rfl
        exact ⟨fun h => absurd h (by decide), fun h => absurd (by unfold tkP; omega) h⟩
      exact H
    replace c11 := vEq_f (c11)
    refine cI (fun c12 => ?_) (fun c12 => ?_)
    · replace c12 := vEq_t (c12)
      refine cT (vEq_T (by assumption)) ?_
      refine Done.mk ?_
      refine ⟨?_, ?_⟩
      · refine ⟨[105, 62, 108], ?_⟩
        refine ⟨?_, ?_⟩
        · rfl
        exact ⟨fun h => absurd h (by decide), fun h => absurd (by unfold tkP; omega) h⟩
      exact H
    replace c12 := vEq_f (c12)
    refine cF (vEq_F (by omega)) ?_
    refine br_t (vLe_T (by omega)) ?_
    refine cF (vLe_F (by omega)) ?_
    refine cF (vEq_F (by omega)) ?_
    refine cF (vEq_F (by omega)) ?_
    refine cF (vEq_F (by omega)) ?_
    refine cF (vEq_F (by omega)) ?_
    refine br_t (vLe_T (by omega)) ?_
    refine cF (vLe_F (by omega)) ?_
    refine cF (vEq_F (by omega)) ?_
    refine cF (vEq_F (by omega)) ?_
    refine cF (vEq_F (by omega)) ?_
    refine Done.mk ?_
    refine ⟨?_, ?_⟩
    · refine ⟨[63], ?_⟩
      refine ⟨?_, ?_⟩
      · rfl
      exact ⟨fun _ => by unfold tkP; omega, fun _ => rfl⟩
    exact H
  replace c2 := vLe_f (c2)
  refine cF rfl ?_
  refine cF (vEq_F (by omega)) ?_
  refine cF (vEq_F (by omega)) ?_
  refine cI (fun c3 => ?_) (fun c3 => ?_)
  · replace c3 := vEq_t (c3)
    refine cT (vEq_T (by assumption)) ?_
    refine Done.mk ?_
    refine ⟨?_, ?_⟩
    · refine ⟨[105, 62, 105], ?_⟩
      refine ⟨?_, ?_⟩
      · rfl
      exact ⟨fun h => absurd h (by decide), fun h => absurd (by unfold tkP; omega) h⟩
    exact H
  replace c3 := vEq_f (c3)
  refine cI (fun c4 => ?_) (fun c4 => ?_)
  · replace c4 := vEq_t (c4)
    refine cT (vEq_T (by assumption)) ?_
    refine Done.mk ?_
    refine ⟨?_, ?_⟩
    · refine ⟨[105, 62, 105], ?_⟩
      refine ⟨?_, ?_⟩
      · rfl
      exact ⟨fun h => absurd h (by decide), fun h => absurd (by unfold tkP; omega) h⟩
    exact H
  replace c4 := vEq_f (c4)
  refine br (fun c5 => ?_) (fun c5 => ?_)
  · replace c5 := vLe_t (c5)
    refine cI (fun c6 => ?_) (fun c6 => ?_)
    · replace c6 := vLe_t (c6)
      refine Done.mk ?_
      refine ⟨?_, ?_⟩
      · refine ⟨[105, 62, 105], ?_⟩
        refine ⟨?_, ?_⟩
        · rfl
        exact ⟨fun h => absurd h (by decide), fun h => absurd (by unfold tkP; omega) h⟩
      exact H
    replace c6 := vLe_f (c6)
    refine cI (fun c7 => ?_) (fun c7 => ?_)
    · replace c7 := vEq_t (c7)
      refine cT (vEq_T (by assumption)) ?_
      refine Done.mk ?_
      refine ⟨?_, ?_⟩
      · refine ⟨[108, 62, 105], ?_⟩
        refine ⟨?_, ?_⟩
        · rfl
        exact ⟨fun h => absurd h (by decide), fun h => absurd (by unfold tkP; omega) h⟩
      exact H
    replace c7 := vEq_f (c7)
    refine cF (vEq_F (by omega)) ?_
    refine br (fun c8 => ?_) (fun c8 => ?_)
    · replace c8 := vLe_t (c8)
      refine cI (fun c9 => ?_) (fun c9 => ?_)
      · replace c9 := vLe_t (c9)
        refine cT (vLe_T (by assumption)) ?_
        refine Done.mk ?_
        refine ⟨?_, ?_⟩
        · refine ⟨[105, 105, 62, 105], ?_⟩
          refine ⟨?_, ?_⟩
          · rfl
          exact ⟨fun h => absurd h (by decide), fun h => absurd (by unfold tkP; omega) h⟩
        exact H
      replace c9 := vLe_f (c9)
      refine br_f (vLe_F (by omega)) ?_
      refine cF rfl ?_
      refine br_t (vLe_T (by omega)) ?_
      refine cI (fun c10 => ?_) (fun c10 => ?_)
      · replace c10 := vLe_t (c10)
        refine Done.mk ?_
        refine ⟨?_, ?_⟩
        · refine ⟨[108, 108, 62, 105], ?_⟩
          refine ⟨?_, ?_⟩
          · rfl
          exact ⟨fun h => absurd h (by decide), fun h => absurd (by unfold tkP; omega) h⟩
        exact H
      replace c10 := vLe_f (c10)
      refine br_f (vLe_F (by omega)) ?_
      refine cF rfl ?_
      refine br_f (vLe_F (by omega)) ?_
      refine cF rfl ?_
      refine br_f (vLe_F (by omega)) ?_
      refine cF rfl ?_
      refine cF (vEq_F (by omega)) ?_
      refine cF (vEq_F (by omega)) ?_
      refine cF (vEq_F (by omega)) ?_
      refine br_t (vLe_T (by assumption)) ?_
      refine cF (vLe_F (by omega)) ?_
      refine cF (vEq_F (by omega)) ?_
      refine cF (vEq_F (by omega)) ?_
      refine cF (vEq_F (by omega)) ?_
      refine cF (vEq_F (by omega)) ?_
      refine br_t (vLe_T (by omega)) ?_
      refine cF (vLe_F (by omega)) ?_
      refine cF (vEq_F (by omega)) ?_
      refine cF (vEq_F (by omega)) ?_
      refine cF (vEq_F (by omega)) ?_
      refine Done.mk ?_
      refine ⟨?_, ?_⟩
      · refine ⟨[63], ?_⟩
        refine ⟨?_, ?_⟩
        · rfl
        exact ⟨fun _ => by unfold tkP; omega, fun _ => rfl⟩
      exact H
    replace c8 := vLe_f (c8)
    refine cF rfl ?_
    refine br_f (vLe_F (by omega)) ?_
    refine cF rfl ?_
    refine br_f (vLe_F (by omega)) ?_
    refine cF rfl ?_
    refine br_f (vLe_F (by omega)) ?_
    refine cF rfl ?_
    refine br_f (vLe_F (by omega)) ?_
    refine cF rfl ?_
    refine br_f (vLe_F (by omega)) ?_
    refine cF rfl ?_
    refine cF (vEq_F (by omega)) ?_
    refine cF (vEq_F (by omega)) ?_
    refine cF (vEq_F (by omega)) ?_
    refine br_t (vLe_T (by assumption)) ?_
    refine cI (fun c9 => ?_) (fun c9 => ?_)
    · replace c9 := vLe_t (c9)
      refine Done.mk ?_
      refine ⟨?_, ?_⟩
      · refine ⟨[105, 62, 108], ?_⟩
        refine ⟨?_, ?_⟩
        · rfl
        exact ⟨fun h => absurd h (by decide), fun h => absurd (by unfold tkP; omega) h⟩
      exact H
    replace c9 := vLe_f (c9)
    refine cI (fun c10 => ?_) (fun c10 => ?_)
    · replace c10 := vEq_t (c10)
      refine cT (vEq_T (by assumption)) ?_
      refine Done.mk ?_
      refine ⟨?_, ?_⟩
      · refine ⟨[105, 105, 62], ?_⟩
        refine ⟨?_, ?_⟩
        · rfl
        exact ⟨fun h => absurd h (by decide), fun h => absurd (by unfold tkP; omega) h⟩
      exact H
    replace c10 := vEq_f (c10)
    refine cI (fun c11 => ?_) (fun c11 => ?_)
    · replace c11 := vEq_t (c11)
      refine cT (vEq_T (by assumption)) ?_
      refine Done.mk ?_
      refine ⟨?_, ?_⟩
      · refine ⟨[105, 105, 62], ?_⟩
        refine ⟨?_, ?_⟩
        · rfl
        exact ⟨fun h => absurd h (by decide), fun h => absurd (by unfold tkP; omega) h⟩
      exact H
    replace c11 := vEq_f (c11)
    refine cI (fun c12 => ?_) (fun c12 => ?_)
    · replace c12 := vEq_t (c12)
      refine Done.mk ?_
      refine ⟨?_, ?_⟩
      · refine ⟨[105, 105, 62], ?_⟩
        refine ⟨?_, ?_⟩
        · rfl
        exact ⟨fun h => absurd h (by decide), fun h => absurd (by unfold tkP; omega) h⟩
      exact H
    replace c12 := vEq_f (c12)
    refine cI (fun c13 => ?_) (fun c13 => ?_)
    · replace c13 := vEq_t (c13)
      refine cT (vEq_T (by assumption)) ?_
      refine Done.mk ?_
      refine ⟨?_, ?_⟩
      · refine ⟨[105, 108, 62], ?_⟩
        refine ⟨?_, ?_⟩
        · rfl
        exact ⟨fun h => absurd h (by decide), fun h => absurd (by unfold tkP; omega) h⟩
      exact H
    replace c13 := vEq_f (c13)
    refine br (fun c14 => ?_) (fun c14 => ?_)
    · replace c14 := vLe_t (c14)
      refine cI (fun c15 => ?_) (fun c15 => ?_)
      · replace c15 := vLe_t (c15)
        refine Done.mk ?_
        refine ⟨?_, ?_⟩
        · refine ⟨[105, 108, 62], ?_⟩
          refine ⟨?_, ?_⟩
          · rfl
          exact ⟨fun h => absurd h (by decide), fun h => absurd (by unfold tkP; omega) h⟩
        exact H
      replace c15 := vLe_f (c15)
      refine cI (fun c16 => ?_) (fun c16 => ?_)
      · replace c16 := vEq_t (c16)
        refine cT (vEq_T (by assumption)) ?_
        refine Done.mk ?_
        refine ⟨?_, ?_⟩
        · refine ⟨[62, 105], ?_⟩
          refine ⟨?_, ?_⟩
          · rfl
          exact ⟨fun h => absurd h (by decide), fun h => absurd (by unfold tkP; omega) h⟩
        exact H
      replace c16 := vEq_f (c16)
      refine cI (fun c17 => ?_) (fun c17 => ?_)
      · replace c17 := vEq_t (c17)
        refine Done.mk ?_
        refine ⟨?_, ?_⟩
        · refine ⟨[62, 105], ?_⟩
          refine ⟨?_, ?_⟩
          · rfl
          exact ⟨fun h => absurd h (by decide), fun h => absurd (by unfold tkP; omega) h⟩
        exact H
      replace c17 := vEq_f (c17)
      refine cI (fun c18 => ?_) (fun c18 => ?_)
      · replace c18 := vEq_t (c18)
        refine Done.mk ?_
        refine ⟨?_, ?_⟩
        · refine ⟨[62, 108], ?_⟩
          refine ⟨?_, ?_⟩
          · rfl
          exact ⟨fun h => absurd h (by decide), fun h => absurd (by unfold tkP; omega) h⟩
        exact H
      replace c18 := vEq_f (c18)
      refine Done.mk ?_
      refine ⟨?_, ?_⟩
      · refine ⟨[63], ?_⟩
        refine ⟨?_, ?_⟩
        · rfl
        exact ⟨fun _ => by unfold tkP; omega, fun _ => rfl⟩
      exact H
    replace c14 := vLe_f (c14)
    refine cF rfl ?_
    refine cF (vEq_F (by omega)) ?_
    refine cF (vEq_F (by omega)) ?_
    refine cF (vEq_F (by omega)) ?_
    refine Done.mk ?_
    refine ⟨?_, ?_⟩
    · refine ⟨[63], ?_⟩
      refine ⟨?_, ?_⟩
      · rfl
      exact ⟨fun _ => by unfold tkP; omega, fun _ => rfl⟩
    exact H
  replace c5 := vLe_f (c5)
  refine cF rfl ?_
  refine cF (vEq_F (by omega)) ?_
  refine cF (vEq_F (by omega)) ?_
  refine br_f (vLe_F (by omega)) ?_
  refine cF rfl ?_
  refine br_f (vLe_F (by omega)) ?_
  refine cF rfl ?_
  refine br_f (vLe_F (by omega)) ?_
  refine cF rfl ?_
  refine br_f (vLe_F (by omega)) ?_
  refine cF rfl ?_
  refine br_f (vLe_F (by omega)) ?_
  refine cF rfl ?_
  refine br_f (vLe_F (by omega)) ?_
  refine cF rfl ?_
  refine cF (vEq_F (by omega)) ?_
  refine cF (vEq_F (by omega)) ?_
  refine cI (fun c6 => ?_) (fun c6 => ?_)
  · replace c6 := vEq_t (c6)
    refine cT (vEq_T (by assumption)) ?_
    refine Done.mk ?_
    refine ⟨?_, ?_⟩
    · refine ⟨[105, 62, 108], ?_⟩
      refine ⟨?_, ?_⟩
      · rfl
      exact ⟨fun h => absurd h (by decide), fun h => absurd (by unfold tkP; omega) h⟩
    exact H
  replace c6 := vEq_f (c6)
  refine br_f (vLe_F (by omega)) ?_
  refine cF rfl ?_
  refine cF (vEq_F (by omega)) ?_
  refine cF (vEq_F (by omega)) ?_
  refine cF (vEq_F (by omega)) ?_
  refine cF (vEq_F (by omega)) ?_
  refine br_f (vLe_F (by omega)) ?_
  refine cF rfl ?_
  refine cF (vEq_F (by omega)) ?_
  refine cF (vEq_F (by omega)) ?_
  refine cF (vEq_F (by omega)) ?_
  refine Done.mk ?_
  refine ⟨?_, ?_⟩
  · refine ⟨[63], ?_⟩
    refine ⟨?_, ?_⟩
    · rfl
    exact ⟨fun _ => by unfold tkP; omega, fun _ => rfl⟩
  exact H
theorem beside (H : Sat g w l) (m : Int) (hM : FAt g 4 0 [.int .i64 m]) (n : Nat) (hn : n ≤ 255) : Fc Tryz.prog 63 #[.int .u8 n] w (fun v w' => ∃ s, v = .string (bs s) ∧ s = besideL n ∧ Sat g w' l) := by
  refine Fc.of Tryz.func63 rfl (by kernel_rfl) ?_
  refine rConvI64 (by omega) rfl rfl ?_
  refine bk ?_
  refine br (fun c1 => ?_) (fun c1 => ?_)
  · replace c1 := vLe_t (c1)
    refine cI (fun c2 => ?_) (fun c2 => ?_)
    · replace c2 := vLe_t (c2)
      refine Done.mk ?_
      refine ⟨[107], ?_⟩
      refine ⟨?_, ?_⟩
      · rfl
      refine ⟨?_, ?_⟩
      · (unfold besideL; repeat first | rw [if_pos (by omega)] | rw [if_neg (by omega)] | rw [if_pos (.inl (by omega))] | rw [if_pos (bsT_r (by assumption) (by assumption))] | rw [if_neg (bsT_n (by assumption) (by assumption) (by omega))])
      exact H
    replace c2 := vLe_f (c2)
    refine cI (fun c3 => ?_) (fun c3 => ?_)
    · replace c3 := vEq_t (c3)
      refine cT (vEq_T (by assumption)) ?_
      refine Done.mk ?_
      refine ⟨[97], ?_⟩
      refine ⟨?_, ?_⟩
      · rfl
      refine ⟨?_, ?_⟩
      · (unfold besideL; repeat first | rw [if_pos (by omega)] | rw [if_neg (by omega)] | rw [if_pos (.inl (by omega))] | rw [if_pos (bsT_r (by assumption) (by assumption))] | rw [if_neg (bsT_n (by assumption) (by assumption) (by omega))])
      exact H
    replace c3 := vEq_f (c3)
    refine cI (fun c4 => ?_) (fun c4 => ?_)
    · replace c4 := vEq_t (c4)
      refine cT (vEq_T (by assumption)) ?_
      refine Done.mk ?_
      refine ⟨[97], ?_⟩
      refine ⟨?_, ?_⟩
      · rfl
      refine ⟨?_, ?_⟩
      · (unfold besideL; repeat first | rw [if_pos (by omega)] | rw [if_neg (by omega)] | rw [if_pos (.inl (by omega))] | rw [if_pos (bsT_r (by assumption) (by assumption))] | rw [if_neg (bsT_n (by assumption) (by assumption) (by omega))])
      exact H
    replace c4 := vEq_f (c4)
    refine cI (fun c5 => ?_) (fun c5 => ?_)
    · replace c5 := vEq_t (c5)
      refine cT (vEq_T (by assumption)) ?_
      refine Done.mk ?_
      refine ⟨[97], ?_⟩
      refine ⟨?_, ?_⟩
      · rfl
      refine ⟨?_, ?_⟩
      · (unfold besideL; repeat first | rw [if_pos (by omega)] | rw [if_neg (by omega)] | rw [if_pos (.inl (by omega))] | rw [if_pos (bsT_r (by assumption) (by assumption))] | rw [if_neg (bsT_n (by assumption) (by assumption) (by omega))])
      exact H
    replace c5 := vEq_f (c5)
    refine br (fun c6 => ?_) (fun c6 => ?_)
    · replace c6 := vLe_t (c6)
      refine cI (fun c7 => ?_) (fun c7 => ?_)
      · replace c7 := vLe_t (c7)
        refine Done.mk ?_
        refine ⟨[97], ?_⟩
        refine ⟨?_, ?_⟩
        · rfl
        refine ⟨?_, ?_⟩
        · (unfold besideL; repeat first | rw [if_pos (by omega)] | rw [if_neg (by omega)] | rw [if_pos (.inl (by omega))] | rw [if_pos (bsT_r (by assumption) (by assumption))] | rw [if_neg (bsT_n (by assumption) (by assumption) (by omega))])
        exact H
      replace c7 := vLe_f (c7)
      refine cF (vEq_F (by omega)) ?_
      refine cF (vEq_F (by omega)) ?_
      refine CallP.mk (Fc.imp (Go.Proofs.YtndhikahjmgamaaGreatDoor.RefD.insWidth H _ hM (n) ?_) ?_)
      · assumption
      clear H
      rintro _ w1 ⟨r1, ⟨rfl, ⟨h1, H⟩⟩⟩
      refine cI (fun c8 => ?_) (fun c8 => ?_)
      · replace c8 := vLt_t (c8)
        refine Done.mk ?_
        refine ⟨[97, 98], ?_⟩
        refine ⟨?_, ?_⟩
        · rfl
        refine ⟨?_, ?_⟩
        · (unfold besideL; repeat first | rw [if_pos (by omega)] | rw [if_neg (by omega)] | rw [if_pos (.inl (by omega))] | rw [if_pos (bsT_r (by assumption) (by assumption))] | rw [if_neg (bsT_n (by assumption) (by assumption) (by omega))])
        exact H
      replace c8 := vLt_f (c8)
      refine cI (fun c9 => ?_) (fun c9 => ?_)
      · replace c9 := vEq_t (c9)
        refine cT (vEq_T (by assumption)) ?_
        refine Done.mk ?_
        refine ⟨[122], ?_⟩
        refine ⟨?_, ?_⟩
        · rfl
        refine ⟨?_, ?_⟩
        · (unfold besideL; repeat first | rw [if_pos (by omega)] | rw [if_neg (by omega)] | rw [if_pos (.inl (by omega))] | rw [if_pos (bsT_r (by assumption) (by assumption))] | rw [if_neg (bsT_n (by assumption) (by assumption) (by omega))])
        exact H
      replace c9 := vEq_f (c9)
      refine cI (fun c10 => ?_) (fun c10 => ?_)
      · replace c10 := vEq_t (c10)
        refine Done.mk ?_
        refine ⟨[122], ?_⟩
        refine ⟨?_, ?_⟩
        · rfl
        refine ⟨?_, ?_⟩
        · (unfold besideL; repeat first | rw [if_pos (by omega)] | rw [if_neg (by omega)] | rw [if_pos (.inl (by omega))] | rw [if_pos (bsT_r (by assumption) (by assumption))] | rw [if_neg (bsT_n (by assumption) (by assumption) (by omega))])
        exact H
      replace c10 := vEq_f (c10)
      refine cI (fun c11 => ?_) (fun c11 => ?_)
      · replace c11 := vEq_t (c11)
        refine Done.mk ?_
        refine ⟨[99], ?_⟩
        refine ⟨?_, ?_⟩
        · rfl
        refine ⟨?_, ?_⟩
        · (unfold besideL; repeat first | rw [if_pos (by omega)] | rw [if_neg (by omega)] | rw [if_pos (.inl (by omega))] | rw [if_pos (bsT_r (by assumption) (by assumption))] | rw [if_neg (bsT_n (by assumption) (by assumption) (by omega))])
        exact H
      replace c11 := vEq_f (c11)
      refine cI (fun c12 => ?_) (fun c12 => ?_)
      · replace c12 := vEq_t (c12)
        refine Done.mk ?_
        refine ⟨[100], ?_⟩
        refine ⟨?_, ?_⟩
        · rfl
        refine ⟨?_, ?_⟩
        · (unfold besideL; repeat first | rw [if_pos (by omega)] | rw [if_neg (by omega)] | rw [if_pos (.inl (by omega))] | rw [if_pos (bsT_r (by assumption) (by assumption))] | rw [if_neg (bsT_n (by assumption) (by assumption) (by omega))])
        exact H
      replace c12 := vEq_f (c12)
      refine cF (vEq_F (by omega)) ?_
      refine cF (vEq_F (by omega)) ?_
      refine cF (vEq_F (by omega)) ?_
      refine cF (vEq_F (by omega)) ?_
      refine cF (vEq_F (by omega)) ?_
      refine cF (vEq_F (by omega)) ?_
      refine cF (vEq_F (by omega)) ?_
      refine CallP.mk (Fc.imp (Go.Proofs.YtndhikahjmgamaaGreatDoor.RefD.takes (n) ?_ _) ?_)
      · assumption
      rintro _ w2 ⟨⟨s1, ⟨rfl, h2⟩⟩, H'⟩
      refine H.mergeK H' ?_
      clear H H'
      intro H
      refine rStrNe ?_
      refine cI (fun c13 => ?_) (fun c13 => ?_)
      · replace c13 := dec_f (not_t (c13))
        refine Done.mk ?_
        refine ⟨[], ?_⟩
        refine ⟨?_, ?_⟩
        · rfl
        refine ⟨?_, ?_⟩
        · (unfold besideL; repeat first | rw [if_pos (by omega)] | rw [if_neg (by omega)] | rw [if_pos (.inl (by omega))] | rw [if_pos (bsT_r (by assumption) (by assumption))] | rw [if_neg (bsT_n (by assumption) (by assumption) (by omega))])
        exact H
      replace c13 := dec_t (not_f (c13))
      refine Done.mk ?_
      refine ⟨[63], ?_⟩
      refine ⟨?_, ?_⟩
      · rfl
      refine ⟨?_, ?_⟩
      · (unfold besideL; repeat first | rw [if_pos (by omega)] | rw [if_neg (by omega)] | rw [if_pos (.inl (by omega))] | rw [if_pos (bsT_r (by assumption) (by assumption))] | rw [if_neg (bsT_n (by assumption) (by assumption) (by omega))])
      exact H
    replace c6 := vLe_f (c6)
    refine cF rfl ?_
    refine cI (fun c7 => ?_) (fun c7 => ?_)
    · replace c7 := vEq_t (c7)
      refine Done.mk ?_
      refine ⟨[116], ?_⟩
      refine ⟨?_, ?_⟩
      · rfl
      refine ⟨?_, ?_⟩
      · (unfold besideL; repeat first | rw [if_pos (by omega)] | rw [if_neg (by omega)] | rw [if_pos (.inl (by omega))] | rw [if_pos (bsT_r (by assumption) (by assumption))] | rw [if_neg (bsT_n (by assumption) (by assumption) (by omega))])
      exact H
    replace c7 := vEq_f (c7)
    refine cI (fun c8 => ?_) (fun c8 => ?_)
    · replace c8 := vEq_t (c8)
      refine Done.mk ?_
      refine ⟨[97, 122], ?_⟩
      refine ⟨?_, ?_⟩
      · rfl
      refine ⟨?_, ?_⟩
      · (unfold besideL; repeat first | rw [if_pos (by omega)] | rw [if_neg (by omega)] | rw [if_pos (.inl (by omega))] | rw [if_pos (bsT_r (by assumption) (by assumption))] | rw [if_neg (bsT_n (by assumption) (by assumption) (by omega))])
      exact H
    replace c8 := vEq_f (c8)
    refine CallP.mk (Fc.imp (Go.Proofs.YtndhikahjmgamaaGreatDoor.RefD.insWidth H _ hM (n) ?_) ?_)
    · assumption
    clear H
    rintro _ w1 ⟨r1, ⟨rfl, ⟨h1, H⟩⟩⟩
    refine cI (fun c9 => ?_) (fun c9 => ?_)
    · replace c9 := vLt_t (c9)
      refine Done.mk ?_
      refine ⟨[97, 98], ?_⟩
      refine ⟨?_, ?_⟩
      · rfl
      refine ⟨?_, ?_⟩
      · (unfold besideL; repeat first | rw [if_pos (by omega)] | rw [if_neg (by omega)] | rw [if_pos (.inl (by omega))] | rw [if_pos (bsT_r (by assumption) (by assumption))] | rw [if_neg (bsT_n (by assumption) (by assumption) (by omega))])
      exact H
    replace c9 := vLt_f (c9)
    refine cF (vEq_F (by omega)) ?_
    refine cF (vEq_F (by omega)) ?_
    refine cF (vEq_F (by omega)) ?_
    refine cF (vEq_F (by omega)) ?_
    refine cF (vEq_F (by omega)) ?_
    refine cF (vEq_F (by omega)) ?_
    refine cI (fun c10 => ?_) (fun c10 => ?_)
    · replace c10 := vEq_t (c10)
      refine cT (vEq_T (by assumption)) ?_
      refine Done.mk ?_
      refine ⟨[], ?_⟩
      refine ⟨?_, ?_⟩
      · rfl
      refine ⟨?_, ?_⟩
      · (unfold besideL; repeat first | rw [if_pos (by omega)] | rw [if_neg (by omega)] | rw [if_pos (.inl (by omega))] | rw [if_pos (bsT_r (by assumption) (by assumption))] | rw [if_neg (bsT_n (by assumption) (by assumption) (by omega))])
      exact H
    replace c10 := vEq_f (c10)
    refine cI (fun c11 => ?_) (fun c11 => ?_)
    · replace c11 := vEq_t (c11)
      refine cT (vEq_T (by assumption)) ?_
      refine Done.mk ?_
      refine ⟨[], ?_⟩
      refine ⟨?_, ?_⟩
      · rfl
      refine ⟨?_, ?_⟩
      · (unfold besideL; repeat first | rw [if_pos (by omega)] | rw [if_neg (by omega)] | rw [if_pos (.inl (by omega))] | rw [if_pos (bsT_r (by assumption) (by assumption))] | rw [if_neg (bsT_n (by assumption) (by assumption) (by omega))])
      exact H
    replace c11 := vEq_f (c11)
    refine cI (fun c12 => ?_) (fun c12 => ?_)
    · replace c12 := vEq_t (c12)
      refine cT (vEq_T (by assumption)) ?_
      refine Done.mk ?_
      refine ⟨[], ?_⟩
      refine ⟨?_, ?_⟩
      · rfl
      refine ⟨?_, ?_⟩
      · (unfold besideL; repeat first | rw [if_pos (by omega)] | rw [if_neg (by omega)] | rw [if_pos (.inl (by omega))] | rw [if_pos (bsT_r (by assumption) (by assumption))] | rw [if_neg (bsT_n (by assumption) (by assumption) (by omega))])
      exact H
    replace c12 := vEq_f (c12)
    refine cI (fun c13 => ?_) (fun c13 => ?_)
    · replace c13 := vEq_t (c13)
      refine cT (vEq_T (by assumption)) ?_
      refine Done.mk ?_
      refine ⟨[], ?_⟩
      refine ⟨?_, ?_⟩
      · rfl
      refine ⟨?_, ?_⟩
      · (unfold besideL; repeat first | rw [if_pos (by omega)] | rw [if_neg (by omega)] | rw [if_pos (.inl (by omega))] | rw [if_pos (bsT_r (by assumption) (by assumption))] | rw [if_neg (bsT_n (by assumption) (by assumption) (by omega))])
      exact H
    replace c13 := vEq_f (c13)
    refine cI (fun c14 => ?_) (fun c14 => ?_)
    · replace c14 := vEq_t (c14)
      refine cT (vEq_T (by assumption)) ?_
      refine Done.mk ?_
      refine ⟨[], ?_⟩
      refine ⟨?_, ?_⟩
      · rfl
      refine ⟨?_, ?_⟩
      · (unfold besideL; repeat first | rw [if_pos (by omega)] | rw [if_neg (by omega)] | rw [if_pos (.inl (by omega))] | rw [if_pos (bsT_r (by assumption) (by assumption))] | rw [if_neg (bsT_n (by assumption) (by assumption) (by omega))])
      exact H
    replace c14 := vEq_f (c14)
    refine CallP.mk (Fc.imp (Go.Proofs.YtndhikahjmgamaaGreatDoor.RefD.takes (n) ?_ _) ?_)
    · assumption
    rintro _ w2 ⟨⟨s1, ⟨rfl, h2⟩⟩, H'⟩
    refine H.mergeK H' ?_
    clear H H'
    intro H
    refine rStrNe ?_
    refine cI (fun c15 => ?_) (fun c15 => ?_)
    · replace c15 := dec_f (not_t (c15))
      refine Done.mk ?_
      refine ⟨[], ?_⟩
      refine ⟨?_, ?_⟩
      · rfl
      refine ⟨?_, ?_⟩
      · (unfold besideL; repeat first | rw [if_pos (by omega)] | rw [if_neg (by omega)] | rw [if_pos (.inl (by omega))] | rw [if_pos (bsT_r (by assumption) (by assumption))] | rw [if_neg (bsT_n (by assumption) (by assumption) (by omega))])
      exact H
    replace c15 := dec_t (not_f (c15))
    refine Done.mk ?_
    refine ⟨[63], ?_⟩
    refine ⟨?_, ?_⟩
    · rfl
    refine ⟨?_, ?_⟩
    · (unfold besideL; repeat first | rw [if_pos (by omega)] | rw [if_neg (by omega)] | rw [if_pos (.inl (by omega))] | rw [if_pos (bsT_r (by assumption) (by assumption))] | rw [if_neg (bsT_n (by assumption) (by assumption) (by omega))])
    exact H
  replace c1 := vLe_f (c1)
  refine cF rfl ?_
  refine cF (vEq_F (by omega)) ?_
  refine cF (vEq_F (by omega)) ?_
  refine cF (vEq_F (by omega)) ?_
  refine br_f (vLe_F (by omega)) ?_
  refine cF rfl ?_
  refine cF (vEq_F (by omega)) ?_
  refine cF (vEq_F (by omega)) ?_
  refine CallP.mk (Fc.imp (Go.Proofs.YtndhikahjmgamaaGreatDoor.RefD.insWidth H _ hM (n) ?_) ?_)
  · assumption
  clear H
  rintro _ w1 ⟨r1, ⟨rfl, ⟨h1, H⟩⟩⟩
  refine cI (fun c2 => ?_) (fun c2 => ?_)
  · replace c2 := vLt_t (c2)
    refine Done.mk ?_
    refine ⟨[97, 98], ?_⟩
    refine ⟨?_, ?_⟩
    · rfl
    refine ⟨?_, ?_⟩
    · (unfold besideL; repeat first | rw [if_pos (by omega)] | rw [if_neg (by omega)] | rw [if_pos (.inl (by omega))] | rw [if_pos (bsT_r (by assumption) (by assumption))] | rw [if_neg (bsT_n (by assumption) (by assumption) (by omega))])
    exact H
  replace c2 := vLt_f (c2)
  refine cF (vEq_F (by omega)) ?_
  refine cF (vEq_F (by omega)) ?_
  refine cF (vEq_F (by omega)) ?_
  refine cF (vEq_F (by omega)) ?_
  refine cI (fun c3 => ?_) (fun c3 => ?_)
  · replace c3 := vEq_t (c3)
    refine cT (vEq_T (by assumption)) ?_
    refine Done.mk ?_
    refine ⟨[], ?_⟩
    refine ⟨?_, ?_⟩
    · rfl
    refine ⟨?_, ?_⟩
    · (unfold besideL; repeat first | rw [if_pos (by omega)] | rw [if_neg (by omega)] | rw [if_pos (.inl (by omega))] | rw [if_pos (bsT_r (by assumption) (by assumption))] | rw [if_neg (bsT_n (by assumption) (by assumption) (by omega))])
    exact H
  replace c3 := vEq_f (c3)
  refine cT (vEq_T (by omega)) ?_
  refine cT (vEq_T (by omega)) ?_
  refine Done.mk ?_
  refine ⟨[], ?_⟩
  refine ⟨?_, ?_⟩
  · rfl
  refine ⟨?_, ?_⟩
  · (unfold besideL; repeat first | rw [if_pos (by omega)] | rw [if_neg (by omega)] | rw [if_pos (.inl (by omega))] | rw [if_pos (bsT_r (by assumption) (by assumption))] | rw [if_neg (bsT_n (by assumption) (by assumption) (by omega))])
  exact H
theorem containsAny (H : Sat g w l) (s sub : List UInt8) (hs : s.length < 4294967281) (hsub : sub.length < 4294967281) (ha : ∀ (j : Nat) (b : UInt8), s[j]? = some b → b.toNat < 128) (hb : ∀ (j : Nat) (b : UInt8), sub[j]? = some b → b.toNat < 128) : Fc Tryz.prog 65 #[.string (bs s), .string (bs sub)] w (fun v w' => (∃ b, v = .bool b) ∧ Sat g w' l) := by
  refine Fc.ofCalls Tryz.func65 rfl (by kernel_rfl) ?_
  refine (Tryz.strings_ContainsAny_laid (bs s) (bs sub) w (by rw [bs_size]; exact hs) (by rw [bs_size]; exact hsub) (by rw [bs_list]; exact ha) (by rw [bs_list]; exact hb)).mono ?_
  rintro e w' ⟨rfl, hb⟩
  exact ⟨_, rfl, ⟨_, rfl⟩, H.below hb⟩
end
end Go.Proofs.YtndhikahjmgamaaGreatDoor.RefD
/- The document's InsCheck of an instruction that has a number and 64: unsupported just if nothing is known to stand beside it. -/
set_option maxRecDepth 100000
set_option maxHeartbeats 4000000
set_option linter.unusedVariables false
set_option linter.unusedSimpArgs false
namespace Go.Proofs.YtndhikahjmgamaaGreatDoor.RefD
open Go Go.Proofs.YtndhikahjmgamaaGreatDoor.Eng Go.RowKit
open Asm
section
variable {g : Glob} {w : World} {l : List As}
theorem wide (n : Int) (w : World) : Fc Tryz.prog 64 #[.int .i64 n] w (fun v w' => (∃ b, v = .bool b) ∧ Sat (froz w) w' []) := by
  refine Fc.of Tryz.func64 rfl (by kernel_rfl) ?_
  have H := Sat.start w
  refine br (fun c1 => ?_) (fun c1 => ?_)
  · replace c1 := vLt_t (c1)
    refine Done.mk ?_
    refine ⟨?_, ?_⟩
    · refine ⟨true, ?_⟩
      exact congrArg Value.bool (rfl)
    exact H
  replace c1 := vLt_f (c1)
  refine Done.mk ?_
  refine ⟨?_, ?_⟩
  · refine ⟨vLt 4294967295 n, ?_⟩
    rfl
  exact H
theorem e6 {e : Int} {s : List UInt8} {n : Nat} (hs : s = besideL n) (h : s ≠ [63]) (he : e ≠ 6) : e = 6 ↔ besideL n = [63] := ⟨fun k => absurd k he, fun k => absurd (hs.trans k) h⟩
end
end Go.Proofs.YtndhikahjmgamaaGreatDoor.RefD
/- The document's InsCheck of an instruction that is in its form. -/
set_option maxRecDepth 100000
set_option maxHeartbeats 4000000
set_option linter.unusedVariables false
set_option linter.unusedSimpArgs false
namespace Go.Proofs.YtndhikahjmgamaaGreatDoor.RefD
open Go Go.Proofs.YtndhikahjmgamaaGreatDoor.Eng Go.RowKit
open Asm Ins Leb
section
variable {g : Glob} {w : World} {l : List As}
def kbL (k : Int) : List UInt8 := if k = 2 then [107] else if k = 3 then [97] else if k = 4 then [116] else if k = 5 then [97, 122] else if k = 6 then [97, 98] else if k = 7 then [122] else if k = 8 then [99] else if k = 9 then [100] else if k = 1 then [] else [63]
theorem kb_all : ∀ n, n < 256 → besideL n = kbL (bsd (n : Int)) := by decide +kernel
/-- What stands beside an instruction that is in its form. -/
theorem kb_waysD {x : InsD} {n : Nat} (hn : n < 256) (ho : x.op = n) (hc : chk x = 0) {s : List UInt8} (hs : s = besideL n) :
    (s = [107] ∧ (x.a = 64 ∨ x.a = 127 ∨ x.a = 126) ∧ x.b = 0 ∧ x.to.length = 0) ∨ (s = [97] ∧ isIdx x.a ∧ x.b = 0 ∧ x.to.length = 0) ∨ (s = [116] ∧ isIdx x.a ∧ x.b = 0 ∧ x.to.length ≤ 16 ∧ ∀ m ∈ x.to, isIdx m) ∨ (s = [97, 122] ∧ isIdx x.a ∧ x.b = 0 ∧ x.to.length = 0) ∨ (s = [97, 98] ∧ isIdx x.a ∧ isIdx x.b ∧ x.to.length = 0) ∨ (s = [122] ∧ x.a = 0 ∧ x.b = 0 ∧ x.to.length = 0) ∨ (s = [99] ∧ (-2147483648 ≤ x.a ∧ x.a ≤ 2147483647) ∧ x.b = 0 ∧ x.to.length = 0) ∨ (s = [100] ∧ x.b = 0 ∧ x.to.length = 0) ∨ (s = [] ∧ x.a = 0 ∧ x.b = 0 ∧ x.to.length = 0) := by
  rw [kb_all n hn, ← ho] at hs
  have hr : bsd x.op = 0 ∨ bsd x.op = 1 ∨ bsd x.op = 2 ∨ bsd x.op = 3 ∨ bsd x.op = 4 ∨ bsd x.op = 5 ∨ bsd x.op = 6 ∨ bsd x.op = 7 ∨ bsd x.op = 8 ∨ bsd x.op = 9 := by
    unfold bsd
    repeat' split
    all_goals omega
  unfold chk at hc
  generalize bsd x.op = k at *
  by_cases h1 : k = 0
  · rw [if_pos h1] at hc; cases hc
  · rw [if_neg h1] at hc
    by_cases h2 : 16 < x.to.length
    · rw [if_pos h2] at hc; cases hc
    · rw [if_neg h2] at hc
      by_cases h3 : (k ≠ 4 ∧ 0 < x.to.length) ∨ (k ≠ 6 ∧ x.b ≠ 0)
      · rw [if_pos h3] at hc; cases hc
      · rw [if_neg h3] at hc
        by_cases h4 : goodK k x.a x.b ∧ ∀ m ∈ x.to, isIdx m
        · obtain ⟨h4, h5⟩ := h4
          unfold goodK at h4
          rcases hr with rfl | rfl | rfl | rfl | rfl | rfl | rfl | rfl | rfl | rfl
          · exact absurd rfl h1
          · exact .inr (.inr (.inr (.inr (.inr (.inr (.inr (.inr ⟨hs, by simpa using h4, by omega, by omega⟩)))))))
          · exact .inl ⟨hs, by simpa using h4, by omega, by omega⟩
          · exact .inr (.inl ⟨hs, by simpa using h4, by omega, by omega⟩)
          · exact .inr (.inr (.inl ⟨hs, by simpa using h4, by omega, by omega, h5⟩))
          · exact .inr (.inr (.inr (.inl ⟨hs, by simpa using h4, by omega, by omega⟩)))
          · have h6 : isIdx x.a ∧ isIdx x.b := by simpa using h4
            exact .inr (.inr (.inr (.inr (.inl ⟨hs, h6.1, h6.2, by omega⟩))))
          · exact .inr (.inr (.inr (.inr (.inr (.inl ⟨hs, by simpa using h4, by omega, by omega⟩)))))
          · exact .inr (.inr (.inr (.inr (.inr (.inr (.inl ⟨hs, by simpa using h4, by omega, by omega⟩))))))
          · exact .inr (.inr (.inr (.inr (.inr (.inr (.inr (.inl ⟨hs, by omega, by omega⟩)))))))
        · rw [if_neg h4] at hc; cases hc
theorem wide_iff {n : Int} (h : 0 ≤ n) : vLt 4294967295 n = true ↔ ¬ isIdx n := by
  unfold isIdx
  rw [vLt_iff, decide_eq_true_iff]
  omega
theorem kb_ways {x : InsV} {n : Nat} (hn : n < 256) (ho : x.op = n) (hc : chk x.d = 0) {s : List UInt8} (hs : s = besideL n) :
    (s = [107] ∧ (x.a = 64 ∨ x.a = 127 ∨ x.a = 126) ∧ x.b = 0 ∧ x.to.length = 0) ∨ (s = [97] ∧ (0 ≤ x.a ∧ x.a ≤ 4294967295) ∧ x.b = 0 ∧ x.to.length = 0) ∨ (s = [116] ∧ (0 ≤ x.a ∧ x.a ≤ 4294967295) ∧ x.b = 0 ∧ x.to.length ≤ 16 ∧ ∀ m ∈ x.to, isIdx m) ∨ (s = [97, 122] ∧ (0 ≤ x.a ∧ x.a ≤ 4294967295) ∧ x.b = 0 ∧ x.to.length = 0) ∨ (s = [97, 98] ∧ (0 ≤ x.a ∧ x.a ≤ 4294967295) ∧ (0 ≤ x.b ∧ x.b ≤ 4294967295) ∧ x.to.length = 0) ∨ (s = [122] ∧ x.a = 0 ∧ x.b = 0 ∧ x.to.length = 0) ∨ (s = [99] ∧ (-2147483648 ≤ x.a ∧ x.a ≤ 2147483647) ∧ x.b = 0 ∧ x.to.length = 0) ∨ (s = [100] ∧ x.b = 0 ∧ x.to.length = 0) ∨ (s = [] ∧ x.a = 0 ∧ x.b = 0 ∧ x.to.length = 0) :=
  kb_waysD (x := x.d) hn ho hc hs
theorem asc_of {s : List UInt8} (h : s.all (fun b => decide (b.toNat < 128)) = true) : ∀ (j : Nat) (b : UInt8), s[j]? = some b → b.toNat < 128 := fun j b hb => by
  simpa using List.all_eq_true.1 h b (List.mem_of_getElem? hb)
theorem containsAnyX (H : Sat g w l) (s sub : List UInt8) (hs : s.length < 4294967281) (hsub : sub.length < 4294967281) (ha : ∀ (j : Nat) (b : UInt8), s[j]? = some b → b.toNat < 128) (hb : ∀ (j : Nat) (b : UInt8), sub[j]? = some b → b.toNat < 128) : Fc Tryz.prog 65 #[.string (bs s), .string (bs sub)] w (fun v w' => (∃ b, v = .bool b ∧ b = Lib.containsAny s sub) ∧ Sat g w' l) := by
  refine Fc.ofCalls Tryz.func65 rfl (by kernel_rfl) ?_
  refine (Tryz.strings_ContainsAny_laid (bs s) (bs sub) w (by rw [bs_size]; exact hs) (by rw [bs_size]; exact hsub) (by rw [bs_list]; exact ha) (by rw [bs_list]; exact hb)).mono ?_
  rintro e w' ⟨rfl, hb⟩
  exact ⟨_, rfl, ⟨_, rfl, by rw [bs_list, bs_list]⟩, H.below hb⟩
theorem ne_no {a b : Int} (h : a = b) : vNe a b = false := by
  cases h2 : vNe a b with
  | false => rfl
  | true => rw [vNe_iff] at h2; simp at h2; exact absurd h h2
theorem nt_no {b : Bool} {n : Int} (h : b = true ↔ ¬ isIdx n) (hn : 0 ≤ n ∧ n ≤ 4294967295) : b = false := by
  cases b with
  | false => rfl
  | true => exact absurd hn (h.1 rfl)
theorem lt_no {a b : Int} (h : b ≤ a) : vLt a b = false := by
  cases h2 : vLt a b with
  | false => rfl
  | true => rw [vLt_iff, decide_eq_true_iff] at h2; omega
theorem wideX (n : Int) (w : World) : Fc Tryz.prog 64 #[.int .i64 n] w (fun v w' => (∃ b, v = .bool b ∧ (b = true ↔ ¬ isIdx n)) ∧ Sat (froz w) w' []) := by
  refine Fc.of Tryz.func64 rfl (by kernel_rfl) ?_
  have H := Sat.start w
  refine br (fun c1 => ?_) (fun c1 => ?_)
  · replace c1 := vLt_t (c1)
    refine Done.mk ?_
    refine ⟨?_, ?_⟩
    · refine ⟨true, ?_⟩
      refine ⟨?_, ?_⟩
      · exact congrArg Value.bool (rfl)
      exact ⟨fun _ => by unfold isIdx; omega, fun _ => rfl⟩
    exact H
  replace c1 := vLt_f (c1)
  refine Done.mk ?_
  refine ⟨?_, ?_⟩
  · refine ⟨vLt 4294967295 n, ?_⟩
    refine ⟨?_, ?_⟩
    · rfl
    exact wide_iff (by omega)
  exact H
theorem insCheck0 (H : Sat g w l) (m : Int) (hM : FAt g 4 0 [.int .i64 m]) (x : InsV) (hx : okV g x) (hc : chk x.d = 0) : Fc Tryz.prog 34 #[.agg #[.int .u8 x.op, .int .i64 x.a, .int .i64 x.b, x.tv]] w (fun v w' => (∃ e, v = .int .i64 e ∧ e = 0) ∧ Sat g w' l) := by
  have hop := hx.op
  obtain ⟨n, hn⟩ := Int.eq_ofNat_of_zero_le hop.1
  have hx_to := hx.to
  rw [hn]
  obtain ⟨s0, hs0⟩ : ∃ s0, s0 = besideL n := ⟨_, rfl⟩
  rcases kb_ways (x := x) (by omega) hn hc hs0 with ⟨rfl, k1, k2, k3⟩ | ⟨rfl, k1, k2, k3⟩ | ⟨rfl, k1, k2, k3, k4⟩ | ⟨rfl, k1, k2, k3⟩ | ⟨rfl, k1, k2, k3⟩ | ⟨rfl, k1, k2, k3⟩ | ⟨rfl, k1, k2, k3⟩ | ⟨rfl, k2, k3⟩ | ⟨rfl, k1, k2, k3⟩
  · refine Fc.of Tryz.func34 rfl (by kernel_rfl) ?_
    refine rBoxS H ?_
    clear H
    intro p1 w1 H
    refine rFieldAt rfl ?_
    refine rLd (H.at 0 rfl) 0 rfl rfl rfl ?_
    refine CallP.mk (Fc.imp (Go.Proofs.YtndhikahjmgamaaGreatDoor.RefD.beside H _ hM (n) ?_) ?_)
    · omega
    clear H
    rintro _ w2 ⟨s1, ⟨rfl, ⟨h1, H⟩⟩⟩
    obtain rfl := h1.trans hs0.symm
    refine rStrEq ?_
    refine cF (dec_F (by decide)) ?_
    refine rFieldAt rfl ?_
    refine rLd (H.at 0 rfl) 3 rfl rfl rfl ?_
    refine rLenF hx_to rfl ?_
    refine cF (vLt_F (by omega)) ?_
    refine rFieldAt rfl ?_
    refine rLd (H.at 0 rfl) 1 rfl rfl rfl ?_
    refine block_join (α := Bool) (fun x_ => [(5, .bool x_)]) (fun x_ w_ => (x_ = false) ∧ Sat g w_ ((Pt p1 [.int .u8 n, .int .i64 x.a, .int .i64 x.b, x.tv] 40 :: l))) ?_ ?_
    · refine rStrEq ?_
      refine cT (dec_T (by decide)) ?_
      refine rFieldAt rfl ?_
      refine rLd (H.at 0 rfl) 1 rfl rfl rfl ?_
      refine br (fun c1 => ?_) (fun c1 => ?_)
      · replace c1 := vNe_t (c1)
        refine rFieldAt rfl ?_
        refine rLd (H.at 0 rfl) 1 rfl rfl rfl ?_
        refine br (fun c2 => ?_) (fun c2 => ?_)
        · replace c2 := vNe_t (c2)
          refine rFieldAt rfl ?_
          refine rLd (H.at 0 rfl) 1 rfl rfl rfl ?_
          refine Jn.mk (vNe x.a 127) (mt_cons rfl (mt_nil)) ?_
          refine ⟨?_, ?_⟩
          · exact ne_no (by omega)
          exact H
        replace c2 := vNe_f (c2)
        refine Jn.mk (false) (mt_cons rfl (mt_nil)) ?_
        refine ⟨?_, ?_⟩
        · decide
        exact H
      replace c1 := vNe_f (c1)
      refine Jn.mk (false) (mt_cons rfl (mt_nil)) ?_
      refine ⟨?_, ?_⟩
      · decide
      exact H
    clear H
    rintro b f_ w_ ⟨hb, H⟩
    try simp only at hb H ⊢
    subst hb
    refine rFieldAt rfl ?_
    refine rLd (H.at 0 rfl) 2 rfl rfl rfl ?_
    refine rStrEq ?_
    refine cF (dec_F (by decide)) ?_
    refine rFieldAt rfl ?_
    refine rLd (H.at 0 rfl) 3 rfl rfl rfl ?_
    refine rLenF hx_to rfl ?_
    refine br_f (vLt_F (by omega)) ?_
    refine rFieldAt rfl ?_
    refine rLd (H.at 0 rfl) 3 rfl rfl rfl ?_
    refine rLenF hx_to rfl ?_
    refine LoopP.rule (α := Nat) (0) (fun x_ => [(79, .int .i64 x_), (7, .bool false)]) (fun x_ w_ => (x_ ≤ x.to.length) ∧ Sat g w_ ((Pt p1 [.int .u8 n, .int .i64 x.a, .int .i64 x.b, x.tv] 40 :: l))) (fun x_ => x.to.length - x_) ?_ ?_ ?_
    · repeat first | exact mt_nil | refine mt_cons rfl ?_ | refine mt_i rfl (by first | omega | (simp only; omega) | (simp; omega) | (simp; done)) ?_
    · try simp only
      refine ⟨?_, ?_⟩
      · omega
      exact H
    clear H
    rintro i f_ w_ ⟨hi, H⟩
    try simp only at hi H ⊢
    refine cF (vLt_F (by omega)) ?_
    refine br_f (vNe_F (by assumption)) ?_
    refine cF rfl ?_
    refine Done.mk ?_
    refine ⟨?_, ?_⟩
    · refine ⟨0, ?_⟩
      refine ⟨?_, ?_⟩
      · refine int_eq ?_
        decide
      decide
    refine H.drop 0 ?_
    clear H
    intro H
    exact H
  · refine Fc.of Tryz.func34 rfl (by kernel_rfl) ?_
    refine rBoxS H ?_
    clear H
    intro p1 w1 H
    refine rFieldAt rfl ?_
    refine rLd (H.at 0 rfl) 0 rfl rfl rfl ?_
    refine CallP.mk (Fc.imp (Go.Proofs.YtndhikahjmgamaaGreatDoor.RefD.beside H _ hM (n) ?_) ?_)
    · omega
    clear H
    rintro _ w2 ⟨s1, ⟨rfl, ⟨h1, H⟩⟩⟩
    obtain rfl := h1.trans hs0.symm
    refine rStrEq ?_
    refine cF (dec_F (by decide)) ?_
    refine rFieldAt rfl ?_
    refine rLd (H.at 0 rfl) 3 rfl rfl rfl ?_
    refine rLenF hx_to rfl ?_
    refine cF (vLt_F (by omega)) ?_
    refine rFieldAt rfl ?_
    refine rLd (H.at 0 rfl) 1 rfl rfl rfl ?_
    refine block_join (α := Bool) (fun x_ => [(5, .bool x_)]) (fun x_ w_ => (x_ = false) ∧ Sat g w_ ((Pt p1 [.int .u8 n, .int .i64 x.a, .int .i64 x.b, x.tv] 40 :: l))) ?_ ?_
    · refine rStrEq ?_
      refine cF (dec_F (by decide)) ?_
      refine rStrEq ?_
      refine cF (dec_F (by decide)) ?_
      refine rStrEq ?_
      refine cF (dec_F (by decide)) ?_
      refine CallP.mk (Fc.imp (Go.Proofs.YtndhikahjmgamaaGreatDoor.RefD.containsAnyX H _ _ ?_ ?_ ?_ ?_) ?_)
      · decide
      · decide
      · exact asc_of (by decide)
      · exact asc_of (by decide)
      clear H
      rintro _ w3 ⟨⟨b1, ⟨rfl, h2⟩⟩, H⟩
      have hb9 : b1 = true := h2.trans (by decide)
      refine cT ((by assumption)) ?_
      refine rFieldAt rfl ?_
      refine rLd (H.at 0 rfl) 1 rfl rfl rfl ?_
      refine CallP.mk (Fc.imp (Go.Proofs.YtndhikahjmgamaaGreatDoor.RefD.wideX _ _) ?_)
      rintro _ w4 ⟨⟨b2, ⟨rfl, h3⟩⟩, H'⟩
      refine H.mergeK H' ?_
      clear H H'
      intro H
      refine Jn.mk (b2) (mt_cons rfl (mt_nil)) ?_
      refine ⟨?_, ?_⟩
      · exact nt_no (by assumption) (by omega)
      exact H
    clear H
    rintro b f_ w_ ⟨hb, H⟩
    try simp only at hb H ⊢
    subst hb
    refine rFieldAt rfl ?_
    refine rLd (H.at 0 rfl) 2 rfl rfl rfl ?_
    refine rStrEq ?_
    refine cF (dec_F (by decide)) ?_
    refine rFieldAt rfl ?_
    refine rLd (H.at 0 rfl) 3 rfl rfl rfl ?_
    refine rLenF hx_to rfl ?_
    refine br_f (vLt_F (by omega)) ?_
    refine rFieldAt rfl ?_
    refine rLd (H.at 0 rfl) 3 rfl rfl rfl ?_
    refine rLenF hx_to rfl ?_
    refine LoopP.rule (α := Nat) (0) (fun x_ => [(79, .int .i64 x_), (7, .bool false)]) (fun x_ w_ => (x_ ≤ x.to.length) ∧ Sat g w_ ((Pt p1 [.int .u8 n, .int .i64 x.a, .int .i64 x.b, x.tv] 40 :: l))) (fun x_ => x.to.length - x_) ?_ ?_ ?_
    · repeat first | exact mt_nil | refine mt_cons rfl ?_ | refine mt_i rfl (by first | omega | (simp only; omega) | (simp; omega) | (simp; done)) ?_
    · try simp only
      refine ⟨?_, ?_⟩
      · omega
      exact H
    clear H
    rintro i f_ w_ ⟨hi, H⟩
    try simp only at hi H ⊢
    refine cF (vLt_F (by omega)) ?_
    refine br_f (vNe_F (by assumption)) ?_
    refine cF rfl ?_
    refine Done.mk ?_
    refine ⟨?_, ?_⟩
    · refine ⟨0, ?_⟩
      refine ⟨?_, ?_⟩
      · refine int_eq ?_
        decide
      decide
    refine H.drop 0 ?_
    clear H
    intro H
    exact H
  · refine Fc.of Tryz.func34 rfl (by kernel_rfl) ?_
    refine rBoxS H ?_
    clear H
    intro p1 w1 H
    refine rFieldAt rfl ?_
    refine rLd (H.at 0 rfl) 0 rfl rfl rfl ?_
    refine CallP.mk (Fc.imp (Go.Proofs.YtndhikahjmgamaaGreatDoor.RefD.beside H _ hM (n) ?_) ?_)
    · omega
    clear H
    rintro _ w2 ⟨s1, ⟨rfl, ⟨h1, H⟩⟩⟩
    obtain rfl := h1.trans hs0.symm
    refine rStrEq ?_
    refine cF (dec_F (by decide)) ?_
    refine rFieldAt rfl ?_
    refine rLd (H.at 0 rfl) 3 rfl rfl rfl ?_
    refine rLenF hx_to rfl ?_
    refine cF (vLt_F (by omega)) ?_
    refine rFieldAt rfl ?_
    refine rLd (H.at 0 rfl) 1 rfl rfl rfl ?_
    refine block_join (α := Bool) (fun x_ => [(5, .bool x_)]) (fun x_ w_ => (x_ = false) ∧ Sat g w_ ((Pt p1 [.int .u8 n, .int .i64 x.a, .int .i64 x.b, x.tv] 40 :: l))) ?_ ?_
    · refine rStrEq ?_
      refine cF (dec_F (by decide)) ?_
      refine rStrEq ?_
      refine cF (dec_F (by decide)) ?_
      refine rStrEq ?_
      refine cF (dec_F (by decide)) ?_
      refine CallP.mk (Fc.imp (Go.Proofs.YtndhikahjmgamaaGreatDoor.RefD.containsAnyX H _ _ ?_ ?_ ?_ ?_) ?_)
      · decide
      · decide
      · exact asc_of (by decide)
      · exact asc_of (by decide)
      clear H
      rintro _ w3 ⟨⟨b1, ⟨rfl, h2⟩⟩, H⟩
      have hb9 : b1 = true := h2.trans (by decide)
      refine cT ((by assumption)) ?_
      refine rFieldAt rfl ?_
      refine rLd (H.at 0 rfl) 1 rfl rfl rfl ?_
      refine CallP.mk (Fc.imp (Go.Proofs.YtndhikahjmgamaaGreatDoor.RefD.wideX _ _) ?_)
      rintro _ w4 ⟨⟨b2, ⟨rfl, h3⟩⟩, H'⟩
      refine H.mergeK H' ?_
      clear H H'
      intro H
      refine Jn.mk (b2) (mt_cons rfl (mt_nil)) ?_
      refine ⟨?_, ?_⟩
      · exact nt_no (by assumption) (by omega)
      exact H
    clear H
    rintro b f_ w_ ⟨hb, H⟩
    try simp only at hb H ⊢
    subst hb
    refine rFieldAt rfl ?_
    refine rLd (H.at 0 rfl) 2 rfl rfl rfl ?_
    refine rStrEq ?_
    refine cF (dec_F (by decide)) ?_
    refine rFieldAt rfl ?_
    refine rLd (H.at 0 rfl) 3 rfl rfl rfl ?_
    refine rLenF hx_to rfl ?_
    refine br (fun c1 => ?_) (fun c1 => ?_)
    focus
      replace c1 := vLt_t (c1)
      refine rStrNe ?_
      refine rFieldAt rfl ?_
      refine rLd (H.at 0 rfl) 3 rfl rfl rfl ?_
      refine rLenF hx_to rfl ?_
    rotate_left 1
    focus
      replace c1 := vLt_f (c1)
      refine rFieldAt rfl ?_
      refine rLd (H.at 0 rfl) 3 rfl rfl rfl ?_
      refine rLenF hx_to rfl ?_
    rotate_left 1
    · refine LoopP.rule (α := Nat) (0) (fun x_ => [(79, .int .i64 x_), (7, .bool false)]) (fun x_ w_ => (x_ ≤ x.to.length) ∧ Sat g w_ ((Pt p1 [.int .u8 n, .int .i64 x.a, .int .i64 x.b, x.tv] 40 :: l))) (fun x_ => x.to.length - x_) ?_ ?_ ?_
      · repeat first | exact mt_nil | refine mt_cons rfl ?_ | refine mt_i rfl (by first | omega | (simp only; omega) | (simp; omega) | (simp; done)) ?_
      · try simp only
        refine ⟨?_, ?_⟩
        · omega
        exact H
      clear H
      rintro i f_ w_ ⟨hi, H⟩
      try simp only at hi H ⊢
      rcases Nat.lt_or_ge i x.to.length with hlt | hge
      · obtain ⟨y, hy⟩ : ∃ y, x.to[i]? = some y := ⟨_, List.getElem?_eq_getElem hlt⟩
        have hyi := k4 y (List.mem_of_getElem? hy)
        refine cT (vLt_T (by omega)) ?_
        refine bk ?_
        obtain ⟨b1, o1, E1, F1, hok1⟩ := FSl.elt hx_to hy
        refine rIxE E1 rfl rfl rfl ?_
        refine rLd (H.fat F1) 0 rfl rfl rfl ?_
        refine CallP.mk (Fc.imp (Go.Proofs.YtndhikahjmgamaaGreatDoor.RefD.wideX _ _) ?_)
        rintro _ w3 ⟨⟨b2, ⟨rfl, h2⟩⟩, H'⟩
        refine H.mergeK H' ?_
        clear H H'
        intro H
        obtain rfl := nt_no h2 hyi
        refine eqI64 (by omega) ?_
        refine Nxt.mk (i + 1) (mt_i rfl (by first | omega | (simp only; omega) | (simp; omega)) (mt_cons rfl (mt_nil))) ?_ ?_
        · refine ⟨?_, ?_⟩
          · assumption
          exact H
        omega
      · refine cF (vLt_F (by omega)) ?_
        refine br_f (vNe_F (by assumption)) ?_
        refine cF rfl ?_
        refine Done.mk ?_
        refine ⟨?_, ?_⟩
        · refine ⟨0, ?_⟩
          refine ⟨?_, ?_⟩
          · refine int_eq ?_
            decide
          decide
        refine H.drop 0 ?_
        clear H
        intro H
        exact H
    · refine LoopP.rule (α := Nat) (0) (fun x_ => [(79, .int .i64 x_), (7, .bool false)]) (fun x_ w_ => (x_ ≤ x.to.length) ∧ Sat g w_ ((Pt p1 [.int .u8 n, .int .i64 x.a, .int .i64 x.b, x.tv] 40 :: l))) (fun x_ => x.to.length - x_) ?_ ?_ ?_
      · repeat first | exact mt_nil | refine mt_cons rfl ?_ | refine mt_i rfl (by first | omega | (simp only; omega) | (simp; omega) | (simp; done)) ?_
      · try simp only
        refine ⟨?_, ?_⟩
        · omega
        exact H
      clear H
      rintro i f_ w_ ⟨hi, H⟩
      try simp only at hi H ⊢
      rcases Nat.lt_or_ge i x.to.length with hlt | hge
      · obtain ⟨y, hy⟩ : ∃ y, x.to[i]? = some y := ⟨_, List.getElem?_eq_getElem hlt⟩
        have hyi := k4 y (List.mem_of_getElem? hy)
        refine cT (vLt_T (by omega)) ?_
        refine bk ?_
        obtain ⟨b1, o1, E1, F1, hok1⟩ := FSl.elt hx_to hy
        refine rIxE E1 rfl rfl rfl ?_
        refine rLd (H.fat F1) 0 rfl rfl rfl ?_
        refine CallP.mk (Fc.imp (Go.Proofs.YtndhikahjmgamaaGreatDoor.RefD.wideX _ _) ?_)
        rintro _ w3 ⟨⟨b2, ⟨rfl, h2⟩⟩, H'⟩
        refine H.mergeK H' ?_
        clear H H'
        intro H
        obtain rfl := nt_no h2 hyi
        refine eqI64 (by omega) ?_
        refine Nxt.mk (i + 1) (mt_i rfl (by first | omega | (simp only; omega) | (simp; omega)) (mt_cons rfl (mt_nil))) ?_ ?_
        · refine ⟨?_, ?_⟩
          · assumption
          exact H
        omega
      · refine cF (vLt_F (by omega)) ?_
        refine br_f (vNe_F (by assumption)) ?_
        refine cF rfl ?_
        refine Done.mk ?_
        refine ⟨?_, ?_⟩
        · refine ⟨0, ?_⟩
          refine ⟨?_, ?_⟩
          · refine int_eq ?_
            decide
          decide
        refine H.drop 0 ?_
        clear H
        intro H
        exact H
  · refine Fc.of Tryz.func34 rfl (by kernel_rfl) ?_
    refine rBoxS H ?_
    clear H
    intro p1 w1 H
    refine rFieldAt rfl ?_
    refine rLd (H.at 0 rfl) 0 rfl rfl rfl ?_
    refine CallP.mk (Fc.imp (Go.Proofs.YtndhikahjmgamaaGreatDoor.RefD.beside H _ hM (n) ?_) ?_)
    · omega
    clear H
    rintro _ w2 ⟨s1, ⟨rfl, ⟨h1, H⟩⟩⟩
    obtain rfl := h1.trans hs0.symm
    refine rStrEq ?_
    refine cF (dec_F (by decide)) ?_
    refine rFieldAt rfl ?_
    refine rLd (H.at 0 rfl) 3 rfl rfl rfl ?_
    refine rLenF hx_to rfl ?_
    refine cF (vLt_F (by omega)) ?_
    refine rFieldAt rfl ?_
    refine rLd (H.at 0 rfl) 1 rfl rfl rfl ?_
    refine block_join (α := Bool) (fun x_ => [(5, .bool x_)]) (fun x_ w_ => (x_ = false) ∧ Sat g w_ ((Pt p1 [.int .u8 n, .int .i64 x.a, .int .i64 x.b, x.tv] 40 :: l))) ?_ ?_
    · refine rStrEq ?_
      refine cF (dec_F (by decide)) ?_
      refine rStrEq ?_
      refine cF (dec_F (by decide)) ?_
      refine rStrEq ?_
      refine cF (dec_F (by decide)) ?_
      refine CallP.mk (Fc.imp (Go.Proofs.YtndhikahjmgamaaGreatDoor.RefD.containsAnyX H _ _ ?_ ?_ ?_ ?_) ?_)
      · decide
      · decide
      · exact asc_of (by decide)
      · exact asc_of (by decide)
      clear H
      rintro _ w3 ⟨⟨b1, ⟨rfl, h2⟩⟩, H⟩
      have hb9 : b1 = true := h2.trans (by decide)
      refine cT ((by assumption)) ?_
      refine rFieldAt rfl ?_
      refine rLd (H.at 0 rfl) 1 rfl rfl rfl ?_
      refine CallP.mk (Fc.imp (Go.Proofs.YtndhikahjmgamaaGreatDoor.RefD.wideX _ _) ?_)
      rintro _ w4 ⟨⟨b2, ⟨rfl, h3⟩⟩, H'⟩
      refine H.mergeK H' ?_
      clear H H'
      intro H
      refine Jn.mk (b2) (mt_cons rfl (mt_nil)) ?_
      refine ⟨?_, ?_⟩
      · exact nt_no (by assumption) (by omega)
      exact H
    clear H
    rintro b f_ w_ ⟨hb, H⟩
    try simp only at hb H ⊢
    subst hb
    refine rFieldAt rfl ?_
    refine rLd (H.at 0 rfl) 2 rfl rfl rfl ?_
    refine rStrEq ?_
    refine cF (dec_F (by decide)) ?_
    refine rFieldAt rfl ?_
    refine rLd (H.at 0 rfl) 3 rfl rfl rfl ?_
    refine rLenF hx_to rfl ?_
    refine br_f (vLt_F (by omega)) ?_
    refine rFieldAt rfl ?_
    refine rLd (H.at 0 rfl) 3 rfl rfl rfl ?_
    refine rLenF hx_to rfl ?_
    refine LoopP.rule (α := Nat) (0) (fun x_ => [(79, .int .i64 x_), (7, .bool false)]) (fun x_ w_ => (x_ ≤ x.to.length) ∧ Sat g w_ ((Pt p1 [.int .u8 n, .int .i64 x.a, .int .i64 x.b, x.tv] 40 :: l))) (fun x_ => x.to.length - x_) ?_ ?_ ?_
    · repeat first | exact mt_nil | refine mt_cons rfl ?_ | refine mt_i rfl (by first | omega | (simp only; omega) | (simp; omega) | (simp; done)) ?_
    · try simp only
      refine ⟨?_, ?_⟩
      · omega
      exact H
    clear H
    rintro i f_ w_ ⟨hi, H⟩
    try simp only at hi H ⊢
    refine cF (vLt_F (by omega)) ?_
    refine br_f (vNe_F (by assumption)) ?_
    refine cF rfl ?_
    refine Done.mk ?_
    refine ⟨?_, ?_⟩
    · refine ⟨0, ?_⟩
      refine ⟨?_, ?_⟩
      · refine int_eq ?_
        decide
      decide
    refine H.drop 0 ?_
    clear H
    intro H
    exact H
  · refine Fc.of Tryz.func34 rfl (by kernel_rfl) ?_
    refine rBoxS H ?_
    clear H
    intro p1 w1 H
    refine rFieldAt rfl ?_
    refine rLd (H.at 0 rfl) 0 rfl rfl rfl ?_
    refine CallP.mk (Fc.imp (Go.Proofs.YtndhikahjmgamaaGreatDoor.RefD.beside H _ hM (n) ?_) ?_)
    · omega
    clear H
    rintro _ w2 ⟨s1, ⟨rfl, ⟨h1, H⟩⟩⟩
    obtain rfl := h1.trans hs0.symm
    refine rStrEq ?_
    refine cF (dec_F (by decide)) ?_
    refine rFieldAt rfl ?_
    refine rLd (H.at 0 rfl) 3 rfl rfl rfl ?_
    refine rLenF hx_to rfl ?_
    refine cF (vLt_F (by omega)) ?_
    refine rFieldAt rfl ?_
    refine rLd (H.at 0 rfl) 1 rfl rfl rfl ?_
    refine block_join (α := Bool) (fun x_ => [(5, .bool x_)]) (fun x_ w_ => (x_ = false) ∧ Sat g w_ ((Pt p1 [.int .u8 n, .int .i64 x.a, .int .i64 x.b, x.tv] 40 :: l))) ?_ ?_
    · refine rStrEq ?_
      refine cF (dec_F (by decide)) ?_
      refine rStrEq ?_
      refine cF (dec_F (by decide)) ?_
      refine rStrEq ?_
      refine cF (dec_F (by decide)) ?_
      refine CallP.mk (Fc.imp (Go.Proofs.YtndhikahjmgamaaGreatDoor.RefD.containsAnyX H _ _ ?_ ?_ ?_ ?_) ?_)
      · decide
      · decide
      · exact asc_of (by decide)
      · exact asc_of (by decide)
      clear H
      rintro _ w3 ⟨⟨b1, ⟨rfl, h2⟩⟩, H⟩
      have hb9 : b1 = true := h2.trans (by decide)
      refine cT ((by assumption)) ?_
      refine rFieldAt rfl ?_
      refine rLd (H.at 0 rfl) 1 rfl rfl rfl ?_
      refine CallP.mk (Fc.imp (Go.Proofs.YtndhikahjmgamaaGreatDoor.RefD.wideX _ _) ?_)
      rintro _ w4 ⟨⟨b2, ⟨rfl, h3⟩⟩, H'⟩
      refine H.mergeK H' ?_
      clear H H'
      intro H
      refine Jn.mk (b2) (mt_cons rfl (mt_nil)) ?_
      refine ⟨?_, ?_⟩
      · exact nt_no (by assumption) (by omega)
      exact H
    clear H
    rintro b f_ w_ ⟨hb, H⟩
    try simp only at hb H ⊢
    subst hb
    refine rFieldAt rfl ?_
    refine rLd (H.at 0 rfl) 2 rfl rfl rfl ?_
    refine rStrEq ?_
    refine cT (dec_T (by decide)) ?_
    refine rFieldAt rfl ?_
    refine rLd (H.at 0 rfl) 2 rfl rfl rfl ?_
    refine CallP.mk (Fc.imp (Go.Proofs.YtndhikahjmgamaaGreatDoor.RefD.wideX _ _) ?_)
    rintro _ w3 ⟨⟨b1, ⟨rfl, h2⟩⟩, H'⟩
    refine H.mergeK H' ?_
    clear H H'
    intro H
    obtain rfl := nt_no h2 k2
    refine rFieldAt rfl ?_
    refine rLd (H.at 0 rfl) 3 rfl rfl rfl ?_
    refine rLenF hx_to rfl ?_
    refine br_f (vLt_F (by omega)) ?_
    refine rFieldAt rfl ?_
    refine rLd (H.at 0 rfl) 3 rfl rfl rfl ?_
    refine rLenF hx_to rfl ?_
    refine LoopP.rule (α := Nat) (0) (fun x_ => [(79, .int .i64 x_), (7, .bool false)]) (fun x_ w_ => (x_ ≤ x.to.length) ∧ Sat g w_ ((Pt p1 [.int .u8 n, .int .i64 x.a, .int .i64 x.b, x.tv] 40 :: l))) (fun x_ => x.to.length - x_) ?_ ?_ ?_
    · repeat first | exact mt_nil | refine mt_cons rfl ?_ | refine mt_i rfl (by first | omega | (simp only; omega) | (simp; omega) | (simp; done)) ?_
    · try simp only
      refine ⟨?_, ?_⟩
      · omega
      exact H
    clear H
    rintro i f_ w_ ⟨hi, H⟩
    try simp only at hi H ⊢
    refine cF (vLt_F (by omega)) ?_
    refine cF rfl ?_
    refine Done.mk ?_
    refine ⟨?_, ?_⟩
    · refine ⟨0, ?_⟩
      refine ⟨?_, ?_⟩
      · refine int_eq ?_
        decide
      decide
    refine H.drop 0 ?_
    clear H
    intro H
    exact H
  · refine Fc.of Tryz.func34 rfl (by kernel_rfl) ?_
    refine rBoxS H ?_
    clear H
    intro p1 w1 H
    refine rFieldAt rfl ?_
    refine rLd (H.at 0 rfl) 0 rfl rfl rfl ?_
    refine CallP.mk (Fc.imp (Go.Proofs.YtndhikahjmgamaaGreatDoor.RefD.beside H _ hM (n) ?_) ?_)
    · omega
    clear H
    rintro _ w2 ⟨s1, ⟨rfl, ⟨h1, H⟩⟩⟩
    obtain rfl := h1.trans hs0.symm
    refine rStrEq ?_
    refine cF (dec_F (by decide)) ?_
    refine rFieldAt rfl ?_
    refine rLd (H.at 0 rfl) 3 rfl rfl rfl ?_
    refine rLenF hx_to rfl ?_
    refine cF (vLt_F (by omega)) ?_
    refine rFieldAt rfl ?_
    refine rLd (H.at 0 rfl) 1 rfl rfl rfl ?_
    refine block_join (α := Bool) (fun x_ => [(5, .bool x_)]) (fun x_ w_ => (x_ = false) ∧ Sat g w_ ((Pt p1 [.int .u8 n, .int .i64 x.a, .int .i64 x.b, x.tv] 40 :: l))) ?_ ?_
    · refine rStrEq ?_
      refine cF (dec_F (by decide)) ?_
      refine rStrEq ?_
      refine cF (dec_F (by decide)) ?_
      refine rStrEq ?_
      refine cF (dec_F (by decide)) ?_
      refine CallP.mk (Fc.imp (Go.Proofs.YtndhikahjmgamaaGreatDoor.RefD.containsAnyX H _ _ ?_ ?_ ?_ ?_) ?_)
      · decide
      · decide
      · exact asc_of (by decide)
      · exact asc_of (by decide)
      clear H
      rintro _ w3 ⟨⟨b1, ⟨rfl, h2⟩⟩, H⟩
      have hb9 : b1 = false := h2.trans (by decide)
      refine cF ((by assumption)) ?_
      refine Jn.mk (vNe x.a 0) (mt_cons rfl (mt_nil)) ?_
      refine ⟨?_, ?_⟩
      · exact ne_no (by omega)
      exact H
    clear H
    rintro b f_ w_ ⟨hb, H⟩
    try simp only at hb H ⊢
    subst hb
    refine rFieldAt rfl ?_
    refine rLd (H.at 0 rfl) 2 rfl rfl rfl ?_
    refine rStrEq ?_
    refine cF (dec_F (by decide)) ?_
    refine rFieldAt rfl ?_
    refine rLd (H.at 0 rfl) 3 rfl rfl rfl ?_
    refine rLenF hx_to rfl ?_
    refine br_f (vLt_F (by omega)) ?_
    refine rFieldAt rfl ?_
    refine rLd (H.at 0 rfl) 3 rfl rfl rfl ?_
    refine rLenF hx_to rfl ?_
    refine LoopP.rule (α := Nat) (0) (fun x_ => [(79, .int .i64 x_), (7, .bool false)]) (fun x_ w_ => (x_ ≤ x.to.length) ∧ Sat g w_ ((Pt p1 [.int .u8 n, .int .i64 x.a, .int .i64 x.b, x.tv] 40 :: l))) (fun x_ => x.to.length - x_) ?_ ?_ ?_
    · repeat first | exact mt_nil | refine mt_cons rfl ?_ | refine mt_i rfl (by first | omega | (simp only; omega) | (simp; omega) | (simp; done)) ?_
    · try simp only
      refine ⟨?_, ?_⟩
      · omega
      exact H
    clear H
    rintro i f_ w_ ⟨hi, H⟩
    try simp only at hi H ⊢
    refine cF (vLt_F (by omega)) ?_
    refine br_f (vNe_F (by assumption)) ?_
    refine cF rfl ?_
    refine Done.mk ?_
    refine ⟨?_, ?_⟩
    · refine ⟨0, ?_⟩
      refine ⟨?_, ?_⟩
      · refine int_eq ?_
        decide
      decide
    refine H.drop 0 ?_
    clear H
    intro H
    exact H
  · refine Fc.of Tryz.func34 rfl (by kernel_rfl) ?_
    refine rBoxS H ?_
    clear H
    intro p1 w1 H
    refine rFieldAt rfl ?_
    refine rLd (H.at 0 rfl) 0 rfl rfl rfl ?_
    refine CallP.mk (Fc.imp (Go.Proofs.YtndhikahjmgamaaGreatDoor.RefD.beside H _ hM (n) ?_) ?_)
    · omega
    clear H
    rintro _ w2 ⟨s1, ⟨rfl, ⟨h1, H⟩⟩⟩
    obtain rfl := h1.trans hs0.symm
    refine rStrEq ?_
    refine cF (dec_F (by decide)) ?_
    refine rFieldAt rfl ?_
    refine rLd (H.at 0 rfl) 3 rfl rfl rfl ?_
    refine rLenF hx_to rfl ?_
    refine cF (vLt_F (by omega)) ?_
    refine rFieldAt rfl ?_
    refine rLd (H.at 0 rfl) 1 rfl rfl rfl ?_
    refine block_join (α := Bool) (fun x_ => [(5, .bool x_)]) (fun x_ w_ => (x_ = false) ∧ Sat g w_ ((Pt p1 [.int .u8 n, .int .i64 x.a, .int .i64 x.b, x.tv] 40 :: l))) ?_ ?_
    · refine rStrEq ?_
      refine cF (dec_F (by decide)) ?_
      refine rStrEq ?_
      refine cT (dec_T (by decide)) ?_
      refine rFieldAt rfl ?_
      refine rLd (H.at 0 rfl) 1 rfl rfl rfl ?_
      refine br_f (vLt_F (by omega)) ?_
      refine rFieldAt rfl ?_
      refine rLd (H.at 0 rfl) 1 rfl rfl rfl ?_
      refine Jn.mk (vLt 2147483647 x.a) (mt_cons rfl (mt_nil)) ?_
      refine ⟨?_, ?_⟩
      · exact lt_no (by omega)
      exact H
    clear H
    rintro b f_ w_ ⟨hb, H⟩
    try simp only at hb H ⊢
    subst hb
    refine rFieldAt rfl ?_
    refine rLd (H.at 0 rfl) 2 rfl rfl rfl ?_
    refine rStrEq ?_
    refine cF (dec_F (by decide)) ?_
    refine rFieldAt rfl ?_
    refine rLd (H.at 0 rfl) 3 rfl rfl rfl ?_
    refine rLenF hx_to rfl ?_
    refine br_f (vLt_F (by omega)) ?_
    refine rFieldAt rfl ?_
    refine rLd (H.at 0 rfl) 3 rfl rfl rfl ?_
    refine rLenF hx_to rfl ?_
    refine LoopP.rule (α := Nat) (0) (fun x_ => [(79, .int .i64 x_), (7, .bool false)]) (fun x_ w_ => (x_ ≤ x.to.length) ∧ Sat g w_ ((Pt p1 [.int .u8 n, .int .i64 x.a, .int .i64 x.b, x.tv] 40 :: l))) (fun x_ => x.to.length - x_) ?_ ?_ ?_
    · repeat first | exact mt_nil | refine mt_cons rfl ?_ | refine mt_i rfl (by first | omega | (simp only; omega) | (simp; omega) | (simp; done)) ?_
    · try simp only
      refine ⟨?_, ?_⟩
      · omega
      exact H
    clear H
    rintro i f_ w_ ⟨hi, H⟩
    try simp only at hi H ⊢
    refine cF (vLt_F (by omega)) ?_
    refine br_f (vNe_F (by assumption)) ?_
    refine cF rfl ?_
    refine Done.mk ?_
    refine ⟨?_, ?_⟩
    · refine ⟨0, ?_⟩
      refine ⟨?_, ?_⟩
      · refine int_eq ?_
        decide
      decide
    refine H.drop 0 ?_
    clear H
    intro H
    exact H
  · refine Fc.of Tryz.func34 rfl (by kernel_rfl) ?_
    refine rBoxS H ?_
    clear H
    intro p1 w1 H
    refine rFieldAt rfl ?_
    refine rLd (H.at 0 rfl) 0 rfl rfl rfl ?_
    refine CallP.mk (Fc.imp (Go.Proofs.YtndhikahjmgamaaGreatDoor.RefD.beside H _ hM (n) ?_) ?_)
    · omega
    clear H
    rintro _ w2 ⟨s1, ⟨rfl, ⟨h1, H⟩⟩⟩
    obtain rfl := h1.trans hs0.symm
    refine rStrEq ?_
    refine cF (dec_F (by decide)) ?_
    refine rFieldAt rfl ?_
    refine rLd (H.at 0 rfl) 3 rfl rfl rfl ?_
    refine rLenF hx_to rfl ?_
    refine cF (vLt_F (by omega)) ?_
    refine rFieldAt rfl ?_
    refine rLd (H.at 0 rfl) 1 rfl rfl rfl ?_
    refine block_join (α := Bool) (fun x_ => [(5, .bool x_)]) (fun x_ w_ => (x_ = false) ∧ Sat g w_ ((Pt p1 [.int .u8 n, .int .i64 x.a, .int .i64 x.b, x.tv] 40 :: l))) ?_ ?_
    · refine rStrEq ?_
      refine cF (dec_F (by decide)) ?_
      refine rStrEq ?_
      refine cF (dec_F (by decide)) ?_
      refine rStrEq ?_
      refine cT (dec_T (by decide)) ?_
      refine Jn.mk (false) (mt_cons rfl (mt_nil)) ?_
      refine ⟨?_, ?_⟩
      · decide
      exact H
    clear H
    rintro b f_ w_ ⟨hb, H⟩
    try simp only at hb H ⊢
    subst hb
    refine rFieldAt rfl ?_
    refine rLd (H.at 0 rfl) 2 rfl rfl rfl ?_
    refine rStrEq ?_
    refine cF (dec_F (by decide)) ?_
    refine rFieldAt rfl ?_
    refine rLd (H.at 0 rfl) 3 rfl rfl rfl ?_
    refine rLenF hx_to rfl ?_
    refine br_f (vLt_F (by omega)) ?_
    refine rFieldAt rfl ?_
    refine rLd (H.at 0 rfl) 3 rfl rfl rfl ?_
    refine rLenF hx_to rfl ?_
    refine LoopP.rule (α := Nat) (0) (fun x_ => [(79, .int .i64 x_), (7, .bool false)]) (fun x_ w_ => (x_ ≤ x.to.length) ∧ Sat g w_ ((Pt p1 [.int .u8 n, .int .i64 x.a, .int .i64 x.b, x.tv] 40 :: l))) (fun x_ => x.to.length - x_) ?_ ?_ ?_
    · repeat first | exact mt_nil | refine mt_cons rfl ?_ | refine mt_i rfl (by first | omega | (simp only; omega) | (simp; omega) | (simp; done)) ?_
    · try simp only
      refine ⟨?_, ?_⟩
      · omega
      exact H
    clear H
    rintro i f_ w_ ⟨hi, H⟩
    try simp only at hi H ⊢
    refine cF (vLt_F (by omega)) ?_
    refine br_f (vNe_F (by assumption)) ?_
    refine cF rfl ?_
    refine Done.mk ?_
    refine ⟨?_, ?_⟩
    · refine ⟨0, ?_⟩
      refine ⟨?_, ?_⟩
      · refine int_eq ?_
        decide
      decide
    refine H.drop 0 ?_
    clear H
    intro H
    exact H
  · refine Fc.of Tryz.func34 rfl (by kernel_rfl) ?_
    refine rBoxS H ?_
    clear H
    intro p1 w1 H
    refine rFieldAt rfl ?_
    refine rLd (H.at 0 rfl) 0 rfl rfl rfl ?_
    refine CallP.mk (Fc.imp (Go.Proofs.YtndhikahjmgamaaGreatDoor.RefD.beside H _ hM (n) ?_) ?_)
    · omega
    clear H
    rintro _ w2 ⟨s1, ⟨rfl, ⟨h1, H⟩⟩⟩
    obtain rfl := h1.trans hs0.symm
    refine rStrEq ?_
    refine cF (dec_F (by decide)) ?_
    refine rFieldAt rfl ?_
    refine rLd (H.at 0 rfl) 3 rfl rfl rfl ?_
    refine rLenF hx_to rfl ?_
    refine cF (vLt_F (by omega)) ?_
    refine rFieldAt rfl ?_
    refine rLd (H.at 0 rfl) 1 rfl rfl rfl ?_
    refine block_join (α := Bool) (fun x_ => [(5, .bool x_)]) (fun x_ w_ => (x_ = false) ∧ Sat g w_ ((Pt p1 [.int .u8 n, .int .i64 x.a, .int .i64 x.b, x.tv] 40 :: l))) ?_ ?_
    · refine rStrEq ?_
      refine cF (dec_F (by decide)) ?_
      refine rStrEq ?_
      refine cF (dec_F (by decide)) ?_
      refine rStrEq ?_
      refine cF (dec_F (by decide)) ?_
      refine CallP.mk (Fc.imp (Go.Proofs.YtndhikahjmgamaaGreatDoor.RefD.containsAnyX H _ _ ?_ ?_ ?_ ?_) ?_)
      · decide
      · decide
      · exact asc_of (by decide)
      · exact asc_of (by decide)
      clear H
      rintro _ w3 ⟨⟨b1, ⟨rfl, h2⟩⟩, H⟩
      have hb9 : b1 = false := h2.trans (by decide)
      refine cF ((by assumption)) ?_
      refine Jn.mk (vNe x.a 0) (mt_cons rfl (mt_nil)) ?_
      refine ⟨?_, ?_⟩
      · exact ne_no (by omega)
      exact H
    clear H
    rintro b f_ w_ ⟨hb, H⟩
    try simp only at hb H ⊢
    subst hb
    refine rFieldAt rfl ?_
    refine rLd (H.at 0 rfl) 2 rfl rfl rfl ?_
    refine rStrEq ?_
    refine cF (dec_F (by decide)) ?_
    refine rFieldAt rfl ?_
    refine rLd (H.at 0 rfl) 3 rfl rfl rfl ?_
    refine rLenF hx_to rfl ?_
    refine br_f (vLt_F (by omega)) ?_
    refine rFieldAt rfl ?_
    refine rLd (H.at 0 rfl) 3 rfl rfl rfl ?_
    refine rLenF hx_to rfl ?_
    refine LoopP.rule (α := Nat) (0) (fun x_ => [(79, .int .i64 x_), (7, .bool false)]) (fun x_ w_ => (x_ ≤ x.to.length) ∧ Sat g w_ ((Pt p1 [.int .u8 n, .int .i64 x.a, .int .i64 x.b, x.tv] 40 :: l))) (fun x_ => x.to.length - x_) ?_ ?_ ?_
    · repeat first | exact mt_nil | refine mt_cons rfl ?_ | refine mt_i rfl (by first | omega | (simp only; omega) | (simp; omega) | (simp; done)) ?_
    · try simp only
      refine ⟨?_, ?_⟩
      · omega
      exact H
    clear H
    rintro i f_ w_ ⟨hi, H⟩
    try simp only at hi H ⊢
    refine cF (vLt_F (by omega)) ?_
    refine br_f (vNe_F (by assumption)) ?_
    refine cF rfl ?_
    refine Done.mk ?_
    refine ⟨?_, ?_⟩
    · refine ⟨0, ?_⟩
      refine ⟨?_, ?_⟩
      · refine int_eq ?_
        decide
      decide
    refine H.drop 0 ?_
    clear H
    intro H
    exact H
end
end Go.Proofs.YtndhikahjmgamaaGreatDoor.RefD
/- The document's NestMatch: where blocks end. -/
set_option maxRecDepth 100000
set_option maxHeartbeats 4000000
set_option linter.unusedVariables false
set_option linter.unusedSimpArgs false
namespace Go.Proofs.YtndhikahjmgamaaGreatDoor.Valid
open Go Go.Proofs.YtndhikahjmgamaaGreatDoor.Eng Go.RowKit
open Ins Nest Leb Bin RefD
section
variable {bd : List InsD} {i j k : Nat} {x : InsD} {E E' E1 E2 E3 : List Int} {op last : List Int}
/-- What has been marked from one place to another. -/
structure SqR (bd : List InsD) (i j : Nat) (E E' : List Int) : Prop where
  len : E'.length = E.length
  ij : i ≤ j
  same : ∀ b, (b < i ∨ j ≤ b) → gd E' b = gd E b
  cl : ∀ b, i ≤ b → b < j → opn bd b → ∃ e : Nat, gd E' b = e ∧ e < j ∧ oo bd e = 11 ∧ tp (stB bd e) = b
theorem SqR.zero : SqR bd i i E E := ⟨rfl, Nat.le_refl _, fun _ _ => rfl, fun b h1 h2 => by omega⟩
theorem SqR.flat (h : SqR bd i j E E') (hn : ¬ opn bd j) : SqR bd i (j + 1) E E' := ⟨h.len, by have := h.ij; omega, fun b hb => h.same b (by omega), fun b h1 h2 ho => by
  have : b ≠ j := fun c => hn (c ▸ ho)
  obtain ⟨e, a1, a2, a3⟩ := h.cl b h1 (by omega) ho
  exact ⟨e, a1, by omega, a3⟩⟩
theorem SqR.one (h : SqR bd i k E E1) (h2 : SqR bd (k + 1) j E1 E2) (hj : j < E.length) (h11 : oo bd j = 11) (ht : tp (stB bd j) = k) (hk : opn bd k) : SqR bd i (j + 1) E ((E2.set k j).set j k) := by
  have h3 := h.ij
  have h4 := h2.ij
  have hl : E2.length = E.length := h2.len.trans h.len
  refine ⟨by simp [hl], by omega, fun b hb => ?_, fun b h1 h5 ho => ?_⟩
  · rw [gd_ne (by omega), gd_ne (by omega), h2.same b (by omega), h.same b (by omega)]
  · by_cases c : b = j
    · subst c; unfold opn at ho; omega
    rw [gd_ne c]
    by_cases c2 : b = k
    · subst c2
      rw [gd_self (by omega)]
      exact ⟨j, rfl, by omega, h11, ht⟩
    rw [gd_ne c2]
    rcases Nat.lt_or_ge b k with h6 | h6
    · rw [h2.same b (by omega)]
      obtain ⟨e, a1, a2, a3⟩ := h.cl b h1 h6 ho
      exact ⟨e, a1, by omega, a3⟩
    · obtain ⟨e, a1, a2, a3⟩ := h2.cl b (by omega) (by omega) ho
      exact ⟨e, a1, by omega, a3⟩
theorem SqR.two {j2 : Nat} (h : SqR bd i k E E1) (h2 : SqR bd (k + 1) j E1 E2) (h3 : SqR bd (j + 1) j2 E2 E3) (hj : j2 < E.length) (h5 : oo bd j = 5) (h11 : oo bd j2 = 11) (ht : tp (stB bd j2) = k) (hk : opn bd k) : SqR bd i (j2 + 1) E (((E3.set k j2).set j2 k).set j j2) := by
  have q1 := h.ij
  have q2 := h2.ij
  have q3 := h3.ij
  have hl : E3.length = E.length := h3.len.trans (h2.len.trans h.len)
  refine ⟨by simp [hl], by omega, fun b hb => ?_, fun b h1 h6 ho => ?_⟩
  · rw [gd_ne (by omega), gd_ne (by omega), gd_ne (by omega), h3.same b (by omega), h2.same b (by omega), h.same b (by omega)]
  · have c0 : b ≠ j := fun c => by subst c; unfold opn at ho; omega
    rw [gd_ne c0]
    have c1 : b ≠ j2 := fun c => by subst c; unfold opn at ho; omega
    rw [gd_ne c1]
    by_cases c2 : b = k
    · subst c2
      rw [gd_self (by omega)]
      exact ⟨j2, rfl, by omega, h11, ht⟩
    rw [gd_ne c2]
    rcases Nat.lt_or_ge b k with h7 | h7
    · rw [h3.same b (by omega), h2.same b (by omega)]
      obtain ⟨e, a1, a2, a3⟩ := h.cl b h1 h7 ho
      exact ⟨e, a1, by omega, a3⟩
    · rcases Nat.lt_or_ge b j with h8 | h8
      · rw [h3.same b (by omega)]
        obtain ⟨e, a1, a2, a3⟩ := h2.cl b (by omega) (by omega) ho
        exact ⟨e, a1, by omega, a3⟩
      · obtain ⟨e, a1, a2, a3⟩ := h3.cl b (by omega) (by omega) ho
        exact ⟨e, a1, by omega, a3⟩
theorem st_false (hc : chkB bd = 0) (hk : k < bd.length) : stB bd k = ⟨(stB bd k).op, (stB bd k).last, false⟩ := by
  have ho := over_k hc hk
  cases hq : stB bd k with
  | mk a b c => rw [hq] at ho; rw [show c = false from ho]
theorem st_nx (hc : chkB bd = 0) (hx : bd[k]? = some x) : nextS ⟨(stB bd k).op, (stB bd k).last, false⟩ x.op k = (stB bd (k + 1), (nextS (stB bd k) x.op k).2.1, 0) := by
  have hk := (List.getElem?_eq_some_iff.1 hx).1
  obtain ⟨_, hS, _⟩ := chkB_ok hc
  have hn := (hS k x hk hx).2
  rw [← st_false hc hk, stB_succ hx, ← hn]
theorem st_flat (hc : chkB bd = 0) (hx : bd[k]? = some x) (ho : ¬ (x.op = 2 ∨ x.op = 3 ∨ x.op = 4)) (h5 : x.op ≠ 5) (h11 : x.op ≠ 11) : stB bd (k + 1) = stB bd k := by
  have hk := (List.getElem?_eq_some_iff.1 hx).1
  rcases nx_ways (st_nx hc hx) with ⟨h, _⟩ | ⟨h, _⟩ | ⟨h, _⟩ | ⟨_, e⟩
  · exact absurd h ho
  · exact absurd h h5
  · exact absurd h h11
  · rw [e]; exact (st_false hc hk).symm
theorem st_open (hc : chkB bd = 0) (hx : bd[k]? = some x) (ho : x.op = 2 ∨ x.op = 3 ∨ x.op = 4) : stB bd (k + 1) = ⟨(stB bd k).op ++ [(k : Int)], (stB bd k).last ++ [x.op], false⟩ ∧ (stB bd k).op.length - 1 < 12 := by
  have hk := (List.getElem?_eq_some_iff.1 hx).1
  have hN := stB_ok bd (k + 1)
  rcases nx_ways (st_nx hc hx) with ⟨_, e⟩ | ⟨h, _⟩ | ⟨h, _⟩ | ⟨h, _⟩
  · refine ⟨e, ?_⟩
    rw [e] at hN
    have := hN.le
    have hp := (stB_ok bd k).pos (over_k hc hk)
    simp at this; omega
  · omega
  · omega
  · omega
theorem st_end (hc : chkB bd = 0) (hx : bd[j]? = some x) (h11 : x.op = 11) {z : Int} (h0 : 0 < op.length) (hl : last.length = op.length) (hs : stB bd j = ⟨op ++ [(k : Int)], last ++ [z], false⟩) : stB bd (j + 1) = ⟨op, last, false⟩ ∧ tp (stB bd j) = k := by
  have hn := st_nx hc hx
  rw [hs] at hn
  refine ⟨?_, by rw [hs]; unfold tp; simp⟩
  rcases nx_ways hn with ⟨h, _⟩ | ⟨h, _⟩ | ⟨_, e, _⟩ | ⟨h, _⟩
  · omega
  · omega
  · rw [e]
    have e1 : (op ++ [(k : Int)]).length - 1 = op.length := by simp
    rw [e1]
    have e2 : (last ++ [z]).take op.length = last := by rw [← hl]; simp
    rw [e2]
    have e3 : (op ++ [(k : Int)]).take op.length = op := by simp
    rw [e3]
    have : decide (op.length = 0) = false := by simp; intro c; subst c; simp at h0
    rw [this]
  · omega
theorem st_else (hc : chkB bd = 0) (hx : bd[j]? = some x) (h5 : x.op = 5) {z m : Int} (hl : last.length = op.length) (hs : stB bd j = ⟨op ++ [m], last ++ [z], false⟩) : z = 4 ∧ stB bd (j + 1) = ⟨op ++ [m], last ++ [5], false⟩ := by
  have hn := st_nx hc hx
  rw [hs] at hn
  rcases nx_ways hn with ⟨h, _⟩ | ⟨_, e, e2, _⟩ | ⟨h, _⟩ | ⟨h, _⟩
  · omega
  · have e1 : (op ++ [m]).length - 1 = op.length := by simp
    rw [e1] at e e2
    refine ⟨?_, ?_⟩
    · rw [← hl] at e
      simpa [List.getD_eq_getElem?_getD] using e
    · rw [e2]
      have : (last ++ [z]).set op.length 5 = last ++ [5] := by rw [← hl]; simp
      rw [this]
  · omega
  · omega
theorem st_half (hc : chkB bd = 0) (hx : bd[j]? = some x) (h5 : x.op = 5) : (stB bd (j + 1)).op.length = (stB bd j).op.length := by
  rcases nx_ways (st_nx hc hx) with ⟨h, _⟩ | ⟨_, _, e, _⟩ | ⟨h, _⟩ | ⟨h, _⟩
  · omega
  · rw [e]
  · omega
  · omega
theorem st_more (hc : chkB bd = 0) (hx : bd[j]? = some x) (h5 : x.op = 5) : j + 1 < bd.length := by
  have hj := (List.getElem?_eq_some_iff.1 hx).1
  rcases Nat.lt_or_ge (j + 1) bd.length with h | h
  · exact h
  · exfalso
    have e : j + 1 = bd.length := by omega
    have h2 := (chkB_ok hc).2.2
    rw [← e] at h2
    rcases nx_ways (st_nx hc hx) with ⟨h, _⟩ | ⟨_, _, e, _⟩ | ⟨h, _⟩ | ⟨h, _⟩
    · omega
    · rw [e] at h2; cases h2
    · omega
    · omega
theorem sq_end {i0 : Nat} {z : Int} (hc : chkB bd = 0) (hi : i0 < bd.length) (hx : bd[j]? = some x) (h11 : x.op = 11) (hs : stB bd j = ⟨(stB bd i0).op ++ [(k : Int)], (stB bd i0).last ++ [z], false⟩) : stB bd (j + 1) = stB bd i0 ∧ tp (stB bd j) = k := by
  obtain ⟨h1, h2⟩ := st_end hc hx h11 ((stB_ok bd i0).pos (over_k hc hi)) (stB_ok bd i0).len hs
  exact ⟨h1.trans (st_false hc hi).symm, h2⟩
/-- An else belongs to an if. -/
theorem sq_else {i0 : Nat} {z m : Int} (hc : chkB bd = 0) (hx : bd[j]? = some x) (h5 : x.op = 5) (hs : stB bd j = ⟨(stB bd i0).op ++ [m], (stB bd i0).last ++ [z], false⟩) : z = 4 ∧ stB bd (j + 1) = ⟨(stB bd i0).op ++ [m], (stB bd i0).last ++ [5], false⟩ := st_else hc hx h5 (stB_ok bd i0).len hs
/-- Where the body is still open, its end is not come to. -/
theorem st_not_end (hc : chkB bd = 0) (hi : i < bd.length) (hs : stB bd k = stB bd i) (hk : k ≤ bd.length) : k < bd.length := by
  rcases Nat.lt_or_ge k bd.length with h | h
  · exact h
  · have : k = bd.length := by omega
    subst this
    obtain ⟨_, _, hov⟩ := chkB_ok hc
    rw [hs, over_k hc hi] at hov; cases hov
theorem oo_not {b : Nat} (hx : bd[b]? = some x) (ho : ¬ (x.op = 2 ∨ x.op = 3 ∨ x.op = 4)) : ¬ opn bd b := by unfold opn; rw [oo_of hx]; exact ho
end
def SeqAt (v : Value) (xs : List InsV) (p : Nat) (m : Int) (N : Nat) : Prop := ∀ (g : Glob) (w : World) (l : List As) (ve vl : Value) (E L : List Int) (i : Nat) (d : Int) (H : Sat g w (Pt p [v, ve, vl] 75 :: Sl 3 1 enI ve E :: Sl 3 1 enI vl L :: l)) (hx : FSl g enV (okV g) 4 v xs) (hM : FAt g 4 0 [.int .i64 m]) (hE : E.length = xs.length) (hL : L.length = xs.length) (hi : i < xs.length) (hd : d = (stB (xs.map InsV.d) i).op.length - 1) (hn : xs.length ≤ i + N), Fc Tryz.prog 33 #[.pointer (some ⟨p, 0, none⟩), .int .i64 i, .int .i64 d] w (fun r w' => ∃ (j : Nat) (y : InsV) (E' L' : List Int), r = .tuple #[.int .i64 j, .int .i64 0] ∧ SqR (xs.map InsV.d) i j E E' ∧ xs[j]? = some y ∧ stB (xs.map InsV.d) j = stB (xs.map InsV.d) i ∧ (y.op = 11 ∨ y.op = 5) ∧ (y.op = 5 → (stB (xs.map InsV.d) (j + 1)).op.length = (stB (xs.map InsV.d) i).op.length ∧ j + 1 < xs.length) ∧ j < xs.length ∧ i ≤ j ∧ E'.length = xs.length ∧ L'.length = xs.length ∧ Sat g w' (Pt p [v, ve, vl] 75 :: Sl 3 1 enI ve E' :: Sl 3 1 enI vl L' :: l))
theorem seq_ (v : Value) (xs : List InsV) (p : Nat) (m : Int) (hc : chkB (xs.map InsV.d) = 0) : ∀ N, SeqAt v xs p m N := by
  have hml : (xs.map InsV.d).length = xs.length := List.length_map ..
  have hF := (chkB_ok hc).2.1
  have hbl := (chkB_ok hc).1
  rw [hml] at hbl
  intro N
  induction N with
  | zero =>
    intro g w l ve vl E L i d H hx hM hE hL hi hd hn
    omega
  | succ N ih =>
    intro g w l ve vl E L i0 d H hx hM hE hL hi hd hn
    unfold SeqAt at ih
    have hd2 := (stB_ok (xs.map InsV.d) i0).le
    have hd1 := (stB_ok (xs.map InsV.d) i0).pos (over_k hc (by omega))
    have hll := (stB_ok (xs.map InsV.d) i0).len
    refine Fc.of Tryz.func33 rfl (by kernel_rfl) ?_
    
    refine LoopP.rule (α := Nat × List Int × List Int) (i0, E, L) (fun x_ => [(1, .int .i64 x_.1)]) (fun x_ w_ => (SqR (xs.map InsV.d) i0 x_.1 E x_.2.1) ∧ (stB (xs.map InsV.d) x_.1 = stB (xs.map InsV.d) i0) ∧ (x_.2.2.length = xs.length) ∧ (x_.1 ≤ xs.length) ∧ Sat g w_ ((Pt p [v, ve, vl] 75 :: Sl 3 1 enI ve x_.2.1 :: Sl 3 1 enI vl x_.2.2 :: l))) (fun x_ => xs.length - x_.1) ?_ ?_ ?_
    · repeat first | exact mt_nil | refine mt_cons rfl ?_ | refine mt_i rfl (by first | omega | (simp only; omega) | (simp; omega) | (simp; done)) ?_
    · try simp only
      refine ⟨?_, ?_⟩
      · exact SqR.zero
      refine ⟨?_, ?_⟩
      · (constructor <;> omega)
      refine ⟨?_, ?_⟩
      · assumption
      refine ⟨?_, ?_⟩
      · omega
      exact H
    clear H
    rintro ⟨i, E1, L1⟩ f_ w_ ⟨h1, hs, hL1, hk, H⟩
    try simp only at h1 hs hL1 hk H ⊢
    have hlt : i < xs.length := by
      have := st_not_end hc (by omega) hs (by omega)
      omega
    have hE1 : E1.length = xs.length := h1.len.trans hE
    obtain ⟨x, hxi⟩ : ∃ x, xs[i]? = some x := ⟨_, List.getElem?_eq_getElem hlt⟩
    have hxd := map_get hxi
    have hck : chk x.d = 0 := (hF i x.d (by omega) hxd).1
    have hxo := FSl.all hx x (List.mem_of_getElem? hxi)
    have hij := h1.ij
    by_cases h5 : x.op = 5 ∨ x.op = 11
    · have h55 : x.op = 5 → (stB (xs.map InsV.d) (i + 1)).op.length = (stB (xs.map InsV.d) i0).op.length ∧ i + 1 < xs.length := fun h => by
        have h8 := st_more hc hxd h
        rw [hml] at h8
        exact ⟨by rw [st_half hc hxd h, ← hs], h8⟩
      refine rFieldAt rfl ?_
      refine rLd (H.at 0 rfl) 0 rfl rfl rfl ?_
      refine rLenF hx rfl ?_
      refine cT (vLt_T (by omega)) ?_
      refine bk ?_
      refine rFieldAt rfl ?_
      refine rLd (H.at 0 rfl) 0 rfl rfl rfl ?_
      obtain ⟨b1, o1, E2, F1, hok1⟩ := FSl.elt hx hxi
      have hok1_op := hok1.op
      have hok1_a := hok1.a
      have hok1_b := hok1.b
      have hok1_to := hok1.to
      refine rIxE E2 rfl rfl rfl ?_
      refine rLdA (H.fat F1) 0 rfl rfl rfl ?_
      refine rAllocS H rfl ?_
      clear H
      intro p1 w1 H
      clear w_
      refine rStAS H 0 rfl rfl rfl (by simp only [List.all_cons, List.all_nil, H.one 2 rfl, H.one 3 rfl, FSl.one hok1_to, FSl.one hx]; rfl) ?_
      clear H
      intro w2 H
      clear w1
      refine rLdA (H.at 0 rfl) 0 rfl rfl rfl ?_
      refine CallP.mk (Fc.imp (Go.Proofs.YtndhikahjmgamaaGreatDoor.RefD.insCheck0 H _ hM _ ?_ ?_) ?_)
      · assumption
      · assumption
      clear H
      rintro _ w1 ⟨⟨e1, ⟨rfl, h2⟩⟩, H⟩
      refine cF (vNe_F (by assumption)) ?_
      refine rFieldAt rfl ?_
      refine rLd (H.at 0 rfl) 0 rfl rfl rfl ?_
      refine br (fun c1 => ?_) (fun c1 => ?_)
      · replace c1 := vEq_t (c1)
        refine cT rfl ?_
        refine Done.mk ?_
        exact ⟨i, x, E1, L1, rfl, h1, hxi, hs, by omega, h55, by omega, by omega, by omega, by omega, H.del 0⟩
      replace c1 := vEq_f (c1)
      refine rFieldAt rfl ?_
      refine rLd (H.at 0 rfl) 0 rfl rfl rfl ?_
      refine cT (vEq_T (by omega)) ?_
      refine Done.mk ?_
      exact ⟨i, x, E1, L1, rfl, h1, hxi, hs, by omega, h55, by omega, by omega, by omega, by omega, H.del 0⟩
    by_cases ho : x.op = 2 ∨ x.op = 3 ∨ x.op = 4
    · obtain ⟨o1, o2⟩ := st_open hc hxd ho
      rw [hs] at o1 o2
      have o3 : (stB (xs.map InsV.d) (i + 1)).op.length = (stB (xs.map InsV.d) i0).op.length + 1 := by rw [o1]; simp
      have hi1 : i + 1 < xs.length := by
        rcases Nat.lt_or_ge (i + 1) xs.length with h | h
        · exact h
        · exfalso
          have e : i + 1 = (xs.map InsV.d).length := by omega
          have := (chkB_ok hc).2.2
          rw [← e, o1] at this; cases this
      refine rFieldAt rfl ?_
      refine rLd (H.at 0 rfl) 0 rfl rfl rfl ?_
      refine rLenF hx rfl ?_
      refine cT (vLt_T (by omega)) ?_
      refine bk ?_
      refine rFieldAt rfl ?_
      refine rLd (H.at 0 rfl) 0 rfl rfl rfl ?_
      obtain ⟨b1, o4, E2, F1, hok1⟩ := FSl.elt hx hxi
      have hok1_op := hok1.op
      have hok1_a := hok1.a
      have hok1_b := hok1.b
      have hok1_to := hok1.to
      refine rIxE E2 rfl rfl rfl ?_
      refine rLdA (H.fat F1) 0 rfl rfl rfl ?_
      refine rAllocS H rfl ?_
      clear H
      intro p1 w1 H
      clear w_
      refine rStAS H 0 rfl rfl rfl (by simp only [List.all_cons, List.all_nil, H.one 2 rfl, H.one 3 rfl, FSl.one hok1_to, FSl.one hx]; rfl) ?_
      clear H
      intro w2 H
      clear w1
      refine rLdA (H.at 0 rfl) 0 rfl rfl rfl ?_
      refine CallP.mk (Fc.imp (Go.Proofs.YtndhikahjmgamaaGreatDoor.RefD.insCheck0 H _ hM _ ?_ ?_) ?_)
      · assumption
      · assumption
      clear H
      rintro _ w1 ⟨⟨e1, ⟨rfl, h2⟩⟩, H⟩
      refine cF (vNe_F (by assumption)) ?_
      refine rFieldAt rfl ?_
      refine rLd (H.at 0 rfl) 0 rfl rfl rfl ?_
      refine br_f (vEq_F (by omega)) ?_
      refine rFieldAt rfl ?_
      refine rLd (H.at 0 rfl) 0 rfl rfl rfl ?_
      refine cF (vEq_F (by omega)) ?_
      refine rFieldAt rfl ?_
      refine rLd (H.at 0 rfl) 0 rfl rfl rfl ?_
      refine br_f (vLt_F (by omega)) ?_
      refine rFieldAt rfl ?_
      refine rLd (H.at 0 rfl) 0 rfl rfl rfl ?_
      refine cF (vLt_F (by omega)) ?_
      refine cF (vEq_F (by omega)) ?_
      refine eqI64 (by omega) ?_
      refine eqI64 (by omega) ?_
      refine H.fronts [3, 3, 3] ?_
      clear H
      intro H
      refine CallP.mk (Fc.imp (ih _ _ _ _ _ _ _ (i + 1) _ H hx ?_ ?_ ?_ ?_ ?_ ?_) ?_)
      · assumption
      · assumption
      · assumption
      · assumption
      · omega
      · omega
      clear H
      rintro _ w3 ⟨j1, ⟨y1, ⟨E'1, ⟨L'1, ⟨rfl, ⟨h3, ⟨h4, ⟨h6, ⟨(h7 | h8), ⟨h9, ⟨h10, ⟨h11, ⟨h12, ⟨h13, H⟩⟩⟩⟩⟩⟩⟩⟩⟩⟩⟩⟩⟩⟩
      · refine br_t (vEq_T (by omega)) ?_
        refine rFieldAt rfl ?_
        refine rLd (H.at 0 rfl) 0 rfl rfl rfl ?_
        obtain ⟨b2, o5, E3, F2, hok2⟩ := FSl.elt hx h4
        have hok2_op := hok2.op
        have hok2_a := hok2.a
        have hok2_b := hok2.b
        have hok2_to := hok2.to
        refine rIxE E3 rfl rfl rfl ?_
        refine rFieldAt rfl ?_
        refine rLd (H.fat F2) 0 rfl rfl rfl ?_
        refine br_f (vEq_F (by omega)) ?_
        refine cF rfl ?_
        refine br_t (vEq_T (by omega)) ?_
        refine rFieldAt rfl ?_
        refine rLd (H.at 0 rfl) 0 rfl rfl rfl ?_
        refine rIxE E3 rfl rfl rfl ?_
        refine rFieldAt rfl ?_
        refine rLd (H.fat F2) 0 rfl rfl rfl ?_
        refine cF (vEq_F (by omega)) ?_
        refine cF (vNe_F (by omega)) ?_
        refine drawzS H [] [(0, .pure), (1, .pure), (2, .pure), (3, .held), (4, .pure), (5, .pure), (6, .pure), (7, .pure), (8, .held), (9, .pure), (10, .pure), (11, .pure), (12, .pure), (13, .free), (14, .pure), (15, .free)] mixed (by kernel_rfl) (by kernel_rfl) ?_
        clear H
        intro w4 H
        clear w3
        refine tk (fun wx HS => rFieldAt rfl ⟨rfl, rfl⟩) ?_
        refine tk (fun wx HS => rLd (HS.at 0 rfl) 1 rfl rfl rfl ⟨rfl, rfl⟩) ?_
        refine tk (fun wx HS => rFieldAt rfl ⟨rfl, rfl⟩) ?_
        refine tk (fun wx HS => rLd (HS.at 0 rfl) 1 rfl rfl rfl ⟨rfl, rfl⟩) ?_
        obtain ⟨x1, hx1⟩ : ∃ x, (E'1)[(i)]? = some x := ⟨_, List.getElem?_eq_getElem (by omega)⟩
        obtain ⟨b3, o6, E4⟩ := H.elt 1 rfl (i) (by omega)
        refine tk (fun wx HS => rIxE E4 rfl rfl rfl ⟨rfl, rfl⟩) ?_
        refine rStE H 1 rfl E4 hx1 0 ((↑j1 : Int)) rfl rfl rfl rfl ?_
        clear H
        intro w3 H
        clear w4
        obtain ⟨x2, hx2⟩ : ∃ x, (E'1.set i (↑j1 : Int))[(j1)]? = some x := ⟨_, List.getElem?_eq_getElem (by (simp only [List.length_append, List.length_set, List.length_cons, List.length_nil]; omega))⟩
        obtain ⟨b4, o7, E5⟩ := H.elt 1 rfl (j1) (by (simp only [List.length_append, List.length_set, List.length_cons, List.length_nil]; omega))
        refine tk (fun wx HS => rIxE E5 rfl rfl rfl ⟨rfl, rfl⟩) ?_
        refine rStE H 1 rfl E5 hx2 0 ((↑i : Int)) rfl rfl rfl rfl ?_
        clear H
        intro w4 H
        clear w3
        refine cF (vLe_F (by omega)) ?_
        refine eqI64 (by omega) ?_
        refine Nxt.mk ((j1 + 1, (E'1.set i (↑j1 : Int)).set j1 (↑i : Int), L'1)) (mt_i rfl (by first | omega | (simp only; omega) | (simp; omega)) (mt_nil)) ?_ ?_
        · refine ⟨?_, ?_⟩
          · exact SqR.one h1 h3 (by omega) (by rw [oo_of (map_get h4)]; exact h7) (sq_end hc (by omega) (map_get h4) h7 (h6.trans o1)).2 (by unfold opn; rw [oo_of hxd]; exact ho)
          refine ⟨?_, ?_⟩
          · exact (sq_end hc (by omega) (map_get h4) h7 (h6.trans o1)).1
          refine ⟨?_, ?_⟩
          · assumption
          refine ⟨?_, ?_⟩
          · assumption
          refine H.drop 3 ?_
          clear H
          intro H
          exact H
        omega
      refine br_t (vEq_T (by omega)) ?_
      refine rFieldAt rfl ?_
      refine rLd (H.at 0 rfl) 0 rfl rfl rfl ?_
      obtain ⟨b2, o5, E3, F2, hok2⟩ := FSl.elt hx h4
      have hok2_op := hok2.op
      have hok2_a := hok2.a
      have hok2_b := hok2.b
      have hok2_to := hok2.to
      refine rIxE E3 rfl rfl rfl ?_
      refine rFieldAt rfl ?_
      refine rLd (H.fat F2) 0 rfl rfl rfl ?_
      refine br_t (vEq_T (by assumption)) ?_
      refine rFieldAt rfl ?_
      refine rLd (H.at 3 rfl) 0 rfl rfl rfl ?_
      refine cI (fun c1 => ?_) (fun c1 => ?_)
      · replace c1 := vEq_t (c1)
        refine eqI64 (by omega) ?_
        refine eqI64 (by omega) ?_
        refine CallP.mk (Fc.imp (ih _ _ _ _ _ _ _ (j1 + 1) _ H hx ?_ ?_ ?_ ?_ ?_ ?_) ?_)
        · assumption
        · assumption
        · assumption
        · omega
        · omega
        · omega
        clear H
        rintro _ w4 ⟨j2, ⟨y2, ⟨E'2, ⟨L'2, ⟨rfl, ⟨h7, ⟨h14, ⟨h15, ⟨(h16 | h17), ⟨h18, ⟨h19, ⟨h20, ⟨h21, ⟨h22, H⟩⟩⟩⟩⟩⟩⟩⟩⟩⟩⟩⟩⟩⟩
        · refine br_t (vEq_T (by omega)) ?_
          refine rFieldAt rfl ?_
          refine rLd (H.at 0 rfl) 0 rfl rfl rfl ?_
          obtain ⟨b3, o6, E4, F3, hok3⟩ := FSl.elt hx h14
          have hok3_op := hok3.op
          have hok3_a := hok3.a
          have hok3_b := hok3.b
          have hok3_to := hok3.to
          refine rIxE E4 rfl rfl rfl ?_
          refine rFieldAt rfl ?_
          refine rLd (H.fat F3) 0 rfl rfl rfl ?_
          refine cF (vEq_F (by omega)) ?_
          refine cF (vNe_F (by omega)) ?_
          refine drawzS H [] [(0, .pure), (1, .pure), (2, .pure), (3, .held), (4, .pure), (5, .pure), (6, .pure), (7, .pure), (8, .held), (9, .pure), (10, .pure), (11, .pure), (12, .pure), (13, .free), (14, .pure), (15, .free)] mixed (by kernel_rfl) (by kernel_rfl) ?_
          clear H
          intro w5 H
          clear w4
          refine tk (fun wx HS => rFieldAt rfl ⟨rfl, rfl⟩) ?_
          refine tk (fun wx HS => rLd (HS.at 0 rfl) 1 rfl rfl rfl ⟨rfl, rfl⟩) ?_
          refine tk (fun wx HS => rFieldAt rfl ⟨rfl, rfl⟩) ?_
          refine tk (fun wx HS => rLd (HS.at 0 rfl) 1 rfl rfl rfl ⟨rfl, rfl⟩) ?_
          obtain ⟨x1, hx1⟩ : ∃ x, (E'2)[(i)]? = some x := ⟨_, List.getElem?_eq_getElem (by omega)⟩
          obtain ⟨b4, o7, E5⟩ := H.elt 1 rfl (i) (by omega)
          refine tk (fun wx HS => rIxE E5 rfl rfl rfl ⟨rfl, rfl⟩) ?_
          refine rStE H 1 rfl E5 hx1 0 ((↑j2 : Int)) rfl rfl rfl rfl ?_
          clear H
          intro w4 H
          clear w5
          obtain ⟨x2, hx2⟩ : ∃ x, (E'2.set i (↑j2 : Int))[(j2)]? = some x := ⟨_, List.getElem?_eq_getElem (by (simp only [List.length_append, List.length_set, List.length_cons, List.length_nil]; omega))⟩
          obtain ⟨b5, o8, E6⟩ := H.elt 1 rfl (j2) (by (simp only [List.length_append, List.length_set, List.length_cons, List.length_nil]; omega))
          refine tk (fun wx HS => rIxE E6 rfl rfl rfl ⟨rfl, rfl⟩) ?_
          refine rStE H 1 rfl E6 hx2 0 ((↑i : Int)) rfl rfl rfl rfl ?_
          clear H
          intro w5 H
          clear w4
          refine cT (vLe_T (by omega)) ?_
          refine drawzS H [] [(0, .pure), (1, .pure), (2, .pure), (3, .held), (4, .pure), (5, .pure), (6, .pure), (7, .pure), (8, .held), (9, .pure), (10, .pure), (11, .pure), (12, .pure), (13, .held), (14, .pure), (15, .pure), (16, .pure), (17, .pure), (18, .pure), (19, .free), (20, .pure), (21, .free), (22, .pure), (23, .free)] mixed (by kernel_rfl) (by kernel_rfl) ?_
          clear H
          intro w4 H
          clear w5
          refine tk (fun wx HS => rFieldAt rfl ⟨rfl, rfl⟩) ?_
          refine tk (fun wx HS => rLd (HS.at 0 rfl) 2 rfl rfl rfl ⟨rfl, rfl⟩) ?_
          refine tk (fun wx HS => rFieldAt rfl ⟨rfl, rfl⟩) ?_
          refine tk (fun wx HS => rLd (HS.at 0 rfl) 2 rfl rfl rfl ⟨rfl, rfl⟩) ?_
          refine tk (fun wx HS => rFieldAt rfl ⟨rfl, rfl⟩) ?_
          refine tk (fun wx HS => rLd (HS.at 0 rfl) 1 rfl rfl rfl ⟨rfl, rfl⟩) ?_
          obtain ⟨x3, hx3⟩ : ∃ x, (L'2)[(i)]? = some x := ⟨_, List.getElem?_eq_getElem (by omega)⟩
          obtain ⟨b6, o9, E7⟩ := H.elt 2 rfl (i) (by omega)
          refine tk (fun wx HS => rIxE E7 rfl rfl rfl ⟨rfl, rfl⟩) ?_
          refine rStE H 2 rfl E7 hx3 0 ((↑j1 : Int)) rfl rfl rfl rfl ?_
          clear H
          intro w5 H
          clear w4
          obtain ⟨x4, hx4⟩ : ∃ x, (L'2.set i (↑j1 : Int))[(j1)]? = some x := ⟨_, List.getElem?_eq_getElem (by (simp only [List.length_append, List.length_set, List.length_cons, List.length_nil]; omega))⟩
          obtain ⟨b7, o10, E8⟩ := H.elt 2 rfl (j1) (by (simp only [List.length_append, List.length_set, List.length_cons, List.length_nil]; omega))
          refine tk (fun wx HS => rIxE E8 rfl rfl rfl ⟨rfl, rfl⟩) ?_
          refine rStE H 2 rfl E8 hx4 0 ((↑i : Int)) rfl rfl rfl rfl ?_
          clear H
          intro w4 H
          clear w5
          obtain ⟨x5, hx5⟩ : ∃ x, ((E'2.set i (↑j2 : Int)).set j2 (↑i : Int))[(j1)]? = some x := ⟨_, List.getElem?_eq_getElem (by (simp only [List.length_append, List.length_set, List.length_cons, List.length_nil]; omega))⟩
          obtain ⟨b8, o11, E9⟩ := H.elt 1 rfl (j1) (by (simp only [List.length_append, List.length_set, List.length_cons, List.length_nil]; omega))
          refine tk (fun wx HS => rIxE E9 rfl rfl rfl ⟨rfl, rfl⟩) ?_
          refine rStE H 1 rfl E9 hx5 0 ((↑j2 : Int)) rfl rfl rfl rfl ?_
          clear H
          intro w5 H
          clear w4
          refine eqI64 (by omega) ?_
          refine Nxt.mk ((j2 + 1, ((E'2.set i (↑j2 : Int)).set j2 (↑i : Int)).set j1 (↑j2 : Int), (L'2.set i (↑j1 : Int)).set j1 (↑i : Int))) (mt_i rfl (by first | omega | (simp only; omega) | (simp; omega)) (mt_nil)) ?_ ?_
          · refine ⟨?_, ?_⟩
            · exact SqR.two h1 h3 h7 (by omega) (by rw [oo_of (map_get h4)]; show y1.op = 5; assumption) (by rw [oo_of (map_get h14)]; exact h16) (sq_end hc (by omega) (map_get h14) h16 (h15.trans (sq_else hc (map_get h4) (show y1.op = 5 by assumption) (h6.trans o1)).2)).2 (by unfold opn; rw [oo_of hxd]; exact ho)
            refine ⟨?_, ?_⟩
            · exact (sq_end hc (by omega) (map_get h14) h16 (h15.trans (sq_else hc (map_get h4) (show y1.op = 5 by assumption) (h6.trans o1)).2)).1
            refine ⟨?_, ?_⟩
            · (simp only [List.length_append, List.length_set, List.length_cons, List.length_nil]; omega)
            refine ⟨?_, ?_⟩
            · assumption
            refine H.drop 3 ?_
            clear H
            intro H
            exact H
          omega
        refine br_t (vEq_T (by exact absurd (sq_else hc (map_get h14) (show y2.op = 5 by assumption) (h15.trans (sq_else hc (map_get h4) (show y1.op = 5 by assumption) (h6.trans o1)).2)).1 (by decide))) ?_
        refine rFieldAt rfl ?_
        refine rLd (H.at 0 rfl) 0 rfl rfl rfl ?_
        obtain ⟨b3, o6, E4, F3, hok3⟩ := FSl.elt hx h14
        have hok3_op := hok3.op
        have hok3_a := hok3.a
        have hok3_b := hok3.b
        have hok3_to := hok3.to
        refine rIxE E4 rfl rfl rfl ?_
        refine rFieldAt rfl ?_
        refine rLd (H.fat F3) 0 rfl rfl rfl ?_
        refine cT (vEq_T (by exact absurd (sq_else hc (map_get h14) (show y2.op = 5 by assumption) (h15.trans (sq_else hc (map_get h4) (show y1.op = 5 by assumption) (h6.trans o1)).2)).1 (by decide))) ?_
        refine cT (vNe_T (by exact absurd (sq_else hc (map_get h14) (show y2.op = 5 by assumption) (h15.trans (sq_else hc (map_get h4) (show y1.op = 5 by assumption) (h6.trans o1)).2)).1 (by decide))) ?_
        refine Done.mk ?_
        exact absurd (sq_else hc (map_get h14) (show y2.op = 5 by assumption) (h15.trans (sq_else hc (map_get h4) (show y1.op = 5 by assumption) (h6.trans o1)).2)).1 (by decide)
      replace c1 := vEq_f (c1)
      refine br_t (vEq_T (by exact absurd (show x.op = 4 from (sq_else hc (map_get h4) (show y1.op = 5 by assumption) (h6.trans o1)).1) (by assumption))) ?_
      refine rFieldAt rfl ?_
      refine rLd (H.at 0 rfl) 0 rfl rfl rfl ?_
      refine rIxE E3 rfl rfl rfl ?_
      refine rFieldAt rfl ?_
      refine rLd (H.fat F2) 0 rfl rfl rfl ?_
      refine cT (vEq_T (by exact absurd (show x.op = 4 from (sq_else hc (map_get h4) (show y1.op = 5 by assumption) (h6.trans o1)).1) (by assumption))) ?_
      refine cT (vNe_T (by exact absurd (show x.op = 4 from (sq_else hc (map_get h4) (show y1.op = 5 by assumption) (h6.trans o1)).1) (by assumption))) ?_
      refine Done.mk ?_
      exact absurd (show x.op = 4 from (sq_else hc (map_get h4) (show y1.op = 5 by assumption) (h6.trans o1)).1) (by assumption)
    · have hfl := st_flat hc hxd ho (fun c => h5 (.inl c)) (fun c => h5 (.inr c))
      refine rFieldAt rfl ?_
      refine rLd (H.at 0 rfl) 0 rfl rfl rfl ?_
      refine rLenF hx rfl ?_
      refine cT (vLt_T (by omega)) ?_
      refine bk ?_
      refine rFieldAt rfl ?_
      refine rLd (H.at 0 rfl) 0 rfl rfl rfl ?_
      obtain ⟨b1, o1, E2, F1, hok1⟩ := FSl.elt hx hxi
      have hok1_op := hok1.op
      have hok1_a := hok1.a
      have hok1_b := hok1.b
      have hok1_to := hok1.to
      refine rIxE E2 rfl rfl rfl ?_
      refine rLdA (H.fat F1) 0 rfl rfl rfl ?_
      refine rAllocS H rfl ?_
      clear H
      intro p1 w1 H
      clear w_
      refine rStAS H 0 rfl rfl rfl (by simp only [List.all_cons, List.all_nil, H.one 2 rfl, H.one 3 rfl, FSl.one hok1_to, FSl.one hx]; rfl) ?_
      clear H
      intro w2 H
      clear w1
      refine rLdA (H.at 0 rfl) 0 rfl rfl rfl ?_
      refine CallP.mk (Fc.imp (Go.Proofs.YtndhikahjmgamaaGreatDoor.RefD.insCheck0 H _ hM _ ?_ ?_) ?_)
      · assumption
      · assumption
      clear H
      rintro _ w1 ⟨⟨e1, ⟨rfl, h2⟩⟩, H⟩
      refine cF (vNe_F (by assumption)) ?_
      refine rFieldAt rfl ?_
      refine rLd (H.at 0 rfl) 0 rfl rfl rfl ?_
      refine br_f (vEq_F (by omega)) ?_
      refine rFieldAt rfl ?_
      refine rLd (H.at 0 rfl) 0 rfl rfl rfl ?_
      refine cF (vEq_F (by omega)) ?_
      refine rFieldAt rfl ?_
      refine rLd (H.at 0 rfl) 0 rfl rfl rfl ?_
      refine br (fun c1 => ?_) (fun c1 => ?_)
      · replace c1 := vLt_t (c1)
        refine cT rfl ?_
        refine eqI64 (by omega) ?_
        refine Nxt.mk ((i + 1, E1, L1)) (mt_i rfl (by first | omega | (simp only; omega) | (simp; omega)) (mt_nil)) ?_ ?_
        · refine ⟨?_, ?_⟩
          · exact h1.flat (oo_not hxd ho)
          refine ⟨?_, ?_⟩
          · exact hfl.trans hs
          refine ⟨?_, ?_⟩
          · assumption
          refine ⟨?_, ?_⟩
          · assumption
          refine H.fronts [3, 3, 3] ?_
          clear H
          intro H
          refine H.drop 3 ?_
          clear H
          intro H
          exact H
        omega
      replace c1 := vLt_f (c1)
      refine rFieldAt rfl ?_
      refine rLd (H.at 0 rfl) 0 rfl rfl rfl ?_
      refine cT (vLt_T (by omega)) ?_
      refine eqI64 (by omega) ?_
      refine Nxt.mk ((i + 1, E1, L1)) (mt_i rfl (by first | omega | (simp only; omega) | (simp; omega)) (mt_nil)) ?_ ?_
      · refine ⟨?_, ?_⟩
        · exact h1.flat (oo_not hxd ho)
        refine ⟨?_, ?_⟩
        · exact hfl.trans hs
        refine ⟨?_, ?_⟩
        · assumption
        refine ⟨?_, ?_⟩
        · assumption
        refine H.fronts [3, 3, 3] ?_
        clear H
        intro H
        refine H.drop 3 ?_
        clear H
        intro H
        exact H
      omega
end Go.Proofs.YtndhikahjmgamaaGreatDoor.Valid
/- The document's NestMatch of a body that is well nested. -/
set_option maxRecDepth 100000
set_option maxHeartbeats 4000000
set_option linter.unusedVariables false
set_option linter.unusedSimpArgs false
namespace Go.Proofs.YtndhikahjmgamaaGreatDoor.Valid
open Go Go.Proofs.YtndhikahjmgamaaGreatDoor.Eng Go.RowKit
open Ins Nest Leb Bin RefD
/-- The end of each block. -/
structure DM (bd : List InsD) (E : List Int) : Prop where
  len : E.length = bd.length
  cl : ∀ b, b < bd.length → opn bd b → ∃ e : Nat, gd E b = e ∧ e < bd.length ∧ oo bd e = 11 ∧ tp (stB bd e) = b
section
variable {g : Glob} {w : World} {l : List As}
theorem sq_root {bd : List InsD} {j : Nat} {y : InsD} (hc : chkB bd = 0) (hy : bd[j]? = some y) (hs : stB bd j = stB bd 0) : y.op ≠ 5 ∧ (y.op = 11 → j + 1 = bd.length) := by
  have hj := (List.getElem?_eq_some_iff.1 hy).1
  have hz : stB bd j = ⟨[-1], [2], false⟩ := hs
  have hn := st_nx hc hy
  rw [hz] at hn
  constructor
  · intro h5
    have := (st_else (op := []) (last := []) hc hy h5 rfl hz).1
    cases this
  · intro h11
    rcases nx_ways hn with ⟨h, _⟩ | ⟨h, _⟩ | ⟨_, e, _⟩ | ⟨h, _⟩
    · omega
    · omega
    · rcases Nat.lt_or_ge (j + 1) bd.length with h | h
      · have h2 := over_k hc h
        rw [e] at h2; simp at h2
      · omega
    · omega
theorem SqR.dm {bd : List InsD} {j : Nat} {E E' : List Int} (h : SqR bd 0 j E E') (hl : E.length = bd.length) (hj : j + 1 = bd.length) (h11 : oo bd j = 11) : DM bd E' := ⟨h.len.trans hl, fun b hb ho => by
  have : b ≠ j := fun c => by subst c; unfold opn at ho; omega
  obtain ⟨e, a1, a2, a3⟩ := h.cl b (Nat.zero_le _) (by omega) ho
  exact ⟨e, a1, by omega, a3⟩⟩
theorem all_ (v : Value) (xs : List InsV) (p : Nat) (H : Sat g w (Pt p [v, .slice none 0 0, .slice none 0 0] 75 :: l)) (hx : FSl g enV (okV g) 4 v xs) (m : Int) (hM : FAt g 4 0 [.int .i64 m]) (hc : chkB (xs.map InsV.d) = 0) : Fc Tryz.prog 17 #[.pointer (some ⟨p, 0, none⟩)] w (fun r w' => ∃ e ve vl E L, r = .int .i64 e ∧ e = 0 ∧ DM (xs.map InsV.d) E ∧ Sat g w' (Pt p [v, ve, vl] 75 :: Sl 3 1 enI ve E :: Sl 3 1 enI vl L :: l)) := by
  have hml : (xs.map InsV.d).length = xs.length := List.length_map ..
  have hbl := (chkB_ok hc).1
  rw [hml] at hbl
  have hbp : 0 < xs.length := by
    have := chkB_ne hc
    rw [← List.length_pos_iff, List.length_map] at this; exact this
  have hz : (stB (xs.map InsV.d) 0).op.length = 1 := rfl
  have ih : SeqAt v xs p m xs.length := seq_ v xs p m hc xs.length
  unfold SeqAt at ih
  refine Fc.of Tryz.func17 rfl (by kernel_rfl) ?_
  refine rFieldAt rfl ?_
  refine rLd (H.at 0 rfl) 0 rfl rfl rfl ?_
  refine rLenF hx rfl ?_
  replace H := H.sl0 (en := enI) (s := 1) 3 (fun _ => rfl)
  replace H := H.sl0 (en := enI) (s := 1) 3 (fun _ => rfl)
  refine LoopP.rule (α := Nat × Value × Value × List Int × List Int) (0, .slice none 0 0, .slice none 0 0, [], []) (fun x_ => [(11, .int .i64 x_.1)]) (fun x_ w_ => (x_.1 ≤ xs.length) ∧ (x_.2.2.2.1.length = x_.1) ∧ (x_.2.2.2.2.length = x_.1) ∧ Sat g w_ ((Pt p [v, x_.2.1, x_.2.2.1] 75 :: Sl 3 1 enI x_.2.1 x_.2.2.2.1 :: Sl 3 1 enI x_.2.2.1 x_.2.2.2.2 :: l))) (fun x_ => xs.length - x_.1) ?_ ?_ ?_
  · repeat first | exact mt_nil | refine mt_cons rfl ?_ | refine mt_i rfl (by first | omega | (simp only; omega) | (simp; omega) | (simp; done)) ?_
  · try simp only
    refine ⟨?_, ?_⟩
    · omega
    refine ⟨?_, ?_⟩
    · rfl
    refine ⟨?_, ?_⟩
    · rfl
    refine H.fronts [1, 1, 2] ?_
    clear H
    intro H
    exact H
  clear H
  rintro ⟨i, ve, vl, E, L⟩ f_ w_ ⟨hi, hE, hL, H⟩
  try simp only at hi hE hL H ⊢
  rcases Nat.lt_or_ge i xs.length with hlt | hge
  · refine cT (vLt_T (by omega)) ?_
    refine bk ?_
    refine drawtS H [1] (.op 0 .pure (.op 1 .pure (.op 2 .pure (.op 3 .pure (.op 4 .pure (.op 5 .held (.op 8 .pure (.op 9 .pure (.op 10 .pure (.op 11 .held (.fork (.op 6 .forced (.fork (.op 7 .forced (.op 12 .forced (.op 13 .free (.op 14 .pure (.op 15 .pure (.op 16 .free (.op 17 .pure (.op 18 .pure (.op 19 .free .nil))))))))) (.op 12 .forced (.op 7 .forced (.op 13 .free (.op 14 .pure (.op 15 .pure (.op 16 .free (.op 17 .pure (.op 18 .pure (.op 19 .free .nil))))))))))) (.op 12 .forced (.op 6 .forced (.op 7 .forced (.op 13 .free (.op 14 .pure (.op 15 .pure (.op 16 .free (.op 17 .pure (.op 18 .pure (.op 19 .free .nil))))))))))))))))))))) mixed (by kernel_rfl) ?_
    clear H
    intro w1 H
    clear w_
    refine tk (fun wx HS => rFieldAt rfl ⟨rfl, rfl⟩) ?_
    refine tk (fun wx HS => rLd (HS.at 0 rfl) 1 rfl rfl rfl ⟨rfl, rfl⟩) ?_
    refine tk (fun wx HS => rFieldAt rfl ⟨rfl, rfl⟩) ?_
    refine tk (fun wx HS => rLd (HS.at 0 rfl) 2 rfl rfl rfl ⟨rfl, rfl⟩) ?_
    refine ⟨?_, ?_⟩
    · refine rBuildSliceS H rfl rfl rfl rfl ?_
      clear H
      intro p1 w2 H
      clear w1
      refine KeepP.mk (H.drop 2 (fun H => H.drop 0 (fun H => H))) ?_
      refine ⟨?_, ?_⟩
      · refine rApS (ys := [_]) 8 H 2 rfl (H.at 0 rfl) rfl (fun y _ => rfl) rfl rfl rfl (by omega) (by omega) ?_
        intro v1
        clear H
        intro w1 H
        clear w2
        refine KeepP.mk (H.drop 2 (fun H => H.drop 0 (fun H => H))) ?_
        refine rBuildSliceS H rfl rfl rfl rfl ?_
        clear H
        intro p2 w2 H
        clear w1
        refine KeepP.mk (H.drop 3 (fun H => H.drop 1 (fun H => H.drop 0 (fun H => H)))) ?_
        refine rApS (ys := [_]) 8 H 4 rfl (H.at 0 rfl) rfl (fun y _ => rfl) rfl rfl rfl (by omega) (by omega) ?_
        intro v2
        clear H
        intro w1 H
        clear w2
        refine tk (fun wx HS => rFieldAt rfl ⟨rfl, rfl⟩) ?_
        refine rStS H 2 rfl rfl rfl (H.one 3 rfl) ?_
        clear H
        intro w2 H
        clear w1
        refine tk (fun wx HS => rFieldAt rfl ⟨rfl, rfl⟩) ?_
        refine rStS H 2 rfl rfl rfl (H.one 4 rfl) ?_
        clear H
        intro w1 H
        clear w2
        refine eqI64 (by omega) ?_
        refine Nxt.mk ((i + 1, v1, v2, E ++ [-1], L ++ [-1])) (mt_i rfl (by first | omega | (simp only; omega) | (simp; omega)) (mt_nil)) ?_ ?_
        · refine ⟨?_, ?_⟩
          · assumption
          refine ⟨?_, ?_⟩
          · (simp only [List.length_append, List.length_set, List.length_cons, List.length_nil]; omega)
          refine ⟨?_, ?_⟩
          · (simp only [List.length_append, List.length_set, List.length_cons, List.length_nil]; omega)
          refine H.fronts [4, 4, 4] ?_
          clear H
          intro H
          refine H.drop 4 ?_
          clear H
          intro H
          refine H.drop 3 ?_
          clear H
          intro H
          exact H
        omega
      refine rBuildSliceS H rfl rfl rfl rfl ?_
      clear H
      intro p2 w1 H
      clear w2
      refine KeepP.mk (H.drop 3 (fun H => H.drop 1 (fun H => H.drop 0 (fun H => H)))) ?_
      refine rApS (ys := [_]) 8 H 3 rfl (H.at 1 rfl) rfl (fun y _ => rfl) rfl rfl rfl (by omega) (by omega) ?_
      intro v1
      clear H
      intro w2 H
      clear w1
      refine KeepP.mk (H.drop 3 (fun H => H.drop 1 (fun H => H.drop 0 (fun H => H)))) ?_
      refine rApS (ys := [_]) 8 H 4 rfl (H.at 0 rfl) rfl (fun y _ => rfl) rfl rfl rfl (by omega) (by omega) ?_
      intro v2
      clear H
      intro w1 H
      clear w2
      refine tk (fun wx HS => rFieldAt rfl ⟨rfl, rfl⟩) ?_
      refine rStS H 2 rfl rfl rfl (H.one 3 rfl) ?_
      clear H
      intro w2 H
      clear w1
      refine tk (fun wx HS => rFieldAt rfl ⟨rfl, rfl⟩) ?_
      refine rStS H 2 rfl rfl rfl (H.one 4 rfl) ?_
      clear H
      intro w1 H
      clear w2
      refine eqI64 (by omega) ?_
      refine Nxt.mk ((i + 1, v1, v2, E ++ [-1], L ++ [-1])) (mt_i rfl (by first | omega | (simp only; omega) | (simp; omega)) (mt_nil)) ?_ ?_
      · refine ⟨?_, ?_⟩
        · assumption
        refine ⟨?_, ?_⟩
        · (simp only [List.length_append, List.length_set, List.length_cons, List.length_nil]; omega)
        refine ⟨?_, ?_⟩
        · (simp only [List.length_append, List.length_set, List.length_cons, List.length_nil]; omega)
        refine H.fronts [4, 4, 4] ?_
        clear H
        intro H
        refine H.drop 4 ?_
        clear H
        intro H
        refine H.drop 3 ?_
        clear H
        intro H
        exact H
      omega
    refine rBuildSliceS H rfl rfl rfl rfl ?_
    clear H
    intro p1 w2 H
    clear w1
    refine KeepP.mk (H.drop 2 (fun H => H.drop 0 (fun H => H))) ?_
    refine rBuildSliceS H rfl rfl rfl rfl ?_
    clear H
    intro p2 w1 H
    clear w2
    refine KeepP.mk (H.drop 3 (fun H => H.drop 1 (fun H => H.drop 0 (fun H => H)))) ?_
    refine rApS (ys := [_]) 8 H 3 rfl (H.at 0 rfl) rfl (fun y _ => rfl) rfl rfl rfl (by omega) (by omega) ?_
    intro v1
    clear H
    intro w2 H
    clear w1
    refine KeepP.mk (H.drop 3 (fun H => H.drop 1 (fun H => H.drop 0 (fun H => H)))) ?_
    refine rApS (ys := [_]) 8 H 4 rfl (H.at 1 rfl) rfl (fun y _ => rfl) rfl rfl rfl (by omega) (by omega) ?_
    intro v2
    clear H
    intro w1 H
    clear w2
    refine tk (fun wx HS => rFieldAt rfl ⟨rfl, rfl⟩) ?_
    refine rStS H 2 rfl rfl rfl (H.one 3 rfl) ?_
    clear H
    intro w2 H
    clear w1
    refine tk (fun wx HS => rFieldAt rfl ⟨rfl, rfl⟩) ?_
    refine rStS H 2 rfl rfl rfl (H.one 4 rfl) ?_
    clear H
    intro w1 H
    clear w2
    refine eqI64 (by omega) ?_
    refine Nxt.mk ((i + 1, v1, v2, E ++ [-1], L ++ [-1])) (mt_i rfl (by first | omega | (simp only; omega) | (simp; omega)) (mt_nil)) ?_ ?_
    · refine ⟨?_, ?_⟩
      · assumption
      refine ⟨?_, ?_⟩
      · (simp only [List.length_append, List.length_set, List.length_cons, List.length_nil]; omega)
      refine ⟨?_, ?_⟩
      · (simp only [List.length_append, List.length_set, List.length_cons, List.length_nil]; omega)
      refine H.fronts [4, 4, 4] ?_
      clear H
      intro H
      refine H.drop 4 ?_
      clear H
      intro H
      refine H.drop 3 ?_
      clear H
      intro H
      exact H
    omega
  · refine cF (vLt_F (by omega)) ?_
    refine CallP.mk (Fc.imp (ih _ _ _ _ _ _ _ (0) _ H hx ?_ ?_ ?_ ?_ ?_ ?_) ?_)
    · assumption
    · omega
    · omega
    · assumption
    · omega
    · omega
    clear H
    rintro _ w1 ⟨j1, ⟨y1, ⟨E'1, ⟨L'1, ⟨rfl, ⟨h1, ⟨h2, ⟨h3, ⟨(h4 | h5), ⟨h6, ⟨h7, ⟨h8, ⟨h9, ⟨h10, H⟩⟩⟩⟩⟩⟩⟩⟩⟩⟩⟩⟩⟩⟩
    · have hr := sq_root hc (map_get h2) h3
      have hr1 : y1.op ≠ 5 := hr.1
      have hr2 : y1.op = 11 → j1 + 1 = xs.length := fun h => (hr.2 h).trans hml
      refine bk ?_
      refine cF (vNe_F (by omega)) ?_
      refine rFieldAt rfl ?_
      refine rLd (H.at 0 rfl) 0 rfl rfl rfl ?_
      obtain ⟨b1, o1, E1, F1, hok1⟩ := FSl.elt hx h2
      have hok1_op := hok1.op
      have hok1_a := hok1.a
      have hok1_b := hok1.b
      have hok1_to := hok1.to
      refine rIxE E1 rfl rfl rfl ?_
      refine rFieldAt rfl ?_
      refine rLd (H.fat F1) 0 rfl rfl rfl ?_
      refine cF (vEq_F (by assumption)) ?_
      refine rFieldAt rfl ?_
      refine rLd (H.at 0 rfl) 0 rfl rfl rfl ?_
      refine rLenF hx rfl ?_
      refine eqI64 (by omega) ?_
      refine cT (vEq_T (by omega)) ?_
      refine Done.mk ?_
      refine ⟨0, ve, vl, E'1, L'1, ?_⟩
      refine ⟨?_, ?_⟩
      · refine int_eq ?_
        omega
      refine ⟨?_, ?_⟩
      · omega
      refine ⟨?_, ?_⟩
      · exact SqR.dm h1 (by omega) (by omega) (by rw [oo_of (map_get h2)]; assumption)
      exact H
    have hr := sq_root hc (map_get h2) h3
    have hr1 : y1.op ≠ 5 := hr.1
    have hr2 : y1.op = 11 → j1 + 1 = xs.length := fun h => (hr.2 h).trans hml
    refine bk ?_
    refine cT (vNe_T (by omega)) ?_
    refine Done.mk ?_
    refine ⟨0, ve, vl, E'1, L'1, ?_⟩
    refine ⟨?_, ?_⟩
    · refine int_eq ?_
      omega
    refine ⟨?_, ?_⟩
    · omega
    refine ⟨?_, ?_⟩
    · omega
    exact H
theorem nestMatch_ (H : Sat g w l) (v : Value) (xs : List InsV) (hx : FSl g enV (okV g) 4 v xs) (m : Int) (hM : FAt g 4 0 [.int .i64 m]) (hc : chkB (xs.map InsV.d) = 0) : Fc Tryz.prog 8 #[v] w (fun r w' => ∃ e ve vl De Le, r = .tuple #[ve, vl, .int .i64 e] ∧ e = 0 ∧ DM (xs.map InsV.d) De ∧ Sat g w' (Sl 3 1 enI ve De :: Sl 3 1 enI vl Le :: l)) := by
  have hml : (xs.map InsV.d).length = xs.length := List.length_map ..
  have hbl := (chkB_ok hc).1
  rw [hml] at hbl
  refine Fc.of Tryz.func8 rfl (by kernel_rfl) ?_
  refine rLenF hx rfl ?_
  refine cF (vLt_F (by omega)) ?_
  obtain ⟨a1, c1, rfl⟩ := FSl.form hx
  refine rBuild rfl rfl rfl ?_
  refine rBoxS H ?_
  clear H
  intro p1 w1 H
  refine CallP.mk (Fc.imp (Go.Proofs.YtndhikahjmgamaaGreatDoor.Valid.all_ _ _ (p1) H hx _ hM ?_) ?_)
  · assumption
  clear H
  rintro _ w2 ⟨e1, ⟨ve1, ⟨vl1, ⟨E1, ⟨L1, ⟨rfl, ⟨h1, ⟨h2, H⟩⟩⟩⟩⟩⟩⟩⟩
  refine cF (vNe_F (by assumption)) ?_
  refine drawzS H [] [(0, .pure), (1, .pure), (2, .pure), (3, .held), (4, .pure), (5, .pure), (6, .pure), (7, .held), (8, .pure), (9, .pure), (10, .pure)] mixed (by kernel_rfl) (by kernel_rfl) ?_
  clear H
  intro w3 H
  clear w2
  refine tk (fun wx HS => rFieldAt rfl ⟨rfl, rfl⟩) ?_
  refine tk (fun wx HS => rLd (HS.at 0 rfl) 1 rfl rfl rfl ⟨rfl, rfl⟩) ?_
  refine tk (fun wx HS => rFieldAt rfl ⟨rfl, rfl⟩) ?_
  refine tk (fun wx HS => rLd (HS.at 0 rfl) 2 rfl rfl rfl ⟨rfl, rfl⟩) ?_
  refine Done.mk ?_
  refine ⟨0, ve1, vl1, E1, L1, ?_⟩
  refine ⟨?_, ?_⟩
  · rfl
  refine ⟨?_, ?_⟩
  · omega
  refine ⟨?_, ?_⟩
  · assumption
  refine H.fronts [2, 2] ?_
  clear H
  intro H
  refine H.drop 2 ?_
  clear H
  intro H
  exact H
end
end Go.Proofs.YtndhikahjmgamaaGreatDoor.Valid
/- The walk of FlatInto. -/
set_option maxRecDepth 100000
set_option maxHeartbeats 4000000
set_option linter.unusedVariables false
set_option linter.unusedSimpArgs false
namespace Go.Proofs.YtndhikahjmgamaaGreatDoor.Valid
open Go Go.Proofs.YtndhikahjmgamaaGreatDoor.Eng Go.RowKit
open Ins Nest Leb Bin RefD
theorem into_ok {m : ModV} {f : FunV} {outs : List SpV} {j : Nat} {x : InsV} {sp : SpV} {E : List Int} (hFR : FlR m f outs) (hD : DM (f.body.map InsV.d) E) (hx : f.body[j]? = some x) (hsp : outs[j]? = some sp) : ∀ q ∈ sp.js, ∀ (b : Nat) (y : InsV) (e : Int), f.body[b]? = some y → (y.op = 2 ∨ y.op = 3 ∨ y.op = 4) → E[b]? = some e → (b : Int) < q.at_ → q.at_ ≤ e → b ≤ j ∧ (j : Int) ≤ e := by
  obtain ⟨Es, Ls, S, hx2⟩ := hFR.ex
  have hxd : (f.body.map InsV.d)[j]? = some x.d := by rw [List.getElem?_map, hx]; rfl
  have e := hx2 j sp x.d hsp hxd
  intro q hq b y e2 hy ho he h1 h2
  rw [e] at hq
  by_cases hd : (shAt (envOf m.d) ((sigOf m f).inn ++ f.loc) (f.body.map InsV.d) (sigOf m f).d j).1 = true
  · rw [if_pos hd] at hq; cases hq
  rw [if_neg hd] at hq
  have hyd : (f.body.map InsV.d)[b]? = some y.d := by rw [List.getElem?_map, hy]; rfl
  have hb := (List.getElem?_eq_some_iff.1 hyd).1
  obtain ⟨e3, a1, a2, a3, a4⟩ := hD.cl b hb (by unfold opn; rw [oo_of hyd]; exact ho)
  have he3 : e2 = e3 := by rw [← a1]; exact (gd_of he).symm
  have hz : (f.body.map InsV.d)[e3]? = some ((f.body.map InsV.d)[e3]'a2) := List.getElem?_eq_getElem a2
  have hend := S.end_is hyd ho hz (by rw [← oo_of hz]; exact a3) a4
  have := S.into hxd q hq b y.d hyd ho h1 (by rw [hend, ← he3]; exact h2)
  rw [hend, ← he3] at this
  exact this
theorem flatInto (w : World) (m : ModV) (a k : Int) (hm : okMd (froz w) m) (ha : I64 a) (hk : I64 k) (mx : Int) (hM : FAt (froz w) 4 0 [.int .i64 mx]) (hT : U8F (froz w)) : Fc Tryz.prog 3 #[.agg #[m.vt, m.vm, m.vf, .int .i64 m.table, .int .i64 m.pages, .int .i64 m.most, m.vg, m.vx, .int .i64 m.start, m.ve, m.vd], .int .i64 a, .int .i64 k] w (fun v w' => v = .bool true ∧ Below w.heap.size w w') := by
  refine Fc.of Tryz.func3 rfl (by kernel_rfl) ?_
  have H := Sat.start w
  have E := Ext.refl (froz w)
  have hm_funcs := hm.funcs
  refine rBoxS H ?_
  clear H
  intro p1 w1 H
  refine rLdA (H.at 0 rfl) 0 rfl rfl rfl ?_
  refine CallP.mk (Fc.imp (Go.Proofs.YtndhikahjmgamaaGreatDoor.Valid.sound H ?_ _ ?_ _ _ ?_ ?_) ?_)
  · assumption
  · assumption
  · assumption
  · assumption
  clear H
  rintro _ w2 ⟨x1, ⟨y1, ⟨b1, ⟨rfl, ⟨h1, H⟩⟩⟩⟩⟩
  refine rBuild rfl rfl rfl ?_
  refine rBuild rfl rfl rfl ?_
  refine rBuildSliceS H rfl rfl rfl rfl ?_
  clear H
  intro p2 w3 H
  clear w2
  refine H.ptSl (n := 2) (en := enV) (s := 4) 0 rfl [⟨15, 0, 0, .slice none 0 0, []⟩, ⟨11, 0, 0, .slice none 0 0, []⟩] rfl rfl (fun _ => rfl) rfl ?_
  clear H
  intro H
  have i0 : I64 0 := by decide
  refine H.frz1 0 (okV (froz w)) rfl (fun x h => ?_) ?_
  · rcases List.mem_cons.1 h with rfl | h
    · exact ⟨by decide, i0, i0, FSl.nil0 _ _ _ _⟩
    · rw [List.mem_singleton.1 h]; exact ⟨by decide, i0, i0, FSl.nil0 _ _ _ _⟩
  intro gA HE hA
  clear H
  intro H
  replace hA := hA.okm (ok' := okV gA) fun _ _ h => h.ext HE
  replace hm_funcs := FSl.extN (ok := Go.Proofs.YtndhikahjmgamaaGreatDoor.Bin.okFn) (fun _ _ _ h E => Go.Proofs.YtndhikahjmgamaaGreatDoor.Bin.okFn.ext h E) hm_funcs HE
  replace E := E.trans HE
  replace hM := FAt.ext hM HE
  replace hm := hm.ext HE
  clear HE
  refine CallP.mk (Fc.imp (Go.Proofs.YtndhikahjmgamaaGreatDoor.Valid.bare H _ _ hA) ?_)
  clear H
  rintro _ w2 ⟨g'1, ⟨m1, ⟨rfl, ⟨HE, ⟨h2, ⟨h3, H⟩⟩⟩⟩⟩⟩
  replace hm := hm.ext HE
  replace hM := FAt.ext hM HE
  replace E := E.trans HE
  replace hm_funcs := FSl.extN (ok := Go.Proofs.YtndhikahjmgamaaGreatDoor.Bin.okFn) (fun _ _ _ h E => Go.Proofs.YtndhikahjmgamaaGreatDoor.Bin.okFn.ext h E) hm_funcs HE
  replace hA := FSl.extN (ok := Go.Proofs.YtndhikahjmgamaaGreatDoor.Ins.okV) (fun _ _ _ h E => Go.Proofs.YtndhikahjmgamaaGreatDoor.Ins.okV.ext h E) hA HE
  clear HE
  have hT2 := u8_ext hT E
  refine CallP.mk (Fc.imp (Go.Proofs.YtndhikahjmgamaaGreatDoor.Valid.flat0 H ?_ _ ?_ ?_) ?_)
  · assumption
  · assumption
  · assumption
  clear H
  rintro _ w4 ⟨g'2, ⟨v1, ⟨outs1, ⟨e1, ⟨s1, ⟨rfl, ⟨h4, ⟨HE, ⟨h5, ⟨h6, ⟨h7, ⟨h8, H⟩⟩⟩⟩⟩⟩⟩⟩⟩⟩⟩⟩
  replace hA := FSl.extN (ok := Go.Proofs.YtndhikahjmgamaaGreatDoor.Ins.okV) (fun _ _ _ h E => Go.Proofs.YtndhikahjmgamaaGreatDoor.Ins.okV.ext h E) hA HE
  replace hm_funcs := FSl.extN (ok := Go.Proofs.YtndhikahjmgamaaGreatDoor.Bin.okFn) (fun _ _ _ h E => Go.Proofs.YtndhikahjmgamaaGreatDoor.Bin.okFn.ext h E) hm_funcs HE
  replace E := E.trans HE
  replace hM := FAt.ext hM HE
  replace hm := hm.ext HE
  replace h2 := h2.ext HE
  clear HE
  have hT3 := u8_ext hT E
  refine br_f (vNe_F (by assumption)) ?_
  refine rLenF h5 rfl ?_
  refine br_f (vNe_F (by omega)) ?_
  obtain ⟨b2, o1, E1, F1, hok1⟩ := FSl.elt h5 h7
  have hok1_js := hok1.js
  refine rIxE E1 rfl rfl rfl ?_
  refine rFieldAt rfl ?_
  refine rLd (H.fat F1) 0 rfl rfl rfl ?_
  refine rLenF hok1_js rfl ?_

  refine cF (vNe_F (by omega)) ?_
  refine cI (fun c1 => ?_) (fun c1 => ?_)
  · replace c1 := not_t (c1)
    refine Done.mk ?_
    refine ⟨?_, ?_⟩
    · exact congrArg Value.bool (rfl)
    exact E.fin H
  replace c1 := not_f (c1)
  refine rLdA (H.at 0 rfl) 0 rfl rfl rfl ?_
  obtain ⟨q0, q1, q2, f, hf, q3⟩ := h1.yes c1
  have hx0 : 0 ≤ x1 := by rw [q2]; exact Int.emod_nonneg _ (by omega)
  obtain ⟨n, rfl⟩ := Int.eq_ofNat_of_zero_le hx0
  have hf : m.funcs[n]? = some f := hf
  have hla := (List.getElem?_eq_some_iff.1 hf).1
  have hfm := List.mem_of_getElem? hf
  have hfo := FSl.all hm_funcs f hfm
  have hf_body := hfo.body
  have P := chkM_0 (head_0 (mod_head q0).1).1
  have P_funcs := P.funcs
  have hbl := (chkB_ok (mod_body q0 f hfm)).1
  rw [List.length_map] at hbl
  have hbp : 0 < f.body.length := by
    have := chkB_ne (mod_body q0 f hfm)
    rw [← List.length_pos_iff, List.length_map] at this; exact this
  have hy0 : 0 ≤ y1 := by rw [q3]; exact Int.emod_nonneg _ (by omega)
  have hy1 : y1 < f.body.length := by rw [q3]; exact Int.emod_lt_of_pos _ (by omega)
  obtain ⟨j, rfl⟩ := Int.eq_ofNat_of_zero_le hy0
  clear q2 q3
  obtain ⟨x, hx⟩ : ∃ x, f.body[j]? = some x := ⟨_, List.getElem?_eq_getElem (by omega)⟩
  have hcb := mod_body q0 f hfm
  refine CallP.mk (Fc.imp (Go.Proofs.YtndhikahjmgamaaGreatDoor.Valid.flat_ H ?_ ?_ ?_ (n) _ hf) ?_)
  · assumption
  · assumption
  · assumption
  clear H
  rintro _ w5 ⟨g'3, ⟨v2, ⟨outs2, ⟨e2, ⟨rfl, ⟨h9, ⟨HE, ⟨h10, ⟨h11, H⟩⟩⟩⟩⟩⟩⟩⟩⟩
  replace hf_body := FSl.extN (ok := Go.Proofs.YtndhikahjmgamaaGreatDoor.Ins.okV) (fun _ _ _ h E => Go.Proofs.YtndhikahjmgamaaGreatDoor.Ins.okV.ext h E) hf_body HE
  replace hfo := hfo.ext HE
  replace hok1_js := FSl.ext hok1_js HE
  replace hok1 := hok1.ext HE
  replace F1 := FAt.ext F1 HE
  replace h2 := h2.ext HE
  replace hm := hm.ext HE
  replace hM := FAt.ext hM HE
  replace E := E.trans HE
  replace hm_funcs := FSl.extN (ok := Go.Proofs.YtndhikahjmgamaaGreatDoor.Bin.okFn) (fun _ _ _ h E => Go.Proofs.YtndhikahjmgamaaGreatDoor.Bin.okFn.ext h E) hm_funcs HE
  replace hA := FSl.extN (ok := Go.Proofs.YtndhikahjmgamaaGreatDoor.Ins.okV) (fun _ _ _ h E => Go.Proofs.YtndhikahjmgamaaGreatDoor.Ins.okV.ext h E) hA HE
  replace h5 := FSl.extN (ok := Go.Proofs.YtndhikahjmgamaaGreatDoor.Valid.okSp) (fun _ _ _ h E => Go.Proofs.YtndhikahjmgamaaGreatDoor.Valid.okSp.ext h E) h5 HE
  clear HE
  have hFR : FlR m f outs2 := by assumption
  have hT4 := u8_ext hT E
  have hfl := hFR.len
  obtain ⟨sp, hsp⟩ : ∃ s, outs2[j]? = some s := ⟨_, List.getElem?_eq_getElem (by omega)⟩
  refine rFieldAt rfl ?_
  refine rLd (H.at 0 rfl) 2 rfl rfl rfl ?_
  obtain ⟨b3, o2, E2, F2, hok2⟩ := FSl.elt hm_funcs hf
  have hok2_ty := hok2.ty
  have hok2_loc := hok2.loc
  have hok2_body := hok2.body
  refine rIxE E2 rfl rfl rfl ?_
  refine rFieldAt rfl ?_
  refine rLd (H.fat F2) 2 rfl rfl rfl ?_
  refine CallP.mk (Fc.imp (Go.Proofs.YtndhikahjmgamaaGreatDoor.Valid.nestMatch_ H _ _ hok2_body _ hM ?_) ?_)
  · assumption
  clear H
  rintro _ w6 ⟨e3, ⟨ve1, ⟨vl1, ⟨De1, ⟨Le1, ⟨rfl, ⟨h12, ⟨h13, H⟩⟩⟩⟩⟩⟩⟩⟩
  have hDM : DM (f.body.map InsV.d) De1 := by assumption
  have hDl := hDM.len
  rw [List.length_map] at hDl
  refine br_f (vNe_F (by assumption)) ?_
  refine br_f (vNe_F (by assumption)) ?_
  refine rLenF h10 rfl ?_
  refine rLenS H 0 rfl rfl ?_
  refine cF (vNe_F (by omega)) ?_
  obtain ⟨b4, o3, E3, F3, hok3⟩ := FSl.elt h10 hsp
  have hok3_js := hok3.js
  refine rIxE E3 rfl rfl rfl ?_
  refine rFieldAt rfl ?_
  refine rLd (H.fat F3) 0 rfl rfl rfl ?_
  refine rLenF hok3_js rfl ?_
  have hW := into_ok hFR hDM hx hsp
  have hjl := SlR.len hok3_js
  refine LoopP.rule (α := Nat) (0) (fun x_ => [(89, .int .i64 x_)]) (fun x_ w_ => (x_ ≤ sp.js.length) ∧ Sat g'3 w_ ([Sl 3 1 enI ve1 De1, Sl 3 1 enI vl1 Le1, Pt p1 [m.vt, m.vm, m.vf, .int .i64 m.table, .int .i64 m.pages, .int .i64 m.most, m.vg, m.vx, .int .i64 m.start, m.ve, m.vd] 30])) (fun x_ => sp.js.length - x_) ?_ ?_ ?_
  · repeat first | exact mt_nil | refine mt_cons rfl ?_ | refine mt_i rfl (by first | omega | (simp only; omega) | (simp; omega) | (simp; done)) ?_
  · try simp only
    refine ⟨?_, ?_⟩
    · omega
    exact H
  clear H
  rintro q f_ w_ ⟨hq, H⟩
  try simp only at hq H ⊢
  rcases Nat.lt_or_ge q sp.js.length with hlt | hge
  · obtain ⟨y, hy⟩ : ∃ y, sp.js[q]? = some y := ⟨_, List.getElem?_eq_getElem hlt⟩
    have hWy := hW y (List.mem_of_getElem? hy)
    refine cT (vLt_T (by omega)) ?_
    refine bk ?_
    obtain ⟨b5, o4, E4, F4, hok4⟩ := FSl.elt hok3_js hy
    refine rIxE E4 rfl rfl rfl ?_
    refine rLdA (H.fat F4) 0 rfl rfl rfl ?_
    refine rAllocS H rfl ?_
    clear H
    intro p3 w7 H
    clear w_
    refine rStAS H 0 rfl rfl rfl rfl ?_
    clear H
    intro w8 H
    clear w7
    refine rLenS H 1 rfl rfl ?_
    refine LoopP.rule (α := Nat) (0) (fun x_ => [(95, .int .i64 x_)]) (fun x_ w_ => (x_ ≤ De1.length) ∧ Sat g'3 w_ ([Pt p3 [.int .i64 y.at_, .int .i64 y.keep, .int .i64 y.height] 52, Sl 3 1 enI ve1 De1, Sl 3 1 enI vl1 Le1, Pt p1 [m.vt, m.vm, m.vf, .int .i64 m.table, .int .i64 m.pages, .int .i64 m.most, m.vg, m.vx, .int .i64 m.start, m.ve, m.vd] 30])) (fun x_ => De1.length - x_) ?_ ?_ ?_
    · repeat first | exact mt_nil | refine mt_cons rfl ?_ | refine mt_i rfl (by first | omega | (simp only; omega) | (simp; omega) | (simp; done)) ?_
    · try simp only
      refine ⟨?_, ?_⟩
      · omega
      exact H
    clear H
    rintro b f_ w_ ⟨hb, H⟩
    try simp only at hb H ⊢
    rcases Nat.lt_or_ge b De1.length with hlt2 | hge2
    · obtain ⟨e, he⟩ : ∃ e, De1[b]? = some e := ⟨_, List.getElem?_eq_getElem hlt2⟩
      obtain ⟨z, hz⟩ : ∃ z, f.body[b]? = some z := ⟨_, List.getElem?_eq_getElem (by omega)⟩
      have hWz := hWy b z e hz
      refine cT (vLt_T (by omega)) ?_
      refine bk ?_
      obtain ⟨b6, o5, E5⟩ := H.elt 1 rfl (b) (by omega)
      refine rIxE E5 rfl rfl rfl ?_
      refine rLd (H.el 1 rfl E5 he) 0 rfl rfl rfl ?_
      refine rFieldAt rfl ?_
      refine rLd (H.at 3 rfl) 2 rfl rfl rfl ?_
      refine rIxE E2 rfl rfl rfl ?_
      refine rFieldAt rfl ?_
      refine rLd (H.fat F2) 2 rfl rfl rfl ?_
      obtain ⟨b7, o6, E6, F5, hok5⟩ := FSl.elt hok2_body hz
      have hok5_op := hok5.op
      have hok5_a := hok5.a
      have hok5_b := hok5.b
      have hok5_to := hok5.to
      refine rIxE E6 rfl rfl rfl ?_
      refine rFieldAt rfl ?_
      refine rLd (H.fat F5) 0 rfl rfl rfl ?_
      refine br (fun c2 => ?_) (fun c2 => ?_)
      · replace c2 := vLt_t (c2)
        refine cT rfl ?_
        refine eqI64 (by omega) ?_
        refine Nxt.mk (b + 1) (mt_i rfl (by first | omega | (simp only; omega) | (simp; omega)) (mt_nil)) ?_ ?_
        · refine ⟨?_, ?_⟩
          · assumption
          exact H
        omega
      replace c2 := vLt_f (c2)
      refine cI (fun c3 => ?_) (fun c3 => ?_)
      · replace c3 := vLt_t (c3)
        refine eqI64 (by omega) ?_
        refine Nxt.mk (b + 1) (mt_i rfl (by first | omega | (simp only; omega) | (simp; omega)) (mt_nil)) ?_ ?_
        · refine ⟨?_, ?_⟩
          · assumption
          exact H
        omega
      replace c3 := vLt_f (c3)
      refine rFieldAt rfl ?_
      refine rLd (H.at 0 rfl) 0 rfl rfl rfl ?_
      refine br (fun c4 => ?_) (fun c4 => ?_)
      · replace c4 := vLt_t (c4)
        refine rFieldAt rfl ?_
        refine rLd (H.at 0 rfl) 0 rfl rfl rfl ?_
        refine br (fun c5 => ?_) (fun c5 => ?_)
        · replace c5 := vLe_t (c5)
          refine br (fun c6 => ?_) (fun c6 => ?_)
          · replace c6 := vLt_t (c6)
            refine cT rfl ?_
            refine Done.mk ?_
            (exfalso; have hq9 := hWz (by omega) he (by assumption) (by assumption); omega)
          replace c6 := vLt_f (c6)
          refine cI (fun c7 => ?_) (fun c7 => ?_)
          · replace c7 := vLt_t (c7)
            refine Done.mk ?_
            (exfalso; have hq9 := hWz (by omega) he (by assumption) (by assumption); omega)
          replace c7 := vLt_f (c7)
          refine eqI64 (by omega) ?_
          refine Nxt.mk (b + 1) (mt_i rfl (by first | omega | (simp only; omega) | (simp; omega)) (mt_nil)) ?_ ?_
          · refine ⟨?_, ?_⟩
            · assumption
            exact H
          omega
        replace c5 := vLe_f (c5)
        refine cF rfl ?_
        refine eqI64 (by omega) ?_
        refine Nxt.mk (b + 1) (mt_i rfl (by first | omega | (simp only; omega) | (simp; omega)) (mt_nil)) ?_ ?_
        · refine ⟨?_, ?_⟩
          · assumption
          exact H
        omega
      replace c4 := vLt_f (c4)
      refine cF rfl ?_
      refine eqI64 (by omega) ?_
      refine Nxt.mk (b + 1) (mt_i rfl (by first | omega | (simp only; omega) | (simp; omega)) (mt_nil)) ?_ ?_
      · refine ⟨?_, ?_⟩
        · assumption
        exact H
      omega
    · refine cF (vLt_F (by omega)) ?_
      refine eqI64 (by omega) ?_
      refine Nxt.mk (q + 1) (mt_i rfl (by first | omega | (simp only; omega) | (simp; omega)) (mt_nil)) ?_ ?_
      · refine ⟨?_, ?_⟩
        · assumption
        refine H.fronts [3, 3, 3] ?_
        clear H
        intro H
        refine H.firsts 3 ?_
        clear H
        intro H
        exact H
      omega
  · refine cF (vLt_F (by omega)) ?_
    refine Done.mk ?_
    refine ⟨?_, ?_⟩
    · exact congrArg Value.bool (rfl)
    exact E.fin H
end Go.Proofs.YtndhikahjmgamaaGreatDoor.Valid
/- Modules as arguments. -/
set_option maxRecDepth 100000
set_option linter.unusedVariables false
set_option linter.unusedSimpArgs false
namespace Go.Proofs.YtndhikahjmgamaaGreatDoor.Bin
open Go Go.RowKit Go.Proofs.YtndhikahjmgamaaGreatDoor.Eng Go.Proofs.YtndhikahjmgamaaGreatDoor.Ins
def okHsg (H : Hv) (x : SigV) : Prop := SlR (RE enK U8) 1 H x.vi x.inn ∧ SlR (RE enK U8) 1 H x.vo x.out
def okHfn (H : Hv) (x : FunV) : Prop := I64 x.ty ∧ SlR (RE enK U8) 1 H x.vl x.loc ∧ SlR (fun H cs x => cs = enV x ∧ okH H x) 4 H x.vb x.body
def okHel (H : Hv) (x : ElV) : Prop := I64 x.pl ∧ SlR (RE enI okI) 1 H x.vf x.fs
structure okHmd (H : Hv) (m : ModV) : Prop where
  types : SlR (fun H cs x => cs = enSg x ∧ okHsg H x) 2 H m.vt m.types
  imps : SlR (RE enIm okIm) 2 H m.vm m.imps
  funcs : SlR (fun H cs x => cs = enFn x ∧ okHfn H x) 3 H m.vf m.funcs
  table : I64 m.table
  pages : I64 m.pages
  most : I64 m.most
  globals : SlR (RE enGl okGl) 3 H m.vg m.globals
  exps : SlR (RE enIm okIm) 2 H m.vx m.exps
  start : I64 m.start
  elems : SlR (fun H cs x => cs = enEl x ∧ okHel H x) 2 H m.ve m.elems
  data : SlR (RE enDt okDt) 2 H m.vd m.data
theorem okSg.of {g : Glob} {H : Hv} {x : SigV} (h : okHsg H x) (hh : Hle H (Gh g)) : okSg g x := ⟨h.1.mono (RE.mono' enK U8) hh, h.2.mono (RE.mono' enK U8) hh⟩
theorem okFn.of {g : Glob} {H : Hv} {x : FunV} (h : okHfn H x) (hh : Hle H (Gh g)) : okFn g x := ⟨h.1, h.2.1.mono (RE.mono' enK U8) hh, h.2.2.conv hh fun _ _ h => ⟨h.1, okV.of h.2 hh⟩⟩
theorem okEl.of {g : Glob} {H : Hv} {x : ElV} (h : okHel H x) (hh : Hle H (Gh g)) : okEl g x := ⟨h.1, h.2.mono (RE.mono' enI okI) hh⟩
theorem okMd.of {g : Glob} {H : Hv} {m : ModV} (h : okHmd H m) (hh : Hle H (Gh g)) : okMd g m :=
  ⟨h.types.conv hh fun _ _ h => ⟨h.1, okSg.of h.2 hh⟩, h.imps.mono (RE.mono' enIm okIm) hh, h.funcs.conv hh fun _ _ h => ⟨h.1, okFn.of h.2 hh⟩, h.table, h.pages, h.most, h.globals.mono (RE.mono' enGl okGl) hh, h.exps.mono (RE.mono' enIm okIm) hh, h.start, h.elems.conv hh fun _ _ h => ⟨h.1, okEl.of h.2 hh⟩, h.data.mono (RE.mono' enDt okDt) hh⟩
theorem fitsIm (cs : List Value) (h : fitsL [.str, .int .i64] cs) : ∃ x, cs = enIm x ∧ okIm x := by
  obtain ⟨_, _, rfl, ⟨a, rfl, ha⟩, _, _, rfl, ⟨b, rfl, hb⟩, rfl⟩ := h
  exact ⟨(a, b), rfl, ha, hb⟩
theorem fitsGl (cs : List Value) (h : fitsL [.int .u8, .bool, .int .i64] cs) : ∃ x, cs = enGl x ∧ okGl x := by
  obtain ⟨_, _, rfl, ⟨a, rfl, ha⟩, _, _, rfl, ⟨b, rfl⟩, _, _, rfl, ⟨c, rfl, hc⟩, rfl⟩ := h
  exact ⟨(a, b, c), rfl, ha, hc⟩
theorem fitsDt (cs : List Value) (h : fitsL [.int .i64, .str] cs) : ∃ x, cs = enDt x ∧ okDt x := by
  obtain ⟨_, _, rfl, ⟨a, rfl, ha⟩, _, _, rfl, ⟨b, rfl, hb⟩, rfl⟩ := h
  exact ⟨(a, b), rfl, ha, hb⟩
section
variable {H : Type} {enc : TypeId × Value → H} {w : World} {sp : Nat → Bool} {held : Bool}
theorem open_kinds : OpT enc Tryz.prog w sp held 47 (fun H cs xs => ∃ v, cs = [v] ∧ SlR (RE enK U8) 1 H v xs) (fun xs => (xs.map (fun x => cellsSz (enK x) + 1)).sum + 1 + 0 * xs.length) :=
  opSl 1 rfl (by decide) Tryz.underlying47 (opFlat 6 rfl fitsB1)
theorem open_ints : OpT enc Tryz.prog w sp held 44 (fun H cs xs => ∃ v, cs = [v] ∧ SlR (RE enI okI) 1 H v xs) (fun xs => (xs.map (fun x => cellsSz (enI x) + 1)).sum + 1 + 0 * xs.length) :=
  opSl 1 rfl (by decide) Tryz.underlying44 (opFlat 6 rfl fitsI1)
theorem open_sig : OpT enc Tryz.prog w sp held 68 (fun H cs x => cs = enSg x ∧ okHsg H x) (fun _ => 0) := by
  refine (open_structN 2 Tryz.underlying68 rfl (openFs_cons rfl open_kinds (openFs_cons rfl open_kinds openFs_nil))).map ?_
  rintro H cs ⟨a, b, _⟩ ⟨hl, ⟨v, h1, h1'⟩, ⟨u, h2, h2'⟩, _⟩
  refine ⟨⟨v, a, u, b⟩, ⟨?_, h1', h2'⟩, Nat.zero_le _⟩
  match cs, hl with
  | [c0, c1], _ =>
    have e1 : [c0] = [v] := h1
    have e2 : [c1] = [u] := h2
    simp only [List.cons.injEq, and_true] at e1 e2
    show _ = [_, _]
    rw [e1, e2]
theorem open_body : OpT enc Tryz.prog w sp held 48 (fun H cs xs => ∃ v, cs = [v] ∧ SlR (fun H cs x => cs = enV x ∧ okH H x) 4 H v xs) (fun xs => (xs.map (fun x => x.to.length)).sum + 1 + 0 * xs.length) :=
  opSl 4 rfl (by decide) Tryz.underlying48 open_ins
theorem open_fun : OpT enc Tryz.prog w sp held 50 (fun H cs x => cs = enFn x ∧ okHfn H x) (fun _ => 0) := by
  refine (open_structN 3 Tryz.underlying50 rfl (openFs_cons rfl (opFlat (en := enI) (ok := okI) 6 rfl fitsI1) (openFs_cons rfl open_kinds (openFs_cons rfl open_body openFs_nil)))).map ?_
  rintro H cs ⟨t, a, b, _⟩ ⟨hl, ⟨h0, h0'⟩, ⟨v, h1, h1'⟩, ⟨u, h2, h2'⟩, _⟩
  refine ⟨⟨t, v, a, u, b⟩, ⟨?_, h0', h1', h2'⟩, Nat.zero_le _⟩
  match cs, hl with
  | [c0, c1, c2], _ =>
    have e0 : [c0] = enI t := h0
    have e1 : [c1] = [v] := h1
    have e2 : [c2] = [u] := h2
    simp only [enI, List.cons.injEq, and_true] at e0 e1 e2
    show _ = [_, _, _]
    rw [e0, e1, e2]
theorem open_elem : OpT enc Tryz.prog w sp held 110 (fun H cs x => cs = enEl x ∧ okHel H x) (fun _ => 0) := by
  refine (open_structN 2 Tryz.underlying110 rfl (openFs_cons rfl (opFlat (en := enI) (ok := okI) 6 rfl fitsI1) (openFs_cons rfl open_ints openFs_nil))).map ?_
  rintro H cs ⟨t, a, _⟩ ⟨hl, ⟨h0, h0'⟩, ⟨v, h1, h1'⟩, _⟩
  refine ⟨⟨t, v, a⟩, ⟨?_, h0', h1'⟩, Nat.zero_le _⟩
  match cs, hl with
  | [c0, c1], _ =>
    have e0 : [c0] = enI t := h0
    have e1 : [c1] = [v] := h1
    simp only [enI, List.cons.injEq, and_true] at e0 e1
    show _ = [_, _]
    rw [e0, e1]
theorem open_mod : OpT enc Tryz.prog w sp held 30 (fun H cs m => cs = enMd m ∧ okHmd H m) (fun _ => 0) := by
  refine (open_structN 11 Tryz.underlying30 rfl (openFs_cons rfl (opSl 2 rfl (by decide) Tryz.underlying22 open_sig) (openFs_cons rfl (opSl 2 rfl (by decide) Tryz.underlying23 (opFlat (en := enIm) (ok := okIm) 6 rfl fitsIm)) (openFs_cons rfl (opSl 3 rfl (by decide) Tryz.underlying24 open_fun)
    (openFs_cons rfl (opFlat (en := enI) (ok := okI) 6 rfl fitsI1) (openFs_cons rfl (opFlat (en := enI) (ok := okI) 6 rfl fitsI1) (openFs_cons rfl (opFlat (en := enI) (ok := okI) 6 rfl fitsI1)
    (openFs_cons rfl (opSl 3 rfl (by decide) Tryz.underlying25 (opFlat (en := enGl) (ok := okGl) 6 rfl fitsGl)) (openFs_cons rfl (opSl 2 rfl (by decide) Tryz.underlying26 (opFlat (en := enIm) (ok := okIm) 6 rfl fitsIm)) (openFs_cons rfl (opFlat (en := enI) (ok := okI) 6 rfl fitsI1)
    (openFs_cons rfl (opSl 2 rfl (by decide) Tryz.underlying27 open_elem) (openFs_cons rfl (opSl 2 rfl (by decide) Tryz.underlying28 (opFlat (en := enDt) (ok := okDt) 6 rfl fitsDt)) openFs_nil)))))))))))).map ?_
  rintro H cs ⟨a0, a1, a2, a3, a4, a5, a6, a7, a8, a9, a10, _⟩ ⟨hl, ⟨v0, h0, k0⟩, ⟨v1, h1, k1⟩, ⟨v2, h2, k2⟩, ⟨h3, k3⟩, ⟨h4, k4⟩, ⟨h5, k5⟩, ⟨v6, h6, k6⟩, ⟨v7, h7, k7⟩, ⟨h8, k8⟩, ⟨v9, h9, k9⟩, ⟨v10, h10, k10⟩, _⟩
  refine ⟨⟨v0, a0, v1, a1, v2, a2, a3, a4, a5, v6, a6, v7, a7, a8, v9, a9, v10, a10⟩, ⟨?_, k0, k1, k2, k3, k4, k5, k6, k7, k8, k9, k10⟩, Nat.zero_le _⟩
  match cs, hl with
  | [c0, c1, c2, c3, c4, c5, c6, c7, c8, c9, c10], _ =>
    have e0 : [c0] = [v0] := h0
    have e1 : [c1] = [v1] := h1
    have e2 : [c2] = [v2] := h2
    have e3 : [c3] = enI a3 := h3
    have e4 : [c4] = enI a4 := h4
    have e5 : [c5] = enI a5 := h5
    have e6 : [c6] = [v6] := h6
    have e7 : [c7] = [v7] := h7
    have e8 : [c8] = enI a8 := h8
    have e9 : [c9] = [v9] := h9
    have e10 : [c10] = [v10] := h10
    simp only [enI, List.cons.injEq, and_true] at e0 e1 e2 e3 e4 e5 e6 e7 e8 e9 e10
    show _ = [_, _, _, _, _, _, _, _, _, _, _]
    rw [e0, e1, e2, e3, e4, e5, e6, e7, e8, e9, e10]
end
end Go.Proofs.YtndhikahjmgamaaGreatDoor.Bin
/- What the rows of a door seat share where the tables of unicode/utf8 are listed: what they give a walk, a start that meets them, and the form that asks for a bulk beside them. -/
set_option maxRecDepth 100000
namespace Go.Proofs.YtndhikahjmgamaaGreatDoor.Door
open Go Go.RowKit Go.Proofs.YtndhikahjmgamaaGreatDoor.Eng
noncomputable abbrev laid : List (String × DataW Unit) := [("unicode/utf8.acceptRanges", Rows.laid_unicode_utf8_acceptRanges), ("unicode/utf8.first", Rows.laid_unicode_utf8_first)]
theorem extra : U8Extra Tryz.prog Tryz.lays196_ren := ⟨by kernel_rfl, by kernel_rfl, by kernel_rfl, by kernel_rfl, by kernel_rfl, by kernel_rfl, by kernel_rfl⟩
theorem first_is : Rows.laid_unicode_utf8_first = Lib.firstData := by kernel_rfl
theorem accept_is : (Rows.laid_unicode_utf8_acceptRanges : DataW Unit) = Lib.acceptData := by kernel_rfl
theorem tabsAt {W : World} (h : laidMetH Tryz.prog laid W) : Lib.Utf8Tabs (Tryz.lays196_ren.g 3) (Tryz.lays196_ren.g 4) W := by
  rw [MakeChecks.laidMetH_plain _ _ _ (by kernel_rfl)] at h
  refine utf8Tabs_of_readsT (.of196 Tryz.lays196) extra (Lib.laidMet.reads h (.tail _ (.head _)) |> fun x => ?_) (Lib.laidMet.reads h (.head _) |> fun x => ?_)
  · rw [first_is] at x; exact x
  · rw [accept_is] at x; exact x
theorem cell_lt {w : World} {a : Addr} {v : Value} (h : w.cell? a = some v) : a.block < w.heap.size := by
  unfold World.cell? at h
  split at h
  · rename_i hh; exact (Array.getElem?_eq_some_iff.1 hh).1
  · cases h
theorem tabs {W : World} (h : laidMetH Tryz.prog laid W) : Leb.U8F (froz W) := by
  intro w l H
  have b := H.finish
  obtain ⟨t3, t4⟩ := tabsAt h
  refine ⟨fun c hc => ?_, fun i hi => ⟨?_, ?_⟩⟩
  · rw [b.cell (cell_lt (t3 c hc))]; exact t3 c hc
  · rw [b.cell (cell_lt (t4 i hi).1)]; exact (t4 i hi).1
  · rw [b.cell (cell_lt (t4 i hi).2)]; exact (t4 i hi).2
theorem met (os : Os) (args : Array Value) : laidMetH Tryz.prog laid ((World.laidAll Tryz.prog os laid).forCall (fun _ _ => 0) ⟨#[], args, []⟩).memory := by
  rw [MakeChecks.laidMetH_plain _ _ _ (by kernel_rfl)]; exact laidMet_laidAll _ (by kernel_rfl) (by kernel_rfl)
section
variable {H : Type} {enc : TypeId × Value → H}
theorem ret_change_and {a : Assume} {C : Checked} {os : Os} {f : FuncId} {fn : Func} {s : ChangeSpec} {conds : List PathCond} {apart fresh handsOn again : Bool} {X : World → Array Value → Prop}
    (hX : ∀ (w w' : World) (args : Array Value), w.heap = w'.heap → X w args → X w' args)
    (own : ownKnob C.prog.godebug = none) (started : os.Started) (noInit : C.prog.inits.idxOf? f = none) (hfn : C.prog.funcs[f]? = some fn)
    (witness : ∃ (w : World) (tape : Tape) (i : Input), w.os = os ∧ (w.forCall tape i).Shaped C.prog ∧ i.vars = [] ∧ Input.okWide C.prog (w.forCall tape i) .any w.heap.size f i ∧
      ((s.pre enc C.prog fn conds apart (w.forCall tape i).memory i.args ∧ X (w.forCall tape i).memory i.args) ∧ sizedMet enc C.prog fn (OpenSpec.ofChange s) apart (w.forCall tape i).memory i.args) ∧ a.holds C.prog (lone (Frame.enter C.prog f i.args .normal) [] (w.forCall tape i)))
    (contract : ∀ (W : World) (base : Nat) (args : Array Value) (ds gs : List (DataW H)) (before : List MemPlace),
      (∀ (j : Nat) t v, fn.params[j]? = some t → args[j]? = some v → Value.okWide C.prog W .any base t v) →
      DataW.Whole enc C.prog fn.params.toList s.vars apart W args.toList ds gs before →
      conds.all (PathCond.test C.prog ⟨fn.params.toList, ds, s.plain.varTypes C.prog, gs⟩) = true →
      (DataW.weightsEach C.prog (fn.params.toList ++ s.plain.varTypes C.prog) (ds ++ gs)).all (· ≤ reachBytes) = true → X W args → W.ShapedOpen C.prog →
      a.holds C.prog (lone (Frame.enter C.prog f args .normal) [] W) →
      Calls C.prog f args W fun e W' => ∃ v, e = .returned v ∧ s.post enc C.prog fn apart fresh handsOn again W args v W') :
    ReturnsInHanded a C os f .any (fun w args => (s.pre enc C.prog fn conds apart w args ∧ X w args) ∧ sizedMet enc C.prog fn (OpenSpec.ofChange s) apart w args) (s.post enc C.prog fn apart fresh handsOn again) := by
  refine returnsInHanded_of_calls own started noInit witness ?_
  intro w tape i _ hsh _ hok hpre hholds
  obtain ⟨_, _, _, fn', hfn', _, _, _, _, hval⟩ := hok
  have e : fn' = fn := Option.some.inj (hfn'.symm.trans hfn)
  subst e
  obtain ⟨⟨⟨ds, gs, before, hw, hc⟩, hx⟩, hz⟩ := hpre
  have hw' := DataW.Whole.of_heap (w' := w.forCall tape i) (by rfl) hw
  refine (contract (w.forCall tape i) w.heap.size i.args ds gs before hval hw' hc (hz.weights hw) (hX _ _ _ (by rfl) hx) hsh hholds).mono fun e W' ⟨v, he, hp⟩ => ?_
  subst he
  exact ChangeSpec.post_blind hp
end
end Go.Proofs.YtndhikahjmgamaaGreatDoor.Door
