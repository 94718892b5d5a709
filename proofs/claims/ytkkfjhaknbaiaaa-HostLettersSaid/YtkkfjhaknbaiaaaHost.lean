/- Package host: kindOf, Sig, send, Read, Tell for a sent letter. -/
import Derived.Test.YtkkfjhaknbaiaaaBase
set_option maxRecDepth 100000
set_option maxHeartbeats 4000000
set_option linter.unusedVariables false
set_option linter.unusedSimpArgs false
namespace Go.Proofs.Ytkkfjhaknbaiaaa.Host
open Go Go.Proofs.Ytkkfjhaknbaiaaa.Eng Go.RowKit
def okN (a b : Int) : Prop := 0 ≤ a ∧ a ≤ 2 ∧ 1 ≤ b ∧ b ≤ 16
def numP (a b : Int) : Int := 256 * a + b
theorem number (a b : Int) (h : okN a b) (w : World) : Fc Try.prog 16 #[.agg #[.int .i64 a, .int .i64 b]] w (fun v w' => v = .int .i64 (numP a b) ∧ Sat (froz w) w' []) := by
  refine Fc.of Try.func16 rfl (by kernel_rfl) ?_
  have H := Sat.start w
  obtain ⟨h1, h2, h3, h4⟩ := h
  obtain ⟨c, rfl⟩ := Int.eq_ofNat_of_zero_le h1
  obtain ⟨d, rfl⟩ := Int.eq_ofNat_of_zero_le (show (0 : Int) ≤ b by omega)
  refine rBoxS H ?_
  clear H
  intro p1 w1 H
  refine rFieldAt rfl ?_
  refine rLd (H.at 0 rfl) 0 rfl rfl rfl ?_
  refine eqAndMask 8 256 rfl rfl (by decide) ?_
  refine ShiftP.mk (by decide) ?_
  refine eqShlI64 8 256 rfl rfl (by decide) (by omega) (by omega) ?_
  refine rFieldAt rfl ?_
  refine rLd (H.at 0 rfl) 1 rfl rfl rfl ?_
  refine eqAndMask 8 256 rfl rfl (by decide) ?_
  refine eqOrAddI64 8 256 rfl (by omega) (by omega) (by omega) (by omega) ?_
  refine Done.mk ?_
  refine ⟨?_, ?_⟩
  · refine int_eq ?_
    (unfold numP; omega)
  refine H.firsts 0 ?_
  clear H
  intro H
  exact H
theorem pid (a b : Int) (h : okN a b) (w : World) : Fc Try.prog 15 #[.int .i64 (numP a b)] w (fun v w' => v = .tuple #[.agg #[.int .i64 a, .int .i64 b], .bool true] ∧ Sat (froz w) w' []) := by
  refine Fc.of Try.func15 rfl (by kernel_rfl) ?_
  have H := Sat.start w
  obtain ⟨h1, h2, h3, h4⟩ := h
  obtain ⟨c, rfl⟩ := Int.eq_ofNat_of_zero_le h1
  obtain ⟨d, rfl⟩ := Int.eq_ofNat_of_zero_le (show (0 : Int) ≤ b by omega)
  obtain ⟨n, hn⟩ : ∃ n : Nat, n = 256 * c + d := ⟨_, rfl⟩
  rw [show numP (c : Int) (d : Int) = (n : Int) by unfold numP; omega]
  refine rAllocS H rfl ?_
  clear H
  intro p1 w1 H
  refine rConvU32 (by omega) rfl rfl ?_
  refine ShiftP.mk (by decide) ?_
  refine eqShrL 8 256 rfl rfl (by decide) ?_
  refine rConvI64 (by omega) rfl rfl ?_
  refine eqAndMask 8 256 rfl rfl (by decide) ?_
  refine rConvI64 (by omega) rfl rfl ?_
  refine rBuild rfl rfl rfl ?_
  refine rAllocS H rfl ?_
  clear H
  intro p2 w2 H
  clear w1
  refine rStAS H 0 rfl rfl rfl rfl ?_
  clear H
  intro w1 H
  clear w2
  refine rFieldAt rfl ?_
  refine rLd (H.at 0 rfl) 0 rfl rfl rfl ?_
  refine br_f (vLe_F (by omega)) ?_
  refine rFieldAt rfl ?_
  refine rLd (H.at 0 rfl) 1 rfl rfl rfl ?_
  refine br_f (vLt_F (by omega)) ?_
  refine rFieldAt rfl ?_
  refine rLd (H.at 0 rfl) 1 rfl rfl rfl ?_
  refine cF (vLt_F (by omega)) ?_
  refine rLdA (H.at 0 rfl) 0 rfl rfl rfl ?_
  refine rStAS H 1 rfl rfl rfl rfl ?_
  clear H
  intro w2 H
  clear w1
  refine rdAN (H.at 1 rfl) 0 rfl rfl rfl ?_
  refine Done.mk ?_
  refine ⟨?_, ?_⟩
  · (simp; omega)
  refine H.firsts 0 ?_
  clear H
  intro H
  exact H
theorem kindOf (w : World) : Fc Try.prog 54 #[.string (bs [115, 101, 110, 100])] w (fun v w' => v = .int .i64 2 ∧ Sat (froz w) w' []) := by
  refine Fc.of Try.func54 rfl (by kernel_rfl) ?_
  have H := Sat.start w
  refine bk ?_
  refine rStrEq ?_
  refine cF (dec_F (by decide)) ?_
  refine rStrEq ?_
  refine cT (dec_T (by decide)) ?_
  refine Done.mk ?_
  exact ⟨rfl, H⟩
def enK (n : Int) : List Value := [.int .u8 n]
def ks4 : List Int := [127, 127, 127, 127]
theorem sig (w : World) : Fc Try.prog 52 #[.string (bs [115, 101, 110, 100])] w (fun v w' => ∃ p q, v = .tuple #[.agg #[.slice (some ⟨p, 0, none⟩) 4 4, .slice (some ⟨q, 0, none⟩) 1 1], .bool true] ∧ Sat (froz w) w' [Sl 114 1 enK (.slice (some ⟨p, 0, none⟩) 4 4) ks4, Sl 114 1 enK (.slice (some ⟨q, 0, none⟩) 1 1) [127]]) := by
  refine Fc.of Try.func52 rfl (by kernel_rfl) ?_
  have H := Sat.start w
  refine rAllocS H rfl ?_
  clear H
  intro p1 w1 H
  refine rBuildSliceS H rfl rfl rfl rfl ?_
  clear H
  intro p2 w2 H
  clear w1
  refine rBuildSliceS H rfl rfl rfl rfl ?_
  clear H
  intro p3 w1 H
  clear w2
  refine CallP.mk (Fc.imp (Go.Proofs.Ytkkfjhaknbaiaaa.Host.kindOf _) ?_)
  rintro _ w2 ⟨rfl, H'⟩
  refine H.mergeK H' ?_
  clear H H'
  intro H
  refine bk ?_
  refine cF (vEq_F (by decide)) ?_
  refine cF (vEq_F (by decide)) ?_
  refine cT (vEq_T (by decide)) ?_
  refine rBuildSliceS H rfl rfl rfl rfl ?_
  clear H
  intro p4 w3 H
  clear w2
  refine rBuild rfl rfl rfl ?_
  refine rStAS H 3 rfl rfl rfl rfl ?_
  clear H
  intro w2 H
  clear w3
  refine rdAN (H.at 3 rfl) 0 rfl rfl rfl ?_
  refine Done.mk ?_
  refine ⟨p4, p2, ?_⟩
  refine ⟨?_, ?_⟩
  · rfl
  (refine H.ptSl (n := 4) (en := enK) (s := 1) 0 rfl [_, _, _, _] rfl rfl (fun _ => rfl) rfl ?_; intro H; refine H.ptSl (n := 1) (en := enK) (s := 1) 2 rfl [_] rfl rfl (fun _ => rfl) rfl ?_; intro H; exact (H.del 3).del 1)
theorem fit (c x : Int) (hc : c = 127) (w : World) : Fc Try.prog 53 #[.int .u8 c, .int .i64 x] w (fun v w' => v = .int .i64 (vWrap .i32 x) ∧ Sat (froz w) w' []) := by
  subst hc
  refine Fc.of Try.func53 rfl (by kernel_rfl) ?_
  have H := Sat.start w
  refine cT (vEq_T (by omega)) ?_
  refine rConvInt rfl rfl ?_
  refine rConvInt rfl rfl ?_
  refine Done.mk ?_
  refine ⟨?_, ?_⟩
  · refine int_eq ?_
    (have := vWrap_range .i32 x; rw [show IntKind.min .i32 = -2147483648 from rfl, show IntKind.max .i32 = 2147483647 from rfl] at this; exact wi64 (by omega))
  exact H
end Go.Proofs.Ytkkfjhaknbaiaaa.Host
