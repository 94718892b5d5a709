/- Texts of this claim, one behind the other. -/
import Derived.Test.YtcpniokopahakaaDoorM3
import Derived.Test.YtcpniokopahakaaDoorM1
/- Package num: Two and what it calls, by the walker. -/
set_option maxRecDepth 100000
set_option maxHeartbeats 4000000
set_option linter.unusedVariables false
set_option linter.unusedSimpArgs false
namespace Go.Proofs.YtcpniokopahakaaDoor.Num
open Go Go.Proofs.YtcpniokopahakaaDoor.Eng Go.RowKit
theorem vEq_c {a b : Int} : vEq a b = decide (a = b) := vEq_iff
theorem vQuo_w (k : IntKind) (x y : Int) : vQuo k x y = vWrap k (x.tdiv y) := by unfold vQuo vWrap; rfl
theorem quo64 (a b : Int) : -9223372036854775808 ≤ vQuo .i64 a b ∧ vQuo .i64 a b ≤ 9223372036854775807 := by
  rw [vQuo_w]; have := vWrap_range .i64 (a.tdiv b)
  rw [show IntKind.min .i64 = -9223372036854775808 from rfl, show IntKind.max .i64 = 9223372036854775807 from rfl] at this
  exact this
theorem quo32 (a b : Int) : -9223372036854775808 ≤ vQuo .i32 a b ∧ vQuo .i32 a b ≤ 9223372036854775807 := by
  rw [vQuo_w]; have := vWrap_range .i32 (a.tdiv b)
  rw [show IntKind.min .i32 = -2147483648 from rfl, show IntKind.max .i32 = 2147483647 from rfl] at this
  omega
theorem rem64 {a b : Int} (ha : -9223372036854775808 ≤ a ∧ a ≤ 9223372036854775807) : -9223372036854775808 ≤ vRem a b ∧ vRem a b ≤ 9223372036854775807 := by
  unfold vRem
  have h : (a.tmod b).natAbs ≤ a.natAbs := by rw [Int.natAbs_tmod]; exact Nat.mod_le _ _
  by_cases hp : 0 ≤ a
  · have := Int.tmod_nonneg b hp; omega
  · have h2 : 0 ≤ (-a).tmod b := Int.tmod_nonneg b (by omega)
    rw [Int.neg_tmod] at h2
    omega
section
variable {g : Glob} {w : World} {l : List As}
theorem truthX (H : Sat g w l) (b : Bool) : Fc Tryd.prog 189 #[.bool b] w (fun v w' => ∃ r, v = .int .i64 r ∧ r = b2i b ∧ Sat g w' l) := by
  refine Fc.of Tryd.func189 rfl (by kernel_rfl) ?_
  refine cI (fun c1 => ?_) (fun c1 => ?_)
  · refine Done.mk ?_
    refine ⟨1, ?_⟩
    refine ⟨?_, ?_⟩
    · (subst_vars; rfl)
    refine ⟨?_, ?_⟩
    · (subst_vars; rfl)
    exact H
  refine Done.mk ?_
  refine ⟨0, ?_⟩
  refine ⟨?_, ?_⟩
  · (subst_vars; rfl)
  refine ⟨?_, ?_⟩
  · (subst_vars; rfl)
  exact H
theorem cmp32X (H : Sat g w l) (k a b c d : Int) : Fc Tryd.prog 197 #[.int .u8 k, .int .i32 a, .int .i32 b, .int .u32 c, .int .u32 d] w (fun v w' => ∃ r, v = .int .i64 r ∧ r = cmpS k a b c d ∧ Sat g w' l) := by
  refine Fc.of Tryd.func197 rfl (by kernel_rfl) ?_
  refine bk ?_
  refine cI (fun c1 => ?_) (fun c1 => ?_)
  · replace c1 := vEq_t (c1)
    refine CallP.mk (Fc.imp (Go.Proofs.YtcpniokopahakaaDoor.Num.truthX H _) ?_)
    clear H
    rintro _ w1 ⟨r1, ⟨rfl, ⟨h1, H⟩⟩⟩
    refine Done.mk ?_
    refine ⟨r1, ?_⟩
    refine ⟨?_, ?_⟩
    · refine int_eq ?_
      omega
    refine ⟨?_, ?_⟩
    · (subst_vars; unfold cmpS; (repeat first | rw [if_pos (by omega)] | rw [if_neg (by omega)]); (try simp only [vEq_iff, vNe_iff, vLt_iff, vLe_iff]); (try rfl))
    exact H
  replace c1 := vEq_f (c1)
  refine cI (fun c2 => ?_) (fun c2 => ?_)
  · replace c2 := vEq_t (c2)
    refine CallP.mk (Fc.imp (Go.Proofs.YtcpniokopahakaaDoor.Num.truthX H _) ?_)
    clear H
    rintro _ w1 ⟨r1, ⟨rfl, ⟨h1, H⟩⟩⟩
    refine Done.mk ?_
    refine ⟨r1, ?_⟩
    refine ⟨?_, ?_⟩
    · refine int_eq ?_
      omega
    refine ⟨?_, ?_⟩
    · (subst_vars; unfold cmpS; (repeat first | rw [if_pos (by omega)] | rw [if_neg (by omega)]); (try simp only [vEq_iff, vNe_iff, vLt_iff, vLe_iff]); (try rfl))
    exact H
  replace c2 := vEq_f (c2)
  refine cI (fun c3 => ?_) (fun c3 => ?_)
  · replace c3 := vEq_t (c3)
    refine CallP.mk (Fc.imp (Go.Proofs.YtcpniokopahakaaDoor.Num.truthX H _) ?_)
    clear H
    rintro _ w1 ⟨r1, ⟨rfl, ⟨h1, H⟩⟩⟩
    refine Done.mk ?_
    refine ⟨r1, ?_⟩
    refine ⟨?_, ?_⟩
    · refine int_eq ?_
      omega
    refine ⟨?_, ?_⟩
    · (subst_vars; unfold cmpS; (repeat first | rw [if_pos (by omega)] | rw [if_neg (by omega)]); (try simp only [vEq_iff, vNe_iff, vLt_iff, vLe_iff]); (try rfl))
    exact H
  replace c3 := vEq_f (c3)
  refine cI (fun c4 => ?_) (fun c4 => ?_)
  · replace c4 := vEq_t (c4)
    refine CallP.mk (Fc.imp (Go.Proofs.YtcpniokopahakaaDoor.Num.truthX H _) ?_)
    clear H
    rintro _ w1 ⟨r1, ⟨rfl, ⟨h1, H⟩⟩⟩
    refine Done.mk ?_
    refine ⟨r1, ?_⟩
    refine ⟨?_, ?_⟩
    · refine int_eq ?_
      omega
    refine ⟨?_, ?_⟩
    · (subst_vars; unfold cmpS; (repeat first | rw [if_pos (by omega)] | rw [if_neg (by omega)]); (try simp only [vEq_iff, vNe_iff, vLt_iff, vLe_iff]); (try rfl))
    exact H
  replace c4 := vEq_f (c4)
  refine cI (fun c5 => ?_) (fun c5 => ?_)
  · replace c5 := vEq_t (c5)
    refine CallP.mk (Fc.imp (Go.Proofs.YtcpniokopahakaaDoor.Num.truthX H _) ?_)
    clear H
    rintro _ w1 ⟨r1, ⟨rfl, ⟨h1, H⟩⟩⟩
    refine Done.mk ?_
    refine ⟨r1, ?_⟩
    refine ⟨?_, ?_⟩
    · refine int_eq ?_
      omega
    refine ⟨?_, ?_⟩
    · (subst_vars; unfold cmpS; (repeat first | rw [if_pos (by omega)] | rw [if_neg (by omega)]); (try simp only [vEq_iff, vNe_iff, vLt_iff, vLe_iff]); (try rfl))
    exact H
  replace c5 := vEq_f (c5)
  refine cI (fun c6 => ?_) (fun c6 => ?_)
  · replace c6 := vEq_t (c6)
    refine CallP.mk (Fc.imp (Go.Proofs.YtcpniokopahakaaDoor.Num.truthX H _) ?_)
    clear H
    rintro _ w1 ⟨r1, ⟨rfl, ⟨h1, H⟩⟩⟩
    refine Done.mk ?_
    refine ⟨r1, ?_⟩
    refine ⟨?_, ?_⟩
    · refine int_eq ?_
      omega
    refine ⟨?_, ?_⟩
    · (subst_vars; unfold cmpS; (repeat first | rw [if_pos (by omega)] | rw [if_neg (by omega)]); (try simp only [vEq_iff, vNe_iff, vLt_iff, vLe_iff]); (try rfl))
    exact H
  replace c6 := vEq_f (c6)
  refine cI (fun c7 => ?_) (fun c7 => ?_)
  · replace c7 := vEq_t (c7)
    refine CallP.mk (Fc.imp (Go.Proofs.YtcpniokopahakaaDoor.Num.truthX H _) ?_)
    clear H
    rintro _ w1 ⟨r1, ⟨rfl, ⟨h1, H⟩⟩⟩
    refine Done.mk ?_
    refine ⟨r1, ?_⟩
    refine ⟨?_, ?_⟩
    · refine int_eq ?_
      omega
    refine ⟨?_, ?_⟩
    · (subst_vars; unfold cmpS; (repeat first | rw [if_pos (by omega)] | rw [if_neg (by omega)]); (try simp only [vEq_iff, vNe_iff, vLt_iff, vLe_iff]); (try rfl))
    exact H
  replace c7 := vEq_f (c7)
  refine cI (fun c8 => ?_) (fun c8 => ?_)
  · replace c8 := vEq_t (c8)
    refine CallP.mk (Fc.imp (Go.Proofs.YtcpniokopahakaaDoor.Num.truthX H _) ?_)
    clear H
    rintro _ w1 ⟨r1, ⟨rfl, ⟨h1, H⟩⟩⟩
    refine Done.mk ?_
    refine ⟨r1, ?_⟩
    refine ⟨?_, ?_⟩
    · refine int_eq ?_
      omega
    refine ⟨?_, ?_⟩
    · (subst_vars; unfold cmpS; (repeat first | rw [if_pos (by omega)] | rw [if_neg (by omega)]); (try simp only [vEq_iff, vNe_iff, vLt_iff, vLe_iff]); (try rfl))
    exact H
  replace c8 := vEq_f (c8)
  refine cI (fun c9 => ?_) (fun c9 => ?_)
  · replace c9 := vEq_t (c9)
    refine CallP.mk (Fc.imp (Go.Proofs.YtcpniokopahakaaDoor.Num.truthX H _) ?_)
    clear H
    rintro _ w1 ⟨r1, ⟨rfl, ⟨h1, H⟩⟩⟩
    refine Done.mk ?_
    refine ⟨r1, ?_⟩
    refine ⟨?_, ?_⟩
    · refine int_eq ?_
      omega
    refine ⟨?_, ?_⟩
    · (subst_vars; unfold cmpS; (repeat first | rw [if_pos (by omega)] | rw [if_neg (by omega)]); (try simp only [vEq_iff, vNe_iff, vLt_iff, vLe_iff]); (try rfl))
    exact H
  replace c9 := vEq_f (c9)
  refine CallP.mk (Fc.imp (Go.Proofs.YtcpniokopahakaaDoor.Num.truthX H _) ?_)
  clear H
  rintro _ w1 ⟨r1, ⟨rfl, ⟨h1, H⟩⟩⟩
  refine Done.mk ?_
  refine ⟨r1, ?_⟩
  refine ⟨?_, ?_⟩
  · refine int_eq ?_
    omega
  refine ⟨?_, ?_⟩
  · (subst_vars; unfold cmpS; (repeat first | rw [if_pos (by omega)] | rw [if_neg (by omega)]); (try simp only [vEq_iff, vNe_iff, vLt_iff, vLe_iff]); (try rfl))
  exact H
theorem cmp64X (H : Sat g w l) (k a b c d : Int) : Fc Tryd.prog 198 #[.int .u8 k, .int .i64 a, .int .i64 b, .int .u64 c, .int .u64 d] w (fun v w' => ∃ r, v = .int .i64 r ∧ r = cmpS k a b c d ∧ Sat g w' l) := by
  refine Fc.of Tryd.func198 rfl (by kernel_rfl) ?_
  refine bk ?_
  refine cI (fun c1 => ?_) (fun c1 => ?_)
  · replace c1 := vEq_t (c1)
    refine CallP.mk (Fc.imp (Go.Proofs.YtcpniokopahakaaDoor.Num.truthX H _) ?_)
    clear H
    rintro _ w1 ⟨r1, ⟨rfl, ⟨h1, H⟩⟩⟩
    refine Done.mk ?_
    refine ⟨r1, ?_⟩
    refine ⟨?_, ?_⟩
    · refine int_eq ?_
      omega
    refine ⟨?_, ?_⟩
    · (subst_vars; unfold cmpS; (repeat first | rw [if_pos (by omega)] | rw [if_neg (by omega)]); (try simp only [vEq_iff, vNe_iff, vLt_iff, vLe_iff]); (try rfl))
    exact H
  replace c1 := vEq_f (c1)
  refine cI (fun c2 => ?_) (fun c2 => ?_)
  · replace c2 := vEq_t (c2)
    refine CallP.mk (Fc.imp (Go.Proofs.YtcpniokopahakaaDoor.Num.truthX H _) ?_)
    clear H
    rintro _ w1 ⟨r1, ⟨rfl, ⟨h1, H⟩⟩⟩
    refine Done.mk ?_
    refine ⟨r1, ?_⟩
    refine ⟨?_, ?_⟩
    · refine int_eq ?_
      omega
    refine ⟨?_, ?_⟩
    · (subst_vars; unfold cmpS; (repeat first | rw [if_pos (by omega)] | rw [if_neg (by omega)]); (try simp only [vEq_iff, vNe_iff, vLt_iff, vLe_iff]); (try rfl))
    exact H
  replace c2 := vEq_f (c2)
  refine cI (fun c3 => ?_) (fun c3 => ?_)
  · replace c3 := vEq_t (c3)
    refine CallP.mk (Fc.imp (Go.Proofs.YtcpniokopahakaaDoor.Num.truthX H _) ?_)
    clear H
    rintro _ w1 ⟨r1, ⟨rfl, ⟨h1, H⟩⟩⟩
    refine Done.mk ?_
    refine ⟨r1, ?_⟩
    refine ⟨?_, ?_⟩
    · refine int_eq ?_
      omega
    refine ⟨?_, ?_⟩
    · (subst_vars; unfold cmpS; (repeat first | rw [if_pos (by omega)] | rw [if_neg (by omega)]); (try simp only [vEq_iff, vNe_iff, vLt_iff, vLe_iff]); (try rfl))
    exact H
  replace c3 := vEq_f (c3)
  refine cI (fun c4 => ?_) (fun c4 => ?_)
  · replace c4 := vEq_t (c4)
    refine CallP.mk (Fc.imp (Go.Proofs.YtcpniokopahakaaDoor.Num.truthX H _) ?_)
    clear H
    rintro _ w1 ⟨r1, ⟨rfl, ⟨h1, H⟩⟩⟩
    refine Done.mk ?_
    refine ⟨r1, ?_⟩
    refine ⟨?_, ?_⟩
    · refine int_eq ?_
      omega
    refine ⟨?_, ?_⟩
    · (subst_vars; unfold cmpS; (repeat first | rw [if_pos (by omega)] | rw [if_neg (by omega)]); (try simp only [vEq_iff, vNe_iff, vLt_iff, vLe_iff]); (try rfl))
    exact H
  replace c4 := vEq_f (c4)
  refine cI (fun c5 => ?_) (fun c5 => ?_)
  · replace c5 := vEq_t (c5)
    refine CallP.mk (Fc.imp (Go.Proofs.YtcpniokopahakaaDoor.Num.truthX H _) ?_)
    clear H
    rintro _ w1 ⟨r1, ⟨rfl, ⟨h1, H⟩⟩⟩
    refine Done.mk ?_
    refine ⟨r1, ?_⟩
    refine ⟨?_, ?_⟩
    · refine int_eq ?_
      omega
    refine ⟨?_, ?_⟩
    · (subst_vars; unfold cmpS; (repeat first | rw [if_pos (by omega)] | rw [if_neg (by omega)]); (try simp only [vEq_iff, vNe_iff, vLt_iff, vLe_iff]); (try rfl))
    exact H
  replace c5 := vEq_f (c5)
  refine cI (fun c6 => ?_) (fun c6 => ?_)
  · replace c6 := vEq_t (c6)
    refine CallP.mk (Fc.imp (Go.Proofs.YtcpniokopahakaaDoor.Num.truthX H _) ?_)
    clear H
    rintro _ w1 ⟨r1, ⟨rfl, ⟨h1, H⟩⟩⟩
    refine Done.mk ?_
    refine ⟨r1, ?_⟩
    refine ⟨?_, ?_⟩
    · refine int_eq ?_
      omega
    refine ⟨?_, ?_⟩
    · (subst_vars; unfold cmpS; (repeat first | rw [if_pos (by omega)] | rw [if_neg (by omega)]); (try simp only [vEq_iff, vNe_iff, vLt_iff, vLe_iff]); (try rfl))
    exact H
  replace c6 := vEq_f (c6)
  refine cI (fun c7 => ?_) (fun c7 => ?_)
  · replace c7 := vEq_t (c7)
    refine CallP.mk (Fc.imp (Go.Proofs.YtcpniokopahakaaDoor.Num.truthX H _) ?_)
    clear H
    rintro _ w1 ⟨r1, ⟨rfl, ⟨h1, H⟩⟩⟩
    refine Done.mk ?_
    refine ⟨r1, ?_⟩
    refine ⟨?_, ?_⟩
    · refine int_eq ?_
      omega
    refine ⟨?_, ?_⟩
    · (subst_vars; unfold cmpS; (repeat first | rw [if_pos (by omega)] | rw [if_neg (by omega)]); (try simp only [vEq_iff, vNe_iff, vLt_iff, vLe_iff]); (try rfl))
    exact H
  replace c7 := vEq_f (c7)
  refine cI (fun c8 => ?_) (fun c8 => ?_)
  · replace c8 := vEq_t (c8)
    refine CallP.mk (Fc.imp (Go.Proofs.YtcpniokopahakaaDoor.Num.truthX H _) ?_)
    clear H
    rintro _ w1 ⟨r1, ⟨rfl, ⟨h1, H⟩⟩⟩
    refine Done.mk ?_
    refine ⟨r1, ?_⟩
    refine ⟨?_, ?_⟩
    · refine int_eq ?_
      omega
    refine ⟨?_, ?_⟩
    · (subst_vars; unfold cmpS; (repeat first | rw [if_pos (by omega)] | rw [if_neg (by omega)]); (try simp only [vEq_iff, vNe_iff, vLt_iff, vLe_iff]); (try rfl))
    exact H
  replace c8 := vEq_f (c8)
  refine cI (fun c9 => ?_) (fun c9 => ?_)
  · replace c9 := vEq_t (c9)
    refine CallP.mk (Fc.imp (Go.Proofs.YtcpniokopahakaaDoor.Num.truthX H _) ?_)
    clear H
    rintro _ w1 ⟨r1, ⟨rfl, ⟨h1, H⟩⟩⟩
    refine Done.mk ?_
    refine ⟨r1, ?_⟩
    refine ⟨?_, ?_⟩
    · refine int_eq ?_
      omega
    refine ⟨?_, ?_⟩
    · (subst_vars; unfold cmpS; (repeat first | rw [if_pos (by omega)] | rw [if_neg (by omega)]); (try simp only [vEq_iff, vNe_iff, vLt_iff, vLe_iff]); (try rfl))
    exact H
  replace c9 := vEq_f (c9)
  refine CallP.mk (Fc.imp (Go.Proofs.YtcpniokopahakaaDoor.Num.truthX H _) ?_)
  clear H
  rintro _ w1 ⟨r1, ⟨rfl, ⟨h1, H⟩⟩⟩
  refine Done.mk ?_
  refine ⟨r1, ?_⟩
  refine ⟨?_, ?_⟩
  · refine int_eq ?_
    omega
  refine ⟨?_, ?_⟩
  · (subst_vars; unfold cmpS; (repeat first | rw [if_pos (by omega)] | rw [if_neg (by omega)]); (try simp only [vEq_iff, vNe_iff, vLt_iff, vLe_iff]); (try rfl))
  exact H
theorem div32X (H : Sat g w l) (k a b c d : Int) (ha : -2147483648 ≤ a ∧ a ≤ 2147483647) (hb : -2147483648 ≤ b ∧ b ≤ 2147483647) (hd : d = vWrap .u32 b) : Fc Tryd.prog 199 #[.int .u8 k, .int .i32 a, .int .i32 b, .int .u32 c, .int .u32 d] w (fun v w' => ∃ q e, v = .tuple #[.int .i64 q, .int .i64 e] ∧ (q, e) = divS .i32 k a b c d ∧ Sat g w' l) := by
  have hz : b ≠ 0 → d ≠ 0 := fun h => by rw [hd]; exact wz32 hb h
  refine Fc.of Tryd.func199 rfl (by kernel_rfl) ?_
  refine cI (fun c1 => ?_) (fun c1 => ?_)
  · replace c1 := vEq_t (c1)
    refine Done.mk ?_
    refine ⟨0, 21, ?_⟩
    refine ⟨?_, ?_⟩
    · rfl
    refine ⟨?_, ?_⟩
    · (unfold divS; (repeat first | rw [if_pos (by first | omega | exact ⟨by assumption, by assumption, by assumption⟩)] | rw [if_neg (by first | omega | exact fun k => absurd k.2.2 (by assumption))]))
    exact H
  replace c1 := vEq_f (c1)
  refine bk ?_
  refine cI (fun c2 => ?_) (fun c2 => ?_)
  · replace c2 := vEq_t (c2)
    refine br (fun c3 => ?_) (fun c3 => ?_)
    · replace c3 := vEq_t (c3)
      refine br (fun c4 => ?_) (fun c4 => ?_)
      · replace c4 := vNe_t (c4)
        refine EqP.keep ?_
        refine cI (fun c5 => ?_) (fun c5 => ?_)
        · replace c5 := vEq_t (c5)
          refine Done.mk ?_
          refine ⟨0, 22, ?_⟩
          refine ⟨?_, ?_⟩
          · rfl
          refine ⟨?_, ?_⟩
          · (unfold divS; (repeat first | rw [if_pos (by first | omega | exact ⟨by assumption, by assumption, by assumption⟩)] | rw [if_neg (by first | omega | exact fun k => absurd k.2.2 (by assumption))]))
          exact H
        replace c5 := vEq_f (c5)
        refine DivP.mk (by omega) ?_
        refine EqP.keep ?_
        refine rConvInt rfl rfl ?_
        refine Done.mk ?_
        refine ⟨vWrap IntKind.i64 (vQuo IntKind.i32 a b), 0, ?_⟩
        refine ⟨?_, ?_⟩
        · rfl
        refine ⟨?_, ?_⟩
        · (unfold divS; (repeat first | rw [if_pos (by first | omega | exact ⟨by assumption, by assumption, by assumption⟩)] | rw [if_neg (by first | omega | exact fun k => absurd k.2.2 (by assumption))]))
        exact H
      replace c4 := vNe_f (c4)
      refine cF rfl ?_
      refine DivP.mk (by omega) ?_
      refine EqP.keep ?_
      refine rConvInt rfl rfl ?_
      refine Done.mk ?_
      refine ⟨vWrap IntKind.i64 (vQuo IntKind.i32 a b), 0, ?_⟩
      refine ⟨?_, ?_⟩
      · rfl
      refine ⟨?_, ?_⟩
      · (unfold divS; (repeat first | rw [if_pos (by first | omega | exact ⟨by assumption, by assumption, by assumption⟩)] | rw [if_neg (by first | omega | exact fun k => absurd k.2.2 (by assumption))]))
      exact H
    replace c3 := vEq_f (c3)
    refine cF rfl ?_
    refine DivP.mk (by omega) ?_
    refine EqP.keep ?_
    refine rConvInt rfl rfl ?_
    refine Done.mk ?_
    refine ⟨vWrap IntKind.i64 (vQuo IntKind.i32 a b), 0, ?_⟩
    refine ⟨?_, ?_⟩
    · rfl
    refine ⟨?_, ?_⟩
    · (unfold divS; (repeat first | rw [if_pos (by first | omega | exact ⟨by assumption, by assumption, by assumption⟩)] | rw [if_neg (by first | omega | exact fun k => absurd k.2.2 (by assumption))]))
    exact H
  replace c2 := vEq_f (c2)
  refine cI (fun c3 => ?_) (fun c3 => ?_)
  · replace c3 := vEq_t (c3)
    refine DivP.mk (by omega) ?_
    refine EqP.keep ?_
    refine rConvInt rfl rfl ?_
    refine Done.mk ?_
    refine ⟨vWrap IntKind.i64 (vQuo IntKind.u32 c d), 0, ?_⟩
    refine ⟨?_, ?_⟩
    · rfl
    refine ⟨?_, ?_⟩
    · (unfold divS; (repeat first | rw [if_pos (by first | omega | exact ⟨by assumption, by assumption, by assumption⟩)] | rw [if_neg (by first | omega | exact fun k => absurd k.2.2 (by assumption))]))
      rfl
    exact H
  replace c3 := vEq_f (c3)
  refine cI (fun c4 => ?_) (fun c4 => ?_)
  · replace c4 := vEq_t (c4)
    refine cI (fun c5 => ?_) (fun c5 => ?_)
    · replace c5 := vEq_t (c5)
      refine Done.mk ?_
      refine ⟨0, 0, ?_⟩
      refine ⟨?_, ?_⟩
      · rfl
      refine ⟨?_, ?_⟩
      · (unfold divS; (repeat first | rw [if_pos (by first | omega | exact ⟨by assumption, by assumption, by assumption⟩)] | rw [if_neg (by first | omega | exact fun k => absurd k.2.2 (by assumption))]))
      exact H
    replace c5 := vEq_f (c5)
    refine DivP.mk (by omega) ?_
    refine EqP.keep ?_
    refine rConvInt rfl rfl ?_
    refine Done.mk ?_
    refine ⟨vWrap IntKind.i64 (vRem a b), 0, ?_⟩
    refine ⟨?_, ?_⟩
    · rfl
    refine ⟨?_, ?_⟩
    · (unfold divS; (repeat first | rw [if_pos (by first | omega | exact ⟨by assumption, by assumption, by assumption⟩)] | rw [if_neg (by first | omega | exact fun k => absurd k.2.2 (by assumption))]))
    exact H
  replace c4 := vEq_f (c4)
  refine DivP.mk (by omega) ?_
  refine EqP.keep ?_
  refine rConvInt rfl rfl ?_
  refine Done.mk ?_
  refine ⟨vWrap IntKind.i64 (vRem c d), 0, ?_⟩
  refine ⟨?_, ?_⟩
  · rfl
  refine ⟨?_, ?_⟩
  · (unfold divS; (repeat first | rw [if_pos (by first | omega | exact ⟨by assumption, by assumption, by assumption⟩)] | rw [if_neg (by first | omega | exact fun k => absurd k.2.2 (by assumption))]))
  exact H
theorem div64X (H : Sat g w l) (k a b c d : Int) (ha : -9223372036854775808 ≤ a ∧ a ≤ 9223372036854775807) (hb : -9223372036854775808 ≤ b ∧ b ≤ 9223372036854775807) (hd : d = vWrap .u64 b) : Fc Tryd.prog 200 #[.int .u8 k, .int .i64 a, .int .i64 b, .int .u64 c, .int .u64 d] w (fun v w' => ∃ q e, v = .tuple #[.int .i64 q, .int .i64 e] ∧ (q, e) = divS .i64 k a b c d ∧ Sat g w' l) := by
  have hz : b ≠ 0 → d ≠ 0 := fun h => by rw [hd]; exact wz64 hb h
  refine Fc.of Tryd.func200 rfl (by kernel_rfl) ?_
  refine cI (fun c1 => ?_) (fun c1 => ?_)
  · replace c1 := vEq_t (c1)
    refine Done.mk ?_
    refine ⟨0, 21, ?_⟩
    refine ⟨?_, ?_⟩
    · rfl
    refine ⟨?_, ?_⟩
    · (unfold divS; (repeat first | rw [if_pos (by first | omega | exact ⟨by assumption, by assumption, by assumption⟩)] | rw [if_neg (by first | omega | exact fun k => absurd k.2.2 (by assumption))]))
    exact H
  replace c1 := vEq_f (c1)
  refine bk ?_
  refine cI (fun c2 => ?_) (fun c2 => ?_)
  · replace c2 := vEq_t (c2)
    refine br (fun c3 => ?_) (fun c3 => ?_)
    · replace c3 := vEq_t (c3)
      refine br (fun c4 => ?_) (fun c4 => ?_)
      · replace c4 := vNe_t (c4)
        refine EqP.keep ?_
        refine cI (fun c5 => ?_) (fun c5 => ?_)
        · replace c5 := vEq_t (c5)
          refine Done.mk ?_
          refine ⟨0, 22, ?_⟩
          refine ⟨?_, ?_⟩
          · rfl
          refine ⟨?_, ?_⟩
          · (unfold divS; (repeat first | rw [if_pos (by first | omega | exact ⟨by assumption, by assumption, by assumption⟩)] | rw [if_neg (by first | omega | exact fun k => absurd k.2.2 (by assumption))]))
          exact H
        replace c5 := vEq_f (c5)
        refine DivP.mk (by omega) ?_
        refine EqP.keep ?_
        refine Done.mk ?_
        refine ⟨vQuo IntKind.i64 a b, 0, ?_⟩
        refine ⟨?_, ?_⟩
        · rfl
        refine ⟨?_, ?_⟩
        · (unfold divS; (repeat first | rw [if_pos (by first | omega | exact ⟨by assumption, by assumption, by assumption⟩)] | rw [if_neg (by first | omega | exact fun k => absurd k.2.2 (by assumption))]))
          exact congrArg (fun z => (z, (0 : Int))) (wi64 (quo64 _ _)).symm
        exact H
      replace c4 := vNe_f (c4)
      refine cF rfl ?_
      refine DivP.mk (by omega) ?_
      refine EqP.keep ?_
      refine Done.mk ?_
      refine ⟨vQuo IntKind.i64 a b, 0, ?_⟩
      refine ⟨?_, ?_⟩
      · rfl
      refine ⟨?_, ?_⟩
      · (unfold divS; (repeat first | rw [if_pos (by first | omega | exact ⟨by assumption, by assumption, by assumption⟩)] | rw [if_neg (by first | omega | exact fun k => absurd k.2.2 (by assumption))]))
        exact congrArg (fun z => (z, (0 : Int))) (wi64 (quo64 _ _)).symm
      exact H
    replace c3 := vEq_f (c3)
    refine cF rfl ?_
    refine DivP.mk (by omega) ?_
    refine EqP.keep ?_
    refine Done.mk ?_
    refine ⟨vQuo IntKind.i64 a b, 0, ?_⟩
    refine ⟨?_, ?_⟩
    · rfl
    refine ⟨?_, ?_⟩
    · (unfold divS; (repeat first | rw [if_pos (by first | omega | exact ⟨by assumption, by assumption, by assumption⟩)] | rw [if_neg (by first | omega | exact fun k => absurd k.2.2 (by assumption))]))
      exact congrArg (fun z => (z, (0 : Int))) (wi64 (quo64 _ _)).symm
    exact H
  replace c2 := vEq_f (c2)
  refine cI (fun c3 => ?_) (fun c3 => ?_)
  · replace c3 := vEq_t (c3)
    refine DivP.mk (by omega) ?_
    refine EqP.keep ?_
    refine rConvInt rfl rfl ?_
    refine Done.mk ?_
    refine ⟨vWrap IntKind.i64 (vQuo IntKind.u64 c d), 0, ?_⟩
    refine ⟨?_, ?_⟩
    · rfl
    refine ⟨?_, ?_⟩
    · (unfold divS; (repeat first | rw [if_pos (by first | omega | exact ⟨by assumption, by assumption, by assumption⟩)] | rw [if_neg (by first | omega | exact fun k => absurd k.2.2 (by assumption))]))
      rfl
    exact H
  replace c3 := vEq_f (c3)
  refine cI (fun c4 => ?_) (fun c4 => ?_)
  · replace c4 := vEq_t (c4)
    refine cI (fun c5 => ?_) (fun c5 => ?_)
    · replace c5 := vEq_t (c5)
      refine Done.mk ?_
      refine ⟨0, 0, ?_⟩
      refine ⟨?_, ?_⟩
      · rfl
      refine ⟨?_, ?_⟩
      · (unfold divS; (repeat first | rw [if_pos (by first | omega | exact ⟨by assumption, by assumption, by assumption⟩)] | rw [if_neg (by first | omega | exact fun k => absurd k.2.2 (by assumption))]))
      exact H
    replace c5 := vEq_f (c5)
    refine DivP.mk (by omega) ?_
    refine EqP.keep ?_
    refine Done.mk ?_
    refine ⟨vRem a b, 0, ?_⟩
    refine ⟨?_, ?_⟩
    · rfl
    refine ⟨?_, ?_⟩
    · (unfold divS; (repeat first | rw [if_pos (by first | omega | exact ⟨by assumption, by assumption, by assumption⟩)] | rw [if_neg (by first | omega | exact fun k => absurd k.2.2 (by assumption))]))
      exact congrArg (fun z => (z, (0 : Int))) (wi64 (rem64 (by omega))).symm
    exact H
  replace c4 := vEq_f (c4)
  refine DivP.mk (by omega) ?_
  refine EqP.keep ?_
  refine rConvInt rfl rfl ?_
  refine Done.mk ?_
  refine ⟨vWrap IntKind.i64 (vRem c d), 0, ?_⟩
  refine ⟨?_, ?_⟩
  · rfl
  refine ⟨?_, ?_⟩
  · (unfold divS; (repeat first | rw [if_pos (by first | omega | exact ⟨by assumption, by assumption, by assumption⟩)] | rw [if_neg (by first | omega | exact fun k => absurd k.2.2 (by assumption))]))
  exact H
theorem rk32X (H : Sat g w l) (k a b : Int) (hb : 0 ≤ b ∧ b ≤ 4294967295) : Fc Tryd.prog 201 #[.int .u8 k, .int .u32 a, .int .u32 b, .int .i64 32] w (fun v w' => ∃ r, v = .int .u32 r ∧ Sat g w' l) := by
  refine Fc.of Tryd.func201 rfl (by kernel_rfl) ?_
  refine eqI64 (by omega) ?_
  refine rConvU32 (by omega) rfl rfl ?_
  (refine eqAndU32 ((b).toNat) ((32 - 1)) (by omega) (by omega) (by omega) (by omega) ?_; intro hA1 hA2)
  refine rConvI64 (by omega) rfl rfl ?_
  refine bk ?_
  refine cI (fun c1 => ?_) (fun c1 => ?_)
  · replace c1 := vEq_t (c1)
    refine eqWrapMU32 ?_
    refine Done.mk ?_
    refine ⟨(a + b) % 4294967296, ?_⟩
    refine ⟨?_, ?_⟩
    · refine int_eq ?_
      omega
    exact H
  replace c1 := vEq_f (c1)
  refine cI (fun c2 => ?_) (fun c2 => ?_)
  · replace c2 := vEq_t (c2)
    refine eqWrapMU32 ?_
    refine Done.mk ?_
    refine ⟨(a - b) % 4294967296, ?_⟩
    refine ⟨?_, ?_⟩
    · refine int_eq ?_
      omega
    exact H
  replace c2 := vEq_f (c2)
  refine cI (fun c3 => ?_) (fun c3 => ?_)
  · replace c3 := vEq_t (c3)
    refine eqWrapMU32 ?_
    refine Done.mk ?_
    refine ⟨a * b % 4294967296, ?_⟩
    refine ⟨?_, ?_⟩
    · refine int_eq ?_
      omega
    exact H
  replace c3 := vEq_f (c3)
  refine cI (fun c4 => ?_) (fun c4 => ?_)
  · replace c4 := vEq_t (c4)
    refine EqP.keep ?_
    refine Done.mk ?_
    refine ⟨vAnd IntKind.u32 a b, ?_⟩
    refine ⟨?_, ?_⟩
    · refine int_eq ?_
      omega
    exact H
  replace c4 := vEq_f (c4)
  refine cI (fun c5 => ?_) (fun c5 => ?_)
  · replace c5 := vEq_t (c5)
    refine EqP.keep ?_
    refine Done.mk ?_
    refine ⟨vOr IntKind.u32 a b, ?_⟩
    refine ⟨?_, ?_⟩
    · refine int_eq ?_
      omega
    exact H
  replace c5 := vEq_f (c5)
  refine cI (fun c6 => ?_) (fun c6 => ?_)
  · replace c6 := vEq_t (c6)
    refine EqP.keep ?_
    refine Done.mk ?_
    refine ⟨vXor IntKind.u32 a b, ?_⟩
    refine ⟨?_, ?_⟩
    · refine int_eq ?_
      omega
    exact H
  replace c6 := vEq_f (c6)
  refine cI (fun c7 => ?_) (fun c7 => ?_)
  · replace c7 := vEq_t (c7)
    refine ShiftP.mk (by omega) ?_
    refine EqP.keep ?_
    refine Done.mk ?_
    refine ⟨vShl IntKind.u32 a (↑(b.toNat &&& 32 - 1) : Int), ?_⟩
    refine ⟨?_, ?_⟩
    · refine int_eq ?_
      omega
    exact H
  replace c7 := vEq_f (c7)
  refine cI (fun c8 => ?_) (fun c8 => ?_)
  · replace c8 := vEq_t (c8)
    refine ShiftP.mk (by omega) ?_
    refine EqP.keep ?_
    refine br (fun c9 => ?_) (fun c9 => ?_)
    · replace c9 := vLt_t (c9)
      refine eqI64 (by omega) ?_
      refine ShiftP.mk (by decide) ?_
      refine EqP.keep ?_
      refine cI (fun c10 => ?_) (fun c10 => ?_)
      · replace c10 := vNe_t (c10)
        refine rConvU32 (by omega) rfl rfl ?_
        refine rNotU32 (by omega) (by omega) ?_
        refine eqI64 (by omega) ?_
        refine ShiftP.mk (by omega) ?_
        refine EqP.keep ?_
        refine EqP.keep ?_
        refine Done.mk ?_
        refine ⟨vOr IntKind.u32 (vShr IntKind.u32 a (↑(b.toNat &&& 32 - 1) : Int)) (vShl IntKind.u32 (4294967295 - 0) (32 - (↑(b.toNat &&& 32 - 1) : Int))), ?_⟩
        refine ⟨?_, ?_⟩
        · refine int_eq ?_
          omega
        exact H
      replace c10 := vNe_f (c10)
      refine Done.mk ?_
      refine ⟨vShr IntKind.u32 a (↑(b.toNat &&& 32 - 1) : Int), ?_⟩
      refine ⟨?_, ?_⟩
      · refine int_eq ?_
        omega
      exact H
    replace c9 := vLt_f (c9)
    refine cF rfl ?_
    refine Done.mk ?_
    refine ⟨vShr IntKind.u32 a (↑(b.toNat &&& 32 - 1) : Int), ?_⟩
    refine ⟨?_, ?_⟩
    · refine int_eq ?_
      omega
    exact H
  replace c8 := vEq_f (c8)
  refine cI (fun c9 => ?_) (fun c9 => ?_)
  · replace c9 := vEq_t (c9)
    refine ShiftP.mk (by omega) ?_
    refine EqP.keep ?_
    refine Done.mk ?_
    refine ⟨vShr IntKind.u32 a (↑(b.toNat &&& 32 - 1) : Int), ?_⟩
    refine ⟨?_, ?_⟩
    · refine int_eq ?_
      omega
    exact H
  replace c9 := vEq_f (c9)
  refine cI (fun c10 => ?_) (fun c10 => ?_)
  · replace c10 := vEq_t (c10)
    refine drawzS H [] [(0, .pure), (1, .pure), (2, .pure), (3, .pure), (4, .pure), (5, .pure), (6, .pure), (7, .pure), (8, .pure), (9, .pure)] mixed (by kernel_rfl) (by kernel_rfl) ?_
    clear H
    intro w1 H
    refine ShiftP.mk (by omega) ?_
    refine EqP.keep ?_
    refine eqI64 (by omega) ?_
    refine ShiftP.mk (by omega) ?_
    refine EqP.keep ?_
    refine EqP.keep ?_
    refine Done.mk ?_
    refine ⟨vOr IntKind.u32 (vShl IntKind.u32 a (↑(b.toNat &&& 32 - 1) : Int)) (vShr IntKind.u32 a (32 - (↑(b.toNat &&& 32 - 1) : Int))), ?_⟩
    refine ⟨?_, ?_⟩
    · refine int_eq ?_
      omega
    exact H
  replace c10 := vEq_f (c10)
  refine drawzS H [] [(0, .pure), (1, .pure), (2, .pure), (3, .pure), (4, .pure), (5, .pure), (6, .pure), (7, .pure), (8, .pure), (9, .pure)] mixed (by kernel_rfl) (by kernel_rfl) ?_
  clear H
  intro w1 H
  refine ShiftP.mk (by omega) ?_
  refine EqP.keep ?_
  refine eqI64 (by omega) ?_
  refine ShiftP.mk (by omega) ?_
  refine EqP.keep ?_
  refine EqP.keep ?_
  refine Done.mk ?_
  refine ⟨vOr IntKind.u32 (vShr IntKind.u32 a (↑(b.toNat &&& 32 - 1) : Int)) (vShl IntKind.u32 a (32 - (↑(b.toNat &&& 32 - 1) : Int))), ?_⟩
  refine ⟨?_, ?_⟩
  · refine int_eq ?_
    omega
  exact H
theorem rk64X (H : Sat g w l) (k a b : Int) (hb : 0 ≤ b ∧ b ≤ 18446744073709551615) : Fc Tryd.prog 202 #[.int .u8 k, .int .u64 a, .int .u64 b, .int .i64 64] w (fun v w' => ∃ r, v = .int .u64 r ∧ Sat g w' l) := by
  refine Fc.of Tryd.func202 rfl (by kernel_rfl) ?_
  refine eqI64 (by omega) ?_
  refine rConvU64 (by omega) rfl rfl ?_
  (refine eqAndU64 ((b).toNat) ((64 - 1)) (by omega) (by omega) (by omega) (by omega) ?_; intro hA1 hA2)
  refine rConvI64 (by omega) rfl rfl ?_
  refine bk ?_
  refine cI (fun c1 => ?_) (fun c1 => ?_)
  · replace c1 := vEq_t (c1)
    refine eqWrapMU64 ?_
    refine Done.mk ?_
    refine ⟨(a + b) % 18446744073709551616, ?_⟩
    refine ⟨?_, ?_⟩
    · refine int_eq ?_
      omega
    exact H
  replace c1 := vEq_f (c1)
  refine cI (fun c2 => ?_) (fun c2 => ?_)
  · replace c2 := vEq_t (c2)
    refine eqWrapMU64 ?_
    refine Done.mk ?_
    refine ⟨(a - b) % 18446744073709551616, ?_⟩
    refine ⟨?_, ?_⟩
    · refine int_eq ?_
      omega
    exact H
  replace c2 := vEq_f (c2)
  refine cI (fun c3 => ?_) (fun c3 => ?_)
  · replace c3 := vEq_t (c3)
    refine eqWrapMU64 ?_
    refine Done.mk ?_
    refine ⟨a * b % 18446744073709551616, ?_⟩
    refine ⟨?_, ?_⟩
    · refine int_eq ?_
      omega
    exact H
  replace c3 := vEq_f (c3)
  refine cI (fun c4 => ?_) (fun c4 => ?_)
  · replace c4 := vEq_t (c4)
    refine EqP.keep ?_
    refine Done.mk ?_
    refine ⟨vAnd IntKind.u64 a b, ?_⟩
    refine ⟨?_, ?_⟩
    · refine int_eq ?_
      omega
    exact H
  replace c4 := vEq_f (c4)
  refine cI (fun c5 => ?_) (fun c5 => ?_)
  · replace c5 := vEq_t (c5)
    refine EqP.keep ?_
    refine Done.mk ?_
    refine ⟨vOr IntKind.u64 a b, ?_⟩
    refine ⟨?_, ?_⟩
    · refine int_eq ?_
      omega
    exact H
  replace c5 := vEq_f (c5)
  refine cI (fun c6 => ?_) (fun c6 => ?_)
  · replace c6 := vEq_t (c6)
    refine EqP.keep ?_
    refine Done.mk ?_
    refine ⟨vXor IntKind.u64 a b, ?_⟩
    refine ⟨?_, ?_⟩
    · refine int_eq ?_
      omega
    exact H
  replace c6 := vEq_f (c6)
  refine cI (fun c7 => ?_) (fun c7 => ?_)
  · replace c7 := vEq_t (c7)
    refine ShiftP.mk (by omega) ?_
    refine EqP.keep ?_
    refine Done.mk ?_
    refine ⟨vShl IntKind.u64 a (↑(b.toNat &&& 64 - 1) : Int), ?_⟩
    refine ⟨?_, ?_⟩
    · refine int_eq ?_
      omega
    exact H
  replace c7 := vEq_f (c7)
  refine cI (fun c8 => ?_) (fun c8 => ?_)
  · replace c8 := vEq_t (c8)
    refine ShiftP.mk (by omega) ?_
    refine EqP.keep ?_
    refine br (fun c9 => ?_) (fun c9 => ?_)
    · replace c9 := vLt_t (c9)
      refine eqI64 (by omega) ?_
      refine ShiftP.mk (by decide) ?_
      refine EqP.keep ?_
      refine cI (fun c10 => ?_) (fun c10 => ?_)
      · replace c10 := vNe_t (c10)
        refine rConvU64 (by omega) rfl rfl ?_
        refine rNotU64 (by omega) (by omega) ?_
        refine eqI64 (by omega) ?_
        refine ShiftP.mk (by omega) ?_
        refine EqP.keep ?_
        refine EqP.keep ?_
        refine Done.mk ?_
        refine ⟨vOr IntKind.u64 (vShr IntKind.u64 a (↑(b.toNat &&& 64 - 1) : Int)) (vShl IntKind.u64 (18446744073709551615 - 0) (64 - (↑(b.toNat &&& 64 - 1) : Int))), ?_⟩
        refine ⟨?_, ?_⟩
        · refine int_eq ?_
          omega
        exact H
      replace c10 := vNe_f (c10)
      refine Done.mk ?_
      refine ⟨vShr IntKind.u64 a (↑(b.toNat &&& 64 - 1) : Int), ?_⟩
      refine ⟨?_, ?_⟩
      · refine int_eq ?_
        omega
      exact H
    replace c9 := vLt_f (c9)
    refine cF rfl ?_
    refine Done.mk ?_
    refine ⟨vShr IntKind.u64 a (↑(b.toNat &&& 64 - 1) : Int), ?_⟩
    refine ⟨?_, ?_⟩
    · refine int_eq ?_
      omega
    exact H
  replace c8 := vEq_f (c8)
  refine cI (fun c9 => ?_) (fun c9 => ?_)
  · replace c9 := vEq_t (c9)
    refine ShiftP.mk (by omega) ?_
    refine EqP.keep ?_
    refine Done.mk ?_
    refine ⟨vShr IntKind.u64 a (↑(b.toNat &&& 64 - 1) : Int), ?_⟩
    refine ⟨?_, ?_⟩
    · refine int_eq ?_
      omega
    exact H
  replace c9 := vEq_f (c9)
  refine cI (fun c10 => ?_) (fun c10 => ?_)
  · replace c10 := vEq_t (c10)
    refine drawzS H [] [(0, .pure), (1, .pure), (2, .pure), (3, .pure), (4, .pure), (5, .pure), (6, .pure), (7, .pure), (8, .pure), (9, .pure)] mixed (by kernel_rfl) (by kernel_rfl) ?_
    clear H
    intro w1 H
    refine ShiftP.mk (by omega) ?_
    refine EqP.keep ?_
    refine eqI64 (by omega) ?_
    refine ShiftP.mk (by omega) ?_
    refine EqP.keep ?_
    refine EqP.keep ?_
    refine Done.mk ?_
    refine ⟨vOr IntKind.u64 (vShl IntKind.u64 a (↑(b.toNat &&& 64 - 1) : Int)) (vShr IntKind.u64 a (64 - (↑(b.toNat &&& 64 - 1) : Int))), ?_⟩
    refine ⟨?_, ?_⟩
    · refine int_eq ?_
      omega
    exact H
  replace c10 := vEq_f (c10)
  refine drawzS H [] [(0, .pure), (1, .pure), (2, .pure), (3, .pure), (4, .pure), (5, .pure), (6, .pure), (7, .pure), (8, .pure), (9, .pure)] mixed (by kernel_rfl) (by kernel_rfl) ?_
  clear H
  intro w1 H
  refine ShiftP.mk (by omega) ?_
  refine EqP.keep ?_
  refine eqI64 (by omega) ?_
  refine ShiftP.mk (by omega) ?_
  refine EqP.keep ?_
  refine EqP.keep ?_
  refine Done.mk ?_
  refine ⟨vOr IntKind.u64 (vShr IntKind.u64 a (↑(b.toNat &&& 64 - 1) : Int)) (vShl IntKind.u64 a (64 - (↑(b.toNat &&& 64 - 1) : Int))), ?_⟩
  refine ⟨?_, ?_⟩
  · refine int_eq ?_
    omega
  exact H
end
end Go.Proofs.YtcpniokopahakaaDoor.Num
/- Package num: Two: its fault, and how far its number goes. -/
set_option maxRecDepth 100000
set_option maxHeartbeats 4000000
set_option linter.unusedVariables false
set_option linter.unusedSimpArgs false
namespace Go.Proofs.YtcpniokopahakaaDoor.Num
open Go Go.Proofs.YtcpniokopahakaaDoor.Eng Go.RowKit
structure TwoR (op a b r e : Int) : Prop where
  e : e = (twoS op a b).2
  rng : I64 r
  r32 : op ≤ 90 ∨ (106 ≤ op ∧ op ≤ 120) → -2147483648 ≤ r ∧ r ≤ 2147483647
theorem b2i_01 (b : Bool) : 0 ≤ b2i b ∧ b2i b ≤ 1 := by cases b <;> decide
theorem cmp_01 (k a b c d : Int) : 0 ≤ cmpS k a b c d ∧ cmpS k a b c d ≤ 1 := by
  unfold cmpS
  repeat' split
  all_goals exact b2i_01 _
theorem wrap32 (a : Int) : -2147483648 ≤ vWrap .i32 a ∧ vWrap .i32 a ≤ 2147483647 := vWrap_range .i32 a
theorem wrap64 (a : Int) : I64 (vWrap .i64 a) := vWrap_range .i64 a
theorem wrapU64 (a : Int) : 0 ≤ vWrap .u64 a ∧ vWrap .u64 a ≤ 18446744073709551615 := vWrap_range .u64 a
theorem wrapU32 (a : Int) : 0 ≤ vWrap .u32 a ∧ vWrap .u32 a ≤ 4294967295 := vWrap_range .u32 a
theorem uw32 (b : Int) : vWrap .u32 b = vWrap .u32 (vWrap .i32 b) := by
  unfold vWrap; simp [IntKind.wrap, IntKind.bits, IntKind.signed]; omega
theorem mod32 (b : Int) : b % 4294967296 = vWrap .u32 (vWrap .i32 b) := by
  unfold vWrap; simp [IntKind.wrap, IntKind.bits, IntKind.signed]; omega
theorem mod32' (b : Int) : b % 4294967296 = vWrap .u32 b := by
  unfold vWrap; simp [IntKind.wrap, IntKind.bits, IntKind.signed]
theorem mod64 (b : Int) : b % 18446744073709551616 = vWrap .u64 b := by
  unfold vWrap; simp [IntKind.wrap, IntKind.bits, IntKind.signed]
section
variable {op a b r e k a' b' c d : Int}
theorem two1 (h : 70 ≤ op ∧ op ≤ 79 ∨ 81 ≤ op ∧ op ≤ 90) (hr : r = cmpS k a' b' c d) : TwoR op a b r 0 := by
  have := cmp_01 k a' b' c d
  rw [← hr] at this
  refine ⟨?_, ⟨by omega, by omega⟩, fun _ => by omega⟩
  rcases h with h | h
  · rw [twoS, if_pos h]
  · rw [twoS, if_neg (by omega), if_pos h]
theorem two3 (h : 109 ≤ op ∧ op ≤ 112) {q : Int} (hq : (q, e) = divS .i32 (op - 109) (vWrap .i32 a) (vWrap .i32 b) (a % 4294967296) (b % 4294967296)) : TwoR op a b (vWrap .i64 (vWrap .i32 q)) e := by
  rw [mod32', mod32'] at hq
  rw [wi64 (by have := wrap32 q; omega)]
  have := wrap32 q
  refine ⟨?_, ⟨by omega, by omega⟩, fun _ => this⟩
  rw [twoS, if_neg (by omega), if_neg (by omega), if_pos h, ← hq]
theorem div_rng (w : IntKind) (k a b c d : Int) : I64 (divS w k a b c d).1 := by
  have h0 : I64 0 := ⟨by omega, by omega⟩
  unfold divS
  repeat' split
  all_goals first | exact h0 | exact wrap64 _
theorem two4 (h : 127 ≤ op ∧ op ≤ 130) {q : Int} (hq : (q, e) = divS .i64 (op - 127) a b (a % 18446744073709551616) (b % 18446744073709551616)) : TwoR op a b q e := by
  rw [mod64, mod64] at hq
  refine ⟨?_, ?_, fun h2 => by omega⟩
  · rw [twoS, if_neg (by omega), if_neg (by omega), if_neg (by omega), if_pos h, ← hq]
  · have := div_rng .i64 (op - 127) a b (vWrap .u64 a) (vWrap .u64 b)
    rw [← hq] at this; exact this
theorem two5 (h : 106 ≤ op ∧ op ≤ 120) (h2 : ¬ (109 ≤ op ∧ op ≤ 112)) {q : Int} : TwoR op a b (vWrap .i64 (vWrap .i32 q)) 0 := by
  rw [wi64 (by have := wrap32 q; omega)]
  have := wrap32 q
  refine ⟨?_, ⟨by omega, by omega⟩, fun _ => this⟩
  rw [twoS, if_neg (by omega), if_neg (by omega), if_neg h2, if_neg (by omega), if_pos h]
theorem two6 (h : 124 ≤ op ∧ op ≤ 138) (h2 : ¬ (127 ≤ op ∧ op ≤ 130)) {q : Int} : TwoR op a b (vWrap .i64 q) 0 := by
  refine ⟨?_, wrap64 q, fun h3 => by omega⟩
  rw [twoS, if_neg (by omega), if_neg (by omega), if_neg (by omega), if_neg h2, if_neg (by omega), if_pos h]
theorem two7 (h : ¬ (70 ≤ op ∧ op ≤ 79 ∨ 81 ≤ op ∧ op ≤ 90 ∨ 106 ≤ op ∧ op ≤ 120 ∨ 124 ≤ op ∧ op ≤ 138)) : TwoR op a b 0 6 := by
  refine ⟨?_, ⟨by omega, by omega⟩, fun _ => by omega⟩
  rw [twoS, if_neg (by omega), if_neg (by omega), if_neg (by omega), if_neg (by omega), if_neg (by omega), if_neg (by omega)]
end
section
variable {g : Glob} {w : World} {l : List As}
theorem TwoX (H : Sat g w l) (op a b : Int) (hop : 0 ≤ op ∧ op ≤ 255) (ha : I64 a) (hb : I64 b) : Fc Tryd.prog 167 #[.int .u8 op, .int .i64 a, .int .i64 b] w (fun v w' => ∃ r e, v = .tuple #[.int .i64 r, .int .i64 e] ∧ TwoR op a b r e ∧ Sat g w' l) := by
  refine Fc.of Tryd.func167 rfl (by kernel_rfl) ?_
  refine bk ?_
  refine br (fun c1 => ?_) (fun c1 => ?_)
  · replace c1 := vLe_t (c1)
    refine cI (fun c2 => ?_) (fun c2 => ?_)
    · replace c2 := vLe_t (c2)
      refine eqU8 (by omega) ?_
      refine rConvInt rfl rfl ?_
      refine rConvInt rfl rfl ?_
      refine rConvU32M rfl rfl ?_
      refine rConvU32M rfl rfl ?_
      refine CallP.mk (Fc.imp (Go.Proofs.YtcpniokopahakaaDoor.Num.cmp32X H _ _ _ _ _) ?_)
      clear H
      rintro _ w1 ⟨r1, ⟨rfl, ⟨h1, H⟩⟩⟩
      refine Done.mk ?_
      refine ⟨r1, 0, ?_⟩
      refine ⟨?_, ?_⟩
      · rfl
      refine ⟨?_, ?_⟩
      · exact two1 (by omega) (by assumption)
      exact H
    replace c2 := vLe_f (c2)
    refine br (fun c3 => ?_) (fun c3 => ?_)
    · replace c3 := vLe_t (c3)
      refine cI (fun c4 => ?_) (fun c4 => ?_)
      · replace c4 := vLe_t (c4)
        refine eqU8 (by omega) ?_
        refine rConvU64M rfl rfl ?_
        refine rConvU64M rfl rfl ?_
        refine CallP.mk (Fc.imp (Go.Proofs.YtcpniokopahakaaDoor.Num.cmp64X H _ _ _ _ _) ?_)
        clear H
        rintro _ w1 ⟨r1, ⟨rfl, ⟨h1, H⟩⟩⟩
        refine Done.mk ?_
        refine ⟨r1, 0, ?_⟩
        refine ⟨?_, ?_⟩
        · rfl
        refine ⟨?_, ?_⟩
        · exact two1 (by omega) (by assumption)
        exact H
      replace c4 := vLe_f (c4)
      refine br (fun c5 => ?_) (fun c5 => ?_)
      · replace c5 := vLe_t (c5)
        refine cI (fun c6 => ?_) (fun c6 => ?_)
        · replace c6 := vLe_t (c6)
          refine eqU8 (by omega) ?_
          refine rConvInt rfl rfl ?_
          refine rConvInt rfl rfl ?_
          refine rConvU32M rfl rfl ?_
          refine rConvU32M rfl rfl ?_
          refine CallP.mk (Fc.imp (Go.Proofs.YtcpniokopahakaaDoor.Num.div32X H _ _ _ _ _ ?_ ?_ ?_) ?_)
          · exact wrap32 _
          · exact wrap32 _
          · exact mod32 _
          clear H
          rintro _ w1 ⟨q1, ⟨e1, ⟨rfl, ⟨h1, H⟩⟩⟩⟩
          refine rConvInt rfl rfl ?_
          refine rConvInt rfl rfl ?_
          refine Done.mk ?_
          refine ⟨vWrap IntKind.i64 (vWrap IntKind.i32 q1), e1, ?_⟩
          refine ⟨?_, ?_⟩
          · rfl
          refine ⟨?_, ?_⟩
          · exact two3 (by omega) (by assumption)
          exact H
        replace c6 := vLe_f (c6)
        refine br (fun c7 => ?_) (fun c7 => ?_)
        · replace c7 := vLe_t (c7)
          refine cI (fun c8 => ?_) (fun c8 => ?_)
          · replace c8 := vLe_t (c8)
            refine eqU8 (by omega) ?_
            refine rConvU64M rfl rfl ?_
            refine rConvU64M rfl rfl ?_
            refine CallP.mk (Fc.imp (Go.Proofs.YtcpniokopahakaaDoor.Num.div64X H _ _ _ _ _ ?_ ?_ ?_) ?_)
            · assumption
            · assumption
            · exact mod64 _
            clear H
            rintro _ w1 ⟨q1, ⟨e1, ⟨rfl, ⟨h1, H⟩⟩⟩⟩
            refine Done.mk ?_
            refine ⟨q1, e1, ?_⟩
            refine ⟨?_, ?_⟩
            · rfl
            refine ⟨?_, ?_⟩
            · exact two4 (by omega) (by assumption)
            exact H
          replace c8 := vLe_f (c8)
          refine br_t (vLe_T (by omega)) ?_
          refine cF (vLe_F (by omega)) ?_
          refine br_t (vLe_T (by omega)) ?_
          refine cI (fun c9 => ?_) (fun c9 => ?_)
          · replace c9 := vLe_t (c9)
            refine eqU8 (by omega) ?_
            refine rConvU64M rfl rfl ?_
            refine rConvU64M rfl rfl ?_
            refine CallP.mk (Fc.imp (Go.Proofs.YtcpniokopahakaaDoor.Num.rk64X H _ _ _ ?_) ?_)
            · omega
            clear H
            rintro _ w1 ⟨r1, ⟨rfl, H⟩⟩
            refine rConvInt rfl rfl ?_
            refine Done.mk ?_
            refine ⟨vWrap IntKind.i64 r1, 0, ?_⟩
            refine ⟨?_, ?_⟩
            · rfl
            refine ⟨?_, ?_⟩
            · exact two6 (by omega) (by omega)
            exact H
          replace c9 := vLe_f (c9)
          refine Done.mk ?_
          refine ⟨0, 6, ?_⟩
          refine ⟨?_, ?_⟩
          · rfl
          refine ⟨?_, ?_⟩
          · exact two7 (by omega)
          exact H
        replace c7 := vLe_f (c7)
        refine cF rfl ?_
        refine br_t (vLe_T (by omega)) ?_
        refine cI (fun c8 => ?_) (fun c8 => ?_)
        · replace c8 := vLe_t (c8)
          refine eqU8 (by omega) ?_
          refine rConvU32M rfl rfl ?_
          refine rConvU32M rfl rfl ?_
          refine CallP.mk (Fc.imp (Go.Proofs.YtcpniokopahakaaDoor.Num.rk32X H _ _ _ ?_) ?_)
          · omega
          clear H
          rintro _ w1 ⟨r1, ⟨rfl, H⟩⟩
          refine rConvInt rfl rfl ?_
          refine rConvInt rfl rfl ?_
          refine Done.mk ?_
          refine ⟨vWrap IntKind.i64 (vWrap IntKind.i32 r1), 0, ?_⟩
          refine ⟨?_, ?_⟩
          · rfl
          refine ⟨?_, ?_⟩
          · exact two5 (by omega) (by omega)
          exact H
        replace c8 := vLe_f (c8)
        refine br (fun c9 => ?_) (fun c9 => ?_)
        · replace c9 := vLe_t (c9)
          refine cT (vLe_T (by omega)) ?_
          refine eqU8 (by omega) ?_
          refine rConvU64M rfl rfl ?_
          refine rConvU64M rfl rfl ?_
          refine CallP.mk (Fc.imp (Go.Proofs.YtcpniokopahakaaDoor.Num.rk64X H _ _ _ ?_) ?_)
          · omega
          clear H
          rintro _ w1 ⟨r1, ⟨rfl, H⟩⟩
          refine rConvInt rfl rfl ?_
          refine Done.mk ?_
          refine ⟨vWrap IntKind.i64 r1, 0, ?_⟩
          refine ⟨?_, ?_⟩
          · rfl
          refine ⟨?_, ?_⟩
          · exact two6 (by omega) (by omega)
          exact H
        replace c9 := vLe_f (c9)
        refine cF rfl ?_
        refine Done.mk ?_
        refine ⟨0, 6, ?_⟩
        refine ⟨?_, ?_⟩
        · rfl
        refine ⟨?_, ?_⟩
        · exact two7 (by omega)
        exact H
      replace c5 := vLe_f (c5)
      refine cF rfl ?_
      refine br_f (vLe_F (by omega)) ?_
      refine cF rfl ?_
      refine br (fun c6 => ?_) (fun c6 => ?_)
      · replace c6 := vLe_t (c6)
        refine cT (vLe_T (by omega)) ?_
        refine eqU8 (by omega) ?_
        refine rConvU32M rfl rfl ?_
        refine rConvU32M rfl rfl ?_
        refine CallP.mk (Fc.imp (Go.Proofs.YtcpniokopahakaaDoor.Num.rk32X H _ _ _ ?_) ?_)
        · omega
        clear H
        rintro _ w1 ⟨r1, ⟨rfl, H⟩⟩
        refine rConvInt rfl rfl ?_
        refine rConvInt rfl rfl ?_
        refine Done.mk ?_
        refine ⟨vWrap IntKind.i64 (vWrap IntKind.i32 r1), 0, ?_⟩
        refine ⟨?_, ?_⟩
        · rfl
        refine ⟨?_, ?_⟩
        · exact two5 (by omega) (by omega)
        exact H
      replace c6 := vLe_f (c6)
      refine cF rfl ?_
      refine br_f (vLe_F (by omega)) ?_
      refine cF rfl ?_
      refine Done.mk ?_
      refine ⟨0, 6, ?_⟩
      refine ⟨?_, ?_⟩
      · rfl
      refine ⟨?_, ?_⟩
      · exact two7 (by omega)
      exact H
    replace c3 := vLe_f (c3)
    refine cF rfl ?_
    refine br_f (vLe_F (by omega)) ?_
    refine cF rfl ?_
    refine br_f (vLe_F (by omega)) ?_
    refine cF rfl ?_
    refine br_f (vLe_F (by omega)) ?_
    refine cF rfl ?_
    refine br_f (vLe_F (by omega)) ?_
    refine cF rfl ?_
    refine Done.mk ?_
    refine ⟨0, 6, ?_⟩
    refine ⟨?_, ?_⟩
    · rfl
    refine ⟨?_, ?_⟩
    · exact two7 (by omega)
    exact H
  replace c1 := vLe_f (c1)
  refine cF rfl ?_
  refine br_f (vLe_F (by omega)) ?_
  refine cF rfl ?_
  refine br_f (vLe_F (by omega)) ?_
  refine cF rfl ?_
  refine br_f (vLe_F (by omega)) ?_
  refine cF rfl ?_
  refine br_f (vLe_F (by omega)) ?_
  refine cF rfl ?_
  refine br_f (vLe_F (by omega)) ?_
  refine cF rfl ?_
  refine Done.mk ?_
  refine ⟨0, 6, ?_⟩
  refine ⟨?_, ?_⟩
  · rfl
  refine ⟨?_, ?_⟩
  · exact two7 (by omega)
  exact H
end
end Go.Proofs.YtcpniokopahakaaDoor.Num
/- Plain facts on the bits of numbers: how many there are, how many ones, how many zeros at the end. -/
set_option linter.unusedVariables false
namespace Go.Proofs.YtcpniokopahakaaDoor.Bm
open Go Go.Proofs.YtcpniokopahakaaDoor.Eng
def blen (n : Nat) : Nat := if n = 0 then 0 else n.log2 + 1
theorem blen_zero : blen 0 = 0 := rfl
theorem blen_le {n k : Nat} (h : n < 2 ^ k) : blen n ≤ k := by
  unfold blen
  split
  · omega
  · have := (Nat.log2_lt (by assumption)).2 h; omega
theorem blen_shift {n k : Nat} (h : 2 ^ k ≤ n) : blen n = blen (n / 2 ^ k) + k := by
  have hp := Nat.two_pow_pos k
  have h1 : n / 2 ^ k ≠ 0 := Nat.ne_of_gt (Nat.div_pos h hp)
  unfold blen
  rw [if_neg (by omega), if_neg h1]
  have e : n.log2 = (n / 2 ^ k).log2 + k := by
    have a1 := Nat.log2_self_le h1
    have a2 := Nat.lt_log2_self (n := n / 2 ^ k)
    have hn : n ≠ 0 := by omega
    rw [Nat.log2_eq_iff hn]
    have := Nat.div_add_mod' n (2 ^ k)
    have hm := Nat.mod_lt n hp
    rw [Nat.pow_add, show (n / 2 ^ k).log2 + k + 1 = ((n / 2 ^ k).log2 + 1) + k by omega, Nat.pow_add]
    constructor
    · have := Nat.mul_le_mul_right (2 ^ k) a1; omega
    · have := Nat.mul_le_mul_right (2 ^ k) (Nat.succ_le_of_lt a2)
      rw [Nat.succ_mul] at this; omega
  omega
/-- How many ones. -/
def popF : Nat → Nat → Nat
  | 0, _ => 0
  | f + 1, n => n % 2 + popF f (n / 2)
theorem popF_succ (f n : Nat) : popF (f + 1) n = n % 2 + popF f (n / 2) := rfl
theorem popF_add (k : Nat) : ∀ (f a b : Nat), a < 2 ^ k → k ≤ f → popF f (a + 2 ^ k * b) = popF k a + popF (f - k) b := by
  induction k with
  | zero => intro f a b h _; have : a = 0 := by omega
            subst this; simp [popF]
  | succ k ih =>
    intro f a b h hf
    obtain ⟨f, rfl⟩ : ∃ g, f = g + 1 := ⟨f - 1, by omega⟩
    have e : 2 ^ (k + 1) * b = 2 * (2 ^ k * b) := by rw [Nat.pow_succ, Nat.mul_comm (2 ^ k) 2, Nat.mul_assoc]
    rw [popF_succ, popF_succ, e, show (a + 2 * (2 ^ k * b)) % 2 = a % 2 by omega, show (a + 2 * (2 ^ k * b)) / 2 = a / 2 + 2 ^ k * b by omega, ih f (a / 2) b (by omega) (by omega), show f + 1 - (k + 1) = f - k by omega]
    omega
theorem popF_zero (f : Nat) : popF f 0 = 0 := by induction f with
  | zero => rfl
  | succ f ih => unfold popF; rw [ih]
theorem popF_more (k : Nat) (f a : Nat) (h : a < 2 ^ k) (hf : k ≤ f) : popF f a = popF k a := by
  have := popF_add k f a 0 h hf
  simpa [popF_zero] using this
theorem popF_le (f n : Nat) : popF f n ≤ f := by
  induction f generalizing n with
  | zero => simp [popF]
  | succ f ih => unfold popF; have := ih (n / 2); omega
def ctz : Nat → Nat → Nat
  | 0, _ => 0
  | f + 1, n => if n % 2 = 1 then 0 else ctz f (n / 2) + 1
theorem ctz_le (f n : Nat) : ctz f n ≤ f := by
  induction f generalizing n with
  | zero => simp [ctz]
  | succ f ih => unfold ctz; have := ih (n / 2); split <;> omega
theorem ctz_lt {f n : Nat} (h0 : n ≠ 0) (h : n < 2 ^ f) : ctz f n < f := by
  induction f generalizing n with
  | zero => omega
  | succ f ih => unfold ctz; split; omega; have := ih (n := n / 2) (by omega) (by omega); omega
theorem ctz_zero (f : Nat) : ctz f 0 = f := by
  induction f with
  | zero => rfl
  | succ f ih => unfold ctz; simp [ih]
/-- A number and its negative have but the lowest one in common. -/
theorem low_one : ∀ (f n : Nat), n ≠ 0 → n < 2 ^ f → n &&& (2 ^ f - n) = 2 ^ ctz f n := by
  intro f
  induction f with
  | zero => intro n h0 h; omega
  | succ f ih =>
    intro n h0 h
    have hd := @Nat.and_div_two n (2 ^ (f + 1) - n)
    have hm := @Nat.and_mod_two_pow n (2 ^ (f + 1) - n) 1
    simp only [Nat.pow_one] at hm
    have hp : 2 ^ (f + 1) = 2 * 2 ^ f := by rw [Nat.pow_succ]; omega
    have hpp := Nat.two_pow_pos f
    unfold ctz
    split
    · rename_i h1
      have e1 : (2 ^ (f + 1) - n) % 2 = 1 := by omega
      rw [h1, e1] at hm
      have e2 : n / 2 &&& (2 ^ (f + 1) - n) / 2 = 0 := by
        have e3 : (2 ^ (f + 1) - n) / 2 = 2 ^ f - 1 - n / 2 := by omega
        rw [e3]
        have hlt : n / 2 < 2 ^ f := by omega
        have h4 : ((BitVec.ofNat f (n / 2)) &&& ~~~(BitVec.ofNat f (n / 2))).toNat = 0 := by rw [BitVec.and_not_self]; simp
        rw [BitVec.toNat_and, BitVec.toNat_not, BitVec.toNat_ofNat, Nat.mod_eq_of_lt hlt] at h4
        exact h4
      rw [e2] at hd
      have : (1 : Nat) &&& 1 = 1 := rfl
      rw [this] at hm
      simp; omega
    · have h1 : n % 2 = 0 := by omega
      have e1 : (2 ^ (f + 1) - n) / 2 = 2 ^ f - n / 2 := by omega
      rw [h1, Nat.zero_and] at hm
      rw [e1, ih (n / 2) (by omega) (by omega)] at hd
      have e5 : 2 ^ (ctz f (n / 2) + 1) = 2 * 2 ^ ctz f (n / 2) := by rw [Nat.pow_succ]; omega
      omega

/-! ## Ones, counted side by side -/
def mapD (f : Nat → Nat) : Nat → Nat → Nat
  | 0, _ => 0
  | k + 1, x => f (x % 256) + 256 * mapD f k (x / 256)
theorem mapD_succ (f : Nat → Nat) (k x : Nat) : mapD f (k + 1) x = f (x % 256) + 256 * mapD f k (x / 256) := rfl
def rep (m : Nat) : Nat → Nat
  | 0 => 0
  | k + 1 => m + 256 * rep m k
theorem andB (x y : Nat) : x &&& y = (x % 256 &&& y % 256) + 256 * (x / 256 &&& y / 256) := by
  have h1 := @Nat.and_div_two_pow x y 8
  have h2 := @Nat.and_mod_two_pow x y 8
  rw [show (2 : Nat) ^ 8 = 256 from rfl] at h1 h2
  omega
def f1 (b : Nat) : Nat := (b / 2 &&& 85) + (b &&& 85)
def f2 (b : Nat) : Nat := (b / 4 &&& 51) + (b &&& 51)
theorem f1_lt : ∀ b < 256, f1 b < 256 := by decide +kernel
theorem s1 : ∀ b < 256, ∀ c < 2, (b / 2 + 128 * c) &&& 85 = b / 2 &&& 85 := by decide +kernel
theorem s2 : ∀ b < 256, ∀ c < 4, (b / 4 + 64 * c) &&& 51 = b / 4 &&& 51 := by decide +kernel
theorem g_le : ∀ b < 256, f2 (f1 b) % 16 ≤ 4 ∧ f2 (f1 b) / 16 ≤ 4 := by decide +kernel
theorem h_pop : ∀ b < 256, (f2 (f1 b) / 16 + f2 (f1 b)) % 16 = popF 8 b := by decide +kernel
theorem rep_mod (m k : Nat) (hm : m < 256) : rep m (k + 1) % 256 = m ∧ rep m (k + 1) / 256 = rep m k := by
  rw [show rep m (k + 1) = m + 256 * rep m k from rfl]; omega
theorem swar1 (k : Nat) : ∀ y, (y / 2 &&& rep 85 k) + (y &&& rep 85 k) = mapD f1 k y := by
  induction k with
  | zero => intro y; simp [rep, mapD]
  | succ k ih =>
    intro y
    have hr := rep_mod 85 k (by decide)
    rw [andB (y / 2), andB y, hr.1, hr.2, mapD_succ, ← ih (y / 256), show y / 2 % 256 = y % 256 / 2 + 128 * (y / 256 % 2) by omega, show y / 2 / 256 = y / 256 / 2 by omega, s1 _ (by omega) _ (by omega)]
    unfold f1; omega
theorem swar2 (k : Nat) : ∀ y, (y / 4 &&& rep 51 k) + (y &&& rep 51 k) = mapD f2 k y := by
  induction k with
  | zero => intro y; simp [rep, mapD]
  | succ k ih =>
    intro y
    have hr := rep_mod 51 k (by decide)
    rw [andB (y / 4), andB y, hr.1, hr.2, mapD_succ, ← ih (y / 256), show y / 4 % 256 = y % 256 / 4 + 64 * (y / 256 % 4) by omega, show y / 4 / 256 = y / 256 / 4 by omega, s2 _ (by omega) _ (by omega)]
    unfold f2; omega
theorem mapD_comp (k : Nat) : ∀ x, mapD f2 k (mapD f1 k x) = mapD (fun b => f2 (f1 b)) k x := by
  induction k with
  | zero => intro x; rfl
  | succ k ih =>
    intro x
    have := f1_lt (x % 256) (by omega)
    rw [mapD_succ, mapD_succ f1, mapD_succ (fun b => f2 (f1 b)), show (f1 (x % 256) + 256 * mapD f1 k (x / 256)) % 256 = f1 (x % 256) by omega, show (f1 (x % 256) + 256 * mapD f1 k (x / 256)) / 256 = mapD f1 k (x / 256) by omega, ih]
theorem mapD_low (k x : Nat) : mapD (fun b => f2 (f1 b)) k x % 16 ≤ 4 := by
  cases k with
  | zero => simp [mapD]
  | succ k =>
    rw [mapD_succ]
    have := (g_le (x % 256) (by omega)).1
    omega
theorem swar3 (k : Nat) : ∀ x, ((mapD (fun b => f2 (f1 b)) k x) / 16 + mapD (fun b => f2 (f1 b)) k x) &&& rep 15 k = mapD (popF 8) k x := by
  induction k with
  | zero => intro x; simp [rep, mapD]
  | succ k ih =>
    intro x
    have hr := rep_mod 15 k (by decide)
    have hg := g_le (x % 256) (by omega)
    have hp := h_pop (x % 256) (by omega)
    have hl := mapD_low k (x / 256)
    have hi := ih (x / 256)
    rw [andB, hr.1, hr.2, mapD_succ, mapD_succ (popF 8)]
    generalize mapD (fun b => f2 (f1 b)) k (x / 256) = y at *
    generalize f2 (f1 (x % 256)) = g at *
    rw [show ((g + 256 * y) / 16 + (g + 256 * y)) / 256 = y / 16 + y by omega, hi, show (15 : Nat) = 2 ^ 4 - 1 from rfl, Nat.and_two_pow_sub_one_eq_mod]
    omega
theorem pop_digits (x : Nat) (hx : x < 2 ^ 64) : popF 64 x = popF 8 (x % 256) + popF 8 (x / 256 % 256) + popF 8 (x / 256 / 256 % 256) + popF 8 (x / 256 / 256 / 256 % 256) + popF 8 (x / 256 / 256 / 256 / 256 % 256)
    + popF 8 (x / 256 / 256 / 256 / 256 / 256 % 256) + popF 8 (x / 256 / 256 / 256 / 256 / 256 / 256 % 256) + popF 8 (x / 256 / 256 / 256 / 256 / 256 / 256 / 256 % 256) := by
  have st : ∀ f y, 8 ≤ f → popF f y = popF 8 (y % 256) + popF (f - 8) (y / 256) := fun f y hf => by
    have := popF_add 8 f (y % 256) (y / 256) (by omega) hf
    rw [show y % 256 + 2 ^ 8 * (y / 256) = y by omega] at this
    exact this
  rw [st 64 x (by decide), st 56 _ (by decide), st 48 _ (by decide), st 40 _ (by decide), st 32 _ (by decide), st 24 _ (by decide), st 16 _ (by decide), st 8 _ (by decide)]
  simp only [popF]
  omega
theorem divk (L Q : Nat) {M : Nat} (hL : L < M) : (L + M * Q) / M = Q := by
  rw [Nat.add_mul_div_left _ _ (by omega), Nat.div_eq_of_lt hL, Nat.zero_add]
theorem sum8 (d0 d1 d2 d3 d4 d5 d6 d7 : Nat) (b0 : d0 ≤ 8) (b1 : d1 ≤ 8) (b2 : d2 ≤ 8) (b3 : d3 ≤ 8) (b4 : d4 ≤ 8) (b5 : d5 ≤ 8) (b6 : d6 ≤ 8) (b7 : d7 ≤ 8) (x3 x4 x5 x6 : Nat)
    (h3 : x3 = d0 + 256 * (d1 + 256 * (d2 + 256 * (d3 + 256 * (d4 + 256 * (d5 + 256 * (d6 + 256 * d7))))))) (h4 : x4 = x3 + x3 / 2 ^ 8) (h5 : x5 = x4 + x4 / 2 ^ 16) (h6 : x6 = x5 + x5 / 2 ^ 32) :
    x6 % 128 = d0 + d1 + d2 + d3 + d4 + d5 + d6 + d7 ∧ x3 < 650000000000000000 ∧ x4 < 660000000000000000 ∧ x5 < 670000000000000000 ∧ x6 < 680000000000000000 := by
  have e3 : x3 / 2 ^ 8 = d1 + 256 * (d2 + 256 * (d3 + 256 * (d4 + 256 * (d5 + 256 * (d6 + 256 * d7))))) := by rw [h3]; exact divk d0 _ (by clear h3 h4 h5 h6; omega)
  have f4 : x4 = ((d0 + d1) + 256 * (d1 + d2)) + 2 ^ 16 * ((d2 + d3) + 256 * ((d3 + d4) + 256 * ((d4 + d5) + 256 * ((d5 + d6) + 256 * ((d6 + d7) + 256 * d7))))) := by rw [h4, e3, h3]; clear e3 h3 h4 h5 h6 b0 b1 b2 b3 b4 b5 b6 b7; omega
  have e4 : x4 / 2 ^ 16 = (d2 + d3) + 256 * ((d3 + d4) + 256 * ((d4 + d5) + 256 * ((d5 + d6) + 256 * ((d6 + d7) + 256 * d7)))) := by rw [f4]; exact divk _ _ (by clear h3 h4 h5 h6 e3 f4 b3 b4 b5 b6 b7; omega)
  have f5 : x5 = ((d0 + d1 + d2 + d3) + 256 * ((d1 + d2 + d3 + d4) + 256 * ((d2 + d3 + d4 + d5) + 256 * (d3 + d4 + d5 + d6)))) + 2 ^ 32 * ((d4 + d5 + d6 + d7) + 256 * ((d5 + d6 + d7) + 256 * ((d6 + d7) + 256 * d7))) := by rw [h5, e4, f4]; clear e3 h3 h4 h5 h6 e4 f4 b0 b1 b2 b3 b4 b5 b6 b7; omega
  have e5 : x5 / 2 ^ 32 = (d4 + d5 + d6 + d7) + 256 * ((d5 + d6 + d7) + 256 * ((d6 + d7) + 256 * d7)) := by rw [f5]; exact divk _ _ (by clear h3 h4 h5 h6 e3 f4 e4 f5 b7; omega)
  have f6 : x6 = (d0 + d1 + d2 + d3 + d4 + d5 + d6 + d7) + 128 * (2 * ((d1 + d2 + d3 + d4 + d5 + d6 + d7) + 256 * ((d2 + d3 + d4 + d5 + d6 + d7) + 256 * (d3 + d4 + d5 + d6 + d7)) + 16777216 * ((d4 + d5 + d6 + d7) + 256 * ((d5 + d6 + d7) + 256 * ((d6 + d7) + 256 * d7))))) := by rw [h6, e5, f5]; clear e3 h3 h4 h5 h6 e4 f4 e5 f5 b0 b1 b2 b3 b4 b5 b6 b7; omega
  clear h4 h5 h6 e3 e4 e5
  refine ⟨?_, ?_, ?_, ?_, ?_⟩
  · rw [f6, Nat.add_mul_mod_self_left, Nat.mod_eq_of_lt (by clear f4 f5 f6 h3; omega)]
  · rw [h3]; clear f4 f5 f6 h3; omega
  · rw [f4]; clear f4 f5 f6 h3; omega
  · rw [f5]; clear f4 f5 f6 h3; omega
  · rw [f6]; clear f4 f5 f6 h3; omega
theorem swar_sum (x : Nat) (hx : x < 2 ^ 64) (x3 x4 x5 x6 : Nat) (h3 : x3 = mapD (popF 8) 8 x) (h4 : x4 = x3 + x3 / 2 ^ 8) (h5 : x5 = x4 + x4 / 2 ^ 16) (h6 : x6 = x5 + x5 / 2 ^ 32) :
    x6 % 128 = popF 64 x ∧ x3 < 650000000000000000 ∧ x4 < 660000000000000000 ∧ x5 < 670000000000000000 ∧ x6 < 680000000000000000 := by
  rw [pop_digits x hx]
  exact sum8 _ _ _ _ _ _ _ _ (popF_le 8 _) (popF_le 8 _) (popF_le 8 _) (popF_le 8 _) (popF_le 8 _) (popF_le 8 _) (popF_le 8 _) (popF_le 8 _) x3 x4 x5 x6 h3 h4 h5 h6
/-! ## Tables and the machine's words -/
theorem nAnd (k : IntKind) (hk : k.signed = false) (a b : Nat) (ha : (a : Int) ≤ k.max) (hb : (b : Int) ≤ k.max) : vAnd k a b = ((a &&& b : Nat) : Int) := by
  have hm : k.max < 2 ^ k.bits := by cases k <;> decide
  unfold vAnd
  have e : ∀ n : Nat, (n : Int) ≤ k.max → (BitVec.ofInt k.bits (n : Int)).toNat = n := fun n hn => by
    have := ofInt_toNat k.bits n
    rw [Int.emod_eq_of_lt (by omega) (by omega)] at this
    omega
  rw [BitVec.toNat_and, e a ha, e b hb]
  have h1 : a &&& b ≤ a := Nat.and_le_left
  have := vWrap_id (k := k) (n := ((a &&& b : Nat) : Int)) (by
    have : k.min ≤ 0 := by cases k <;> decide
    omega) (by omega)
  unfold vWrap at this
  exact this
theorem nShr (k : IntKind) (a n : Nat) (hn : n ≤ k.bits) : vShr k a n = ((a / 2 ^ n : Nat) : Int) := by
  rw [vShr_eq k a n hn, Int.natCast_ediv]; norm_cast
def len8 : List UInt8 := (List.range 256).map fun n => UInt8.ofNat (blen n)
def pop8 : List UInt8 := (List.range 256).map fun n => UInt8.ofNat (popF 8 n)
theorem len8_at (j : Nat) (hj : j < len8.length) : (len8[j].toNat : Int) = blen j := by
  have hj' : j < 256 := by simpa [len8] using hj
  have := blen_le (n := j) (k := 8) (by omega)
  have h : len8[j]? = some (UInt8.ofNat (blen j)) := by rw [len8, List.getElem?_map, List.getElem?_range hj']; rfl
  rw [List.getElem?_eq_getElem hj] at h
  rw [Option.some.inj h, UInt8.toNat_ofNat']; omega
theorem pop8_at (j : Nat) (hj : j < pop8.length) : (pop8[j].toNat : Int) = popF 8 j := by
  have := popF_le 8 j
  have hj' : j < 256 := by rw [pop8, List.length_map, List.length_range] at hj; exact hj
  have h : pop8[j]? = some (UInt8.ofNat (popF 8 j)) := by rw [pop8, List.getElem?_map, List.getElem?_range hj']; rfl
  rw [List.getElem?_eq_getElem hj] at h
  rw [Option.some.inj h, UInt8.toNat_ofNat']; omega
theorem len8_n : len8.length = 256 := by simp [len8]
theorem pop8_n : pop8.length = 256 := by simp [pop8]
def tab32 : List Nat := [0, 1, 28, 2, 29, 14, 24, 3, 30, 22, 20, 15, 25, 17, 4, 8, 31, 27, 13, 23, 21, 19, 16, 7, 26, 12, 18, 6, 11, 5, 10, 9]
def tab64 : List Nat := [0, 1, 56, 2, 57, 49, 28, 3, 61, 58, 42, 50, 38, 29, 17, 4, 62, 47, 59, 36, 45, 43, 51, 22, 53, 39, 33, 30, 24, 18, 12, 5, 63, 55, 48, 27, 60, 41, 37, 16, 46, 35, 44, 21, 52, 32, 23, 11, 54, 26, 40, 15, 34, 20, 31, 10, 25, 14, 19, 9, 13, 8, 7, 6]
theorem tab32_at : ∀ k < 32, tab32[2 ^ k * 125613361 % 2 ^ 32 / 2 ^ 27]? = some k := by decide +kernel
theorem tab64_at : ∀ k < 64, tab64[2 ^ k * 285870213051353865 % 2 ^ 64 / 2 ^ 58]? = some k := by decide +kernel
def tabV (l : List Nat) : List Value := l.map fun (n : Nat) => Value.int .u8 (n : Int)
end Go.Proofs.YtcpniokopahakaaDoor.Bm
