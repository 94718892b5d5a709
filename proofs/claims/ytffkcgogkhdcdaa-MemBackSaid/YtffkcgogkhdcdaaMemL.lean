/- Package mem: Load. -/
import Derived.Test.YtffkcgogkhdcdaaPages4
set_option maxRecDepth 100000
set_option maxHeartbeats 4000000
set_option linter.unusedVariables false
set_option linter.unusedSimpArgs false
namespace Go.Proofs.Ytffkcgogkhdcdaa.Mem
open Go Go.Proofs.Ytffkcgogkhdcdaa.Eng Go.RowKit
/-- The number that bytes are, the lowest first. -/
def leV : List UInt8 → Nat
  | [] => 0
  | c :: r => c.toNat + 256 * leV r
theorem leV_lt : ∀ l : List UInt8, leV l < 256 ^ l.length
  | [] => by simp [leV]
  | c :: r => by
    have h1 := leV_lt r
    have h2 := c.toNat_lt
    rw [leV, List.length_cons, Nat.pow_succ]
    omega
theorem leV_leB : ∀ (n : Nat) (u : Int), ((leV (leB n u) : Nat) : Int) = u % 256 ^ n
  | 0, u => by simp [leB, leV]
  | n + 1, u => by
    rw [leB, leV]
    push_cast
    rw [leV_leB n (u / 256), byteOf_val, Int.pow_succ, Int.mul_comm (256 ^ n) 256]
    have hM : (0 : Int) < 256 ^ n := Int.pow_pos (by decide)
    generalize (256 : Int) ^ n = M at hM
    have h1 := Int.emod_nonneg (u / 256) (Int.ne_of_gt hM)
    have h2 := Int.emod_lt_of_pos (u / 256) hM
    have h3 := Int.emod_add_mul_ediv (u / 256) M
    generalize u / 256 % M = r at *
    generalize u / 256 / M = q at *
    have h4 : u = (u % 256 + 256 * r) + (256 * M) * q := by
      have e : 256 * M * q = 256 * (M * q) := Int.mul_assoc ..
      rw [e]
      generalize M * q = t at *
      omega
    have h5 : (u % 256 + 256 * r) % (256 * M) = u % 256 + 256 * r := Int.emod_eq_of_lt (by omega) (by omega)
    conv => rhs; rw [h4, Int.add_mul_emod_self_left]
    exact h5.symm
def sgn (op : Int) : Prop := op = 40 ∨ op = 41 ∨ op = 44 ∨ op = 46 ∨ op = 48 ∨ op = 50 ∨ op = 52
instance (op : Int) : Decidable (sgn op) := by unfold sgn; infer_instance
noncomputable def lowV (n : Int) (w : Int) : Int := vShr .i64 (vWrap .i64 (vShl .u64 n (64 - 8 * w))) (64 - 8 * w)
noncomputable def ldV (op : Int) (n : Int) : Int := if sgn op then lowV n (Ins.wd op) else vWrap .i64 n
theorem isSigned (op : Int) (w : World) : Fc Try.prog 55 #[.int .u8 op] w (fun r w' => (∃ b, r = .bool b ∧ (b = true ↔ sgn op)) ∧ w = w') := by
  refine Fc.of Try.func55 rfl (by kernel_rfl) ?_
  have H := Sat.start w
  unfold sgn
  refine bk ?_
  refine cI (fun c1 => ?_) (fun c1 => ?_)
  · replace c1 := vEq_t (c1)
    refine cT (vEq_T (by assumption)) ?_
    refine Done.mk ?_
    refine ⟨?_, ?_⟩
    · refine ⟨true, ?_⟩
      refine ⟨?_, ?_⟩
      · exact congrArg Value.bool (rfl)
      (simp; omega)
    rfl
  replace c1 := vEq_f (c1)
  refine cI (fun c2 => ?_) (fun c2 => ?_)
  · replace c2 := vEq_t (c2)
    refine cT (vEq_T (by assumption)) ?_
    refine Done.mk ?_
    refine ⟨?_, ?_⟩
    · refine ⟨true, ?_⟩
      refine ⟨?_, ?_⟩
      · exact congrArg Value.bool (rfl)
      (simp; omega)
    rfl
  replace c2 := vEq_f (c2)
  refine cI (fun c3 => ?_) (fun c3 => ?_)
  · replace c3 := vEq_t (c3)
    refine cT (vEq_T (by assumption)) ?_
    refine Done.mk ?_
    refine ⟨?_, ?_⟩
    · refine ⟨true, ?_⟩
      refine ⟨?_, ?_⟩
      · exact congrArg Value.bool (rfl)
      (simp; omega)
    rfl
  replace c3 := vEq_f (c3)
  refine cI (fun c4 => ?_) (fun c4 => ?_)
  · replace c4 := vEq_t (c4)
    refine cT (vEq_T (by assumption)) ?_
    refine Done.mk ?_
    refine ⟨?_, ?_⟩
    · refine ⟨true, ?_⟩
      refine ⟨?_, ?_⟩
      · exact congrArg Value.bool (rfl)
      (simp; omega)
    rfl
  replace c4 := vEq_f (c4)
  refine cI (fun c5 => ?_) (fun c5 => ?_)
  · replace c5 := vEq_t (c5)
    refine cT (vEq_T (by assumption)) ?_
    refine Done.mk ?_
    refine ⟨?_, ?_⟩
    · refine ⟨true, ?_⟩
      refine ⟨?_, ?_⟩
      · exact congrArg Value.bool (rfl)
      (simp; omega)
    rfl
  replace c5 := vEq_f (c5)
  refine cI (fun c6 => ?_) (fun c6 => ?_)
  · replace c6 := vEq_t (c6)
    refine cT (vEq_T (by assumption)) ?_
    refine Done.mk ?_
    refine ⟨?_, ?_⟩
    · refine ⟨true, ?_⟩
      refine ⟨?_, ?_⟩
      · exact congrArg Value.bool (rfl)
      (simp; omega)
    rfl
  replace c6 := vEq_f (c6)
  refine cI (fun c7 => ?_) (fun c7 => ?_)
  · replace c7 := vEq_t (c7)
    refine Done.mk ?_
    refine ⟨?_, ?_⟩
    · refine ⟨true, ?_⟩
      refine ⟨?_, ?_⟩
      · exact congrArg Value.bool (rfl)
      (simp; omega)
    rfl
  replace c7 := vEq_f (c7)
  refine Done.mk ?_
  refine ⟨?_, ?_⟩
  · refine ⟨false, ?_⟩
    refine ⟨?_, ?_⟩
    · exact congrArg Value.bool (rfl)
    (simp; omega)
  rfl
theorem lowC (n m : Int) (hn : 0 ≤ n ∧ n ≤ 18446744073709551615) (hm : 1 ≤ m ∧ m ≤ 8) (w : World) : Fc Try.prog 56 #[.int .u64 n, .int .i64 m] w (fun r w' => (∃ q, r = .int .i64 q ∧ q = lowV n m) ∧ w = w') := by
  refine Fc.of Try.func56 rfl (by kernel_rfl) ?_
  have H := Sat.start w
  refine eqI64 (by omega) ?_
  refine eqI64 (by omega) ?_
  refine ShiftP.mk (by omega) ?_
  refine EqP.keep ?_
  refine rConvInt rfl rfl ?_
  refine ShiftP.mk (by omega) ?_
  refine EqP.keep ?_
  refine Done.mk ?_
  refine ⟨?_, ?_⟩
  · refine ⟨vShr IntKind.i64 (vWrap IntKind.i64 (vShl IntKind.u64 n (64 - 8 * m))) (64 - 8 * m), ?_⟩
    refine ⟨?_, ?_⟩
    · refine int_eq ?_
      omega
    rfl
  rfl
theorem loadOff {g : Glob} {w : World} {l : List As} {p : Nat} {v mo : Value} {ps : List Page} (H : Sat g w (Pt p [v, mo] 110 :: Sl 116 256 enP v ps :: l)) (op base off : Int) (hop : op < 54) (hw : 0 < Ins.wd op) (ho : off < 0 ∨ 4294967295 < off) :
    Fc Try.prog 30 #[.pointer (some ⟨p, 0, none⟩), .int .u8 op, .int .i64 base, .int .i64 off] w (fun r w' => r = .tuple #[.int .i64 0, .int .i64 1] ∧ Sat g w' (Pt p [v, mo] 110 :: Sl 116 256 enP v ps :: l)) := by
  refine Fc.of Try.func30 rfl (by kernel_rfl) ?_
  refine CallP.mk (Fc.imp (Go.Proofs.Ytffkcgogkhdcdaa.Ins.width _ _) ?_)
  rintro _ _ ⟨⟨r1, ⟨rfl, h1⟩⟩, rfl⟩
  refine rConvU32M rfl rfl ?_
  refine rConvI64 (by omega) rfl rfl ?_
  refine bk ?_
  refine br_f (vEq_F (by omega)) ?_
  refine cF (vLe_F (by assumption)) ?_
  refine br (fun c1 => ?_) (fun c1 => ?_)
  · replace c1 := vLt_t (c1)
    refine cT rfl ?_
    refine Done.mk ?_
    exact ⟨rfl, H⟩
  replace c1 := vLt_f (c1)
  refine cT (vLt_T (by omega)) ?_
  refine Done.mk ?_
  exact ⟨rfl, H⟩
theorem storeOff {g : Glob} {w : World} {l : List As} {p : Nat} {v mo : Value} {ps : List Page} (H : Sat g w (Pt p [v, mo] 110 :: Sl 116 256 enP v ps :: l)) (op base off u : Int) (hop : 54 ≤ op) (hw : 0 < Ins.wd op) (ho : off < 0 ∨ 4294967295 < off) :
    Fc Try.prog 29 #[.pointer (some ⟨p, 0, none⟩), .int .u8 op, .int .i64 base, .int .i64 off, .int .i64 u] w (fun r w' => r = .int .i64 1 ∧ Sat g w' (Pt p [v, mo] 110 :: Sl 116 256 enP v ps :: l)) := by
  refine Fc.of Try.func29 rfl (by kernel_rfl) ?_
  refine CallP.mk (Fc.imp (Go.Proofs.Ytffkcgogkhdcdaa.Ins.width _ _) ?_)
  rintro _ _ ⟨⟨r1, ⟨rfl, h1⟩⟩, rfl⟩
  refine rConvU32M rfl rfl ?_
  refine rConvI64 (by omega) rfl rfl ?_
  refine bk ?_
  refine br_f (vEq_F (by omega)) ?_
  refine cF (vLt_F (by assumption)) ?_
  refine br (fun c1 => ?_) (fun c1 => ?_)
  · replace c1 := vLt_t (c1)
    refine cT rfl ?_
    refine Done.mk ?_
    exact ⟨rfl, H⟩
  replace c1 := vLt_f (c1)
  refine cT (vLt_T (by omega)) ?_
  refine Done.mk ?_
  exact ⟨rfl, H⟩
end Go.Proofs.Ytffkcgogkhdcdaa.Mem
