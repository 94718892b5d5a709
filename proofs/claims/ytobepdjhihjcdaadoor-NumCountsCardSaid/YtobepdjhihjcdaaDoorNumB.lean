/- What package num computes, told in bit vectors. -/
import Derived.Test.YtobepdjhihjcdaaDoorNumM
set_option linter.unusedVariables false
namespace Go.Proofs.YtobepdjhihjcdaaDoor.Num
open Go Go.Proofs.YtobepdjhihjcdaaDoor.Eng
/-! ## Wraps -/
theorem u32_int (X : BitVec 32) : vWrap .u32 X.toInt = X.toNat := by
  have h := BitVec.toInt_eq_toNat_cond X
  have h2 := X.isLt
  unfold vWrap; simp only [IntKind.wrap, IntKind.bits, IntKind.signed]
  rw [h]; split <;> simp <;> omega
theorem u64_int (X : BitVec 64) : vWrap .u64 X.toInt = X.toNat := by
  have h := BitVec.toInt_eq_toNat_cond X
  have h2 := X.isLt
  unfold vWrap; simp only [IntKind.wrap, IntKind.bits, IntKind.signed]
  rw [h]; split <;> simp <;> omega
theorem i32_nat (X : BitVec 32) : vWrap .i32 (X.toNat : Int) = X.toInt := by
  have h := BitVec.toInt_eq_toNat_cond X
  have h2 := X.isLt
  rw [h]; unfold vWrap; simp [IntKind.wrap, IntKind.bits, IntKind.signed]
  split <;> split <;> omega
theorem i64_nat (X : BitVec 64) : vWrap .i64 (X.toNat : Int) = X.toInt := by
  have h := BitVec.toInt_eq_toNat_cond X
  have h2 := X.isLt
  rw [h]; unfold vWrap; simp [IntKind.wrap, IntKind.bits, IntKind.signed]
  split <;> split <;> omega
theorem rng32 (X : BitVec 32) : -2147483648 ≤ X.toInt ∧ X.toInt ≤ 2147483647 := by
  have h := BitVec.toInt_eq_toNat_cond X
  have h2 := X.isLt
  rw [h]; split <;> omega
theorem rng64 (X : BitVec 64) : -9223372036854775808 ≤ X.toInt ∧ X.toInt ≤ 9223372036854775807 := by
  have h := BitVec.toInt_eq_toNat_cond X
  have h2 := X.isLt
  rw [h]; split <;> omega
theorem i32_int (X : BitVec 32) : vWrap .i32 X.toInt = X.toInt := wi32 (rng32 X)
theorem i64_int32 (X : BitVec 32) : vWrap .i64 X.toInt = X.toInt := wi64 (by have := rng32 X; omega)
theorem i64_int (X : BitVec 64) : vWrap .i64 X.toInt = X.toInt := wi64 (rng64 X)
theorem w32 (n : Nat) : vWrap .u32 (n : Int) = ((BitVec.ofNat 32 n).toNat : Int) := by
  unfold vWrap; simp [IntKind.wrap, IntKind.bits, IntKind.signed]
theorem w64 (n : Nat) : vWrap .u64 (n : Int) = ((BitVec.ofNat 64 n).toNat : Int) := by
  unfold vWrap; simp [IntKind.wrap, IntKind.bits, IntKind.signed]
theorem wz32' (n : Int) : vWrap .u32 n = ((BitVec.ofInt 32 n).toNat : Int) := by
  rw [ofInt_toNat]; unfold vWrap; simp [IntKind.wrap, IntKind.bits, IntKind.signed]
theorem wz64' (n : Int) : vWrap .u64 n = ((BitVec.ofInt 64 n).toNat : Int) := by
  rw [ofInt_toNat]; unfold vWrap; simp [IntKind.wrap, IntKind.bits, IntKind.signed]
theorem ofInt_nat {N : Nat} (X : BitVec N) : BitVec.ofInt N (X.toNat : Int) = X := by
  apply BitVec.eq_of_toNat_eq; simp
/-! ## Sums, products, bits -/
section
variable (X Y : BitVec 32)
theorem a32_0 : rkS .u32 32 0 X.toNat Y.toNat = (X + Y).toNat := by
  rw [rkS, if_pos rfl, ← Int.natCast_add, w32]; simp
theorem a32_1 : rkS .u32 32 1 X.toNat Y.toNat = (X - Y).toNat := by
  rw [rkS, if_neg (by decide), if_pos rfl, wz32']
  have e : BitVec.ofInt 32 ((X.toNat : Int) - Y.toNat) = X - Y := by
    apply BitVec.eq_of_toNat_eq
    have h1 := X.isLt
    have h2 := Y.isLt
    simp only [BitVec.toNat_ofInt, BitVec.toNat_sub]; omega
  rw [e]
theorem a32_2 : rkS .u32 32 2 X.toNat Y.toNat = (X * Y).toNat := by
  rw [rkS, if_neg (by decide), if_neg (by decide), if_pos rfl, wz32', BitVec.ofInt_mul, ofInt_nat, ofInt_nat]
theorem a32_7 : rkS .u32 32 7 X.toNat Y.toNat = (X &&& Y).toNat := by
  rw [rkS, if_neg (by decide), if_neg (by decide), if_neg (by decide), if_pos rfl]
  unfold vAnd
  rw [show IntKind.bits .u32 = 32 from rfl, ofInt_nat, ofInt_nat]
  have := w32 (X &&& Y).toNat
  unfold vWrap at this
  rw [this]; simp
theorem a32_8 : rkS .u32 32 8 X.toNat Y.toNat = (X ||| Y).toNat := by
  rw [rkS, if_neg (by decide), if_neg (by decide), if_neg (by decide), if_neg (by decide), if_pos rfl]
  unfold vOr
  rw [show IntKind.bits .u32 = 32 from rfl, ofInt_nat, ofInt_nat]
  have := w32 (X ||| Y).toNat
  unfold vWrap at this
  rw [this]; simp
theorem a32_9 : rkS .u32 32 9 X.toNat Y.toNat = (X ^^^ Y).toNat := by
  rw [rkS, if_neg (by decide), if_neg (by decide), if_neg (by decide), if_neg (by decide), if_neg (by decide), if_pos rfl]
  unfold vXor
  rw [show IntKind.bits .u32 = 32 from rfl, ofInt_nat, ofInt_nat]
  have := w32 (X ^^^ Y).toNat
  unfold vWrap at this
  rw [this]; simp
theorem rk32 {which : Int} {R : BitVec 32} (hw : which = 0 ∨ which = 1 ∨ which = 2 ∨ 7 ≤ which ∧ which ≤ 14) (h : rkS .u32 32 which X.toNat Y.toNat = R.toNat) : twoS (106 + which) X.toInt Y.toInt = (R.toInt, 0) := by
  rw [twoS, if_neg (by omega), if_neg (by omega), if_neg (by omega), if_neg (by omega), if_pos (by omega), u32_int, u32_int, show 106 + which - 106 = which by omega, h, i32_nat, i64_int32]
end
section
variable (X Y : BitVec 64)
theorem a64_0 : rkS .u64 64 0 X.toNat Y.toNat = (X + Y).toNat := by
  rw [rkS, if_pos rfl, ← Int.natCast_add, w64]; simp
theorem a64_1 : rkS .u64 64 1 X.toNat Y.toNat = (X - Y).toNat := by
  rw [rkS, if_neg (by decide), if_pos rfl, wz64']
  have e : BitVec.ofInt 64 ((X.toNat : Int) - Y.toNat) = X - Y := by
    apply BitVec.eq_of_toNat_eq
    have h1 := X.isLt
    have h2 := Y.isLt
    simp only [BitVec.toNat_ofInt, BitVec.toNat_sub]; omega
  rw [e]
theorem a64_2 : rkS .u64 64 2 X.toNat Y.toNat = (X * Y).toNat := by
  rw [rkS, if_neg (by decide), if_neg (by decide), if_pos rfl, wz64', BitVec.ofInt_mul, ofInt_nat, ofInt_nat]
theorem a64_7 : rkS .u64 64 7 X.toNat Y.toNat = (X &&& Y).toNat := by
  rw [rkS, if_neg (by decide), if_neg (by decide), if_neg (by decide), if_pos rfl]
  unfold vAnd
  rw [show IntKind.bits .u64 = 64 from rfl, ofInt_nat, ofInt_nat]
  have := w64 (X &&& Y).toNat
  unfold vWrap at this
  rw [this]; simp
theorem a64_8 : rkS .u64 64 8 X.toNat Y.toNat = (X ||| Y).toNat := by
  rw [rkS, if_neg (by decide), if_neg (by decide), if_neg (by decide), if_neg (by decide), if_pos rfl]
  unfold vOr
  rw [show IntKind.bits .u64 = 64 from rfl, ofInt_nat, ofInt_nat]
  have := w64 (X ||| Y).toNat
  unfold vWrap at this
  rw [this]; simp
theorem a64_9 : rkS .u64 64 9 X.toNat Y.toNat = (X ^^^ Y).toNat := by
  rw [rkS, if_neg (by decide), if_neg (by decide), if_neg (by decide), if_neg (by decide), if_neg (by decide), if_pos rfl]
  unfold vXor
  rw [show IntKind.bits .u64 = 64 from rfl, ofInt_nat, ofInt_nat]
  have := w64 (X ^^^ Y).toNat
  unfold vWrap at this
  rw [this]; simp
theorem rk64 {which : Int} {R : BitVec 64} (hw : 0 ≤ which ∧ which ≤ 2 ∨ 7 ≤ which ∧ which ≤ 14) (h : rkS .u64 64 which X.toNat Y.toNat = R.toNat) : twoS (124 + which) X.toInt Y.toInt = (R.toInt, 0) := by
  rw [twoS, if_neg (by omega), if_neg (by omega), if_neg (by omega), if_neg (by omega), if_neg (by omega), if_pos (by omega), u64_int, u64_int, show 124 + which - 124 = which by omega, h, i64_nat]
end
end Go.Proofs.YtobepdjhihjcdaaDoor.Num
