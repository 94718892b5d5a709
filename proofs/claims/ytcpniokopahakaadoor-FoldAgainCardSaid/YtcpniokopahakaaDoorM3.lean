/- Texts of this claim, one behind the other. -/
import Derived.Test.YtcpniokopahakaaDoorM2
import Derived.Test.YtcpniokopahakaaDoorM1
import Derived.Lib.ConvBytes
import Derived.Lib.AtoiErrMem
import Derived.Test.YtcpniokopahakaaDoorRows
import Derived.Lib.ValidLaws
import Derived.WalkKit
import Derived.ProofKit
import Derived.JoinedCond
import Derived.OpenShut
import Derived.ShutString
import Derived.ChangeOld
import Derived.Below
import Derived.ChangeArms
/- Bits of numbers that are not negative, and conversions that cut. -/
set_option linter.unusedVariables false
set_option linter.unusedSimpArgs false
namespace Go.Proofs.YtcpniokopahakaaDoor.Eng
open Go Go.RowKit
section
variable {P : Program} {w : World} {K : Int → Prop} {KV : Value → World → Prop}
theorem ofInt_small (k : IntKind) {a : Nat} (h : (a : Int) ≤ k.max) : (BitVec.ofInt k.bits (a : Int)).toNat = a := by
  have hmax : k.max < 2 ^ k.bits := by cases k <;> decide
  have := ofInt_toNat k.bits a
  rw [Int.emod_eq_of_lt (by omega) (by omega)] at this
  omega
theorem wrap_small (k : IntKind) {a : Nat} (h : (a : Int) ≤ k.max) : k.wrap (a : Int) = a := by
  have := vWrap_id (k := k) (n := (a : Int)) (by
    have : k.min ≤ 0 := by cases k <;> decide
    omega) h
  unfold vWrap at this
  exact this
theorem wrap_small' (k : IntKind) {a : Nat} (h : (a : Int) ≤ k.max) : vWrap k (a : Int) = a := by
  unfold vWrap; exact wrap_small k h
theorem xorN (k : IntKind) (m : Nat) (hm : k.max = 2 ^ m - 1) {a b : Nat} (ha : (a : Int) ≤ k.max) (hb : (b : Int) ≤ k.max) : vXor k a b = ((a ^^^ b : Nat) : Int) ∧ ((a ^^^ b : Nat) : Int) ≤ k.max := by
  have p : ((2 ^ m : Nat) : Int) = 2 ^ m := by norm_cast
  have h1 : a < 2 ^ m := by omega
  have h2 : b < 2 ^ m := by omega
  have h3 := Nat.xor_lt_two_pow h1 h2
  have h4 : ((a ^^^ b : Nat) : Int) ≤ k.max := by omega
  refine ⟨?_, h4⟩
  unfold vXor
  rw [BitVec.toNat_xor, ofInt_small k ha, ofInt_small k hb, wrap_small k h4]
theorem orN (k : IntKind) (m : Nat) (hm : k.max = 2 ^ m - 1) {a b : Nat} (ha : (a : Int) ≤ k.max) (hb : (b : Int) ≤ k.max) : vOr k a b = ((a ||| b : Nat) : Int) ∧ ((a ||| b : Nat) : Int) ≤ k.max := by
  have p : ((2 ^ m : Nat) : Int) = 2 ^ m := by norm_cast
  have h1 : a < 2 ^ m := by omega
  have h2 : b < 2 ^ m := by omega
  have h3 := Nat.or_lt_two_pow h1 h2
  have h4 : ((a ||| b : Nat) : Int) ≤ k.max := by omega
  refine ⟨?_, h4⟩
  unfold vOr
  rw [BitVec.toNat_or, ofInt_small k ha, ofInt_small k hb, wrap_small k h4]
theorem andN (k : IntKind) {a b : Nat} (ha : (a : Int) ≤ k.max) (hb : (b : Int) ≤ k.max) : vAnd k a b = ((a &&& b : Nat) : Int) := by
  have h3 : a &&& b ≤ a := Nat.and_le_left
  have h4 : ((a &&& b : Nat) : Int) ≤ k.max := by omega
  unfold vAnd
  rw [BitVec.toNat_and, ofInt_small k ha, ofInt_small k hb, wrap_small k h4]
theorem xor_ones (n : Nat) {a : Nat} (h : a < 2 ^ n) : (2 ^ n - 1) ^^^ a = 2 ^ n - 1 - a := by
  apply Nat.eq_of_testBit_eq
  intro i
  rw [Nat.testBit_xor, Nat.testBit_two_pow_sub_one, show 2 ^ n - 1 - a = 2 ^ n - (a + 1) by omega, Nat.testBit_two_pow_sub_succ h]
  by_cases hi : i < n
  · simp [hi]
  · have : a.testBit i = false := Nat.testBit_lt_two_pow (Nat.lt_of_lt_of_le h (Nat.pow_le_pow_right (by decide) (by omega)))
    simp [hi, this]
theorem byteIs {x : Int} {n : Nat} (h : x = (n : Int) % 256) : x = ((UInt8.ofNat n).toNat : Int) := by
  rw [UInt8.toNat_ofNat', h]; exact (Int.natCast_emod n 256).symm
/-- a mask of the lowest n bits -/
theorem eqAndMask {k : IntKind} {x y : Int} (n : Nat) (M : Int) (hM : M = 2 ^ n) (hy : y = M - 1) (hn : n < k.bits) (h : K (x % M)) : EqP (vAnd k x y) K := ⟨_, by rw [hy, hM]; exact vAnd_mask k x n hn, hM ▸ h⟩
theorem eqShrL {k : IntKind} {x y : Int} (n : Nat) (M : Int) (hM : M = 2 ^ n) (hy : y = n) (hn : n ≤ k.bits) (h : K (x / M)) : EqP (vShr k x y) K := ⟨_, by rw [hy]; exact vShr_eq k x n hn, hM ▸ h⟩
theorem eqShrN {k : IntKind} {x y : Int} (a n : Nat) (hx : x = a) (hy : y = n) (hn : n ≤ k.bits) (h : K ((a / 2 ^ n : Nat) : Int)) : EqP (vShr k x y) K := ⟨_, by rw [hx, hy, vShr_eq k a n hn]; norm_cast, h⟩
theorem toNat_shl (k : IntKind) (x : Int) (n : Nat) : vShl k x n = vWrap k (x * 2 ^ min n k.bits) := by unfold vShl vWrap; rw [Int.toNat_natCast]

theorem eqXorU8 {x y : Int} (a b : Nat) (hx : x = a) (hy : y = b) (ha : a ≤ 255) (hb : b ≤ 255) (h : a ^^^ b ≤ 255 → K ((a ^^^ b : Nat) : Int)) : EqP (vXor .u8 x y) K := by
  obtain ⟨e, hl⟩ := xorN .u8 8 rfl (a := a) (b := b) (by show (a : Int) ≤ 255; omega) (by show (b : Int) ≤ 255; omega)
  have hl : ((a ^^^ b : Nat) : Int) ≤ 255 := hl
  exact ⟨_, by rw [hx, hy, e], h (by omega)⟩
theorem eqOrU8 {x y : Int} (a b : Nat) (hx : x = a) (hy : y = b) (ha : a ≤ 255) (hb : b ≤ 255) (h : a ||| b ≤ 255 → K ((a ||| b : Nat) : Int)) : EqP (vOr .u8 x y) K := by
  obtain ⟨e, hl⟩ := orN .u8 8 rfl (a := a) (b := b) (by show (a : Int) ≤ 255; omega) (by show (b : Int) ≤ 255; omega)
  have hl : ((a ||| b : Nat) : Int) ≤ 255 := hl
  exact ⟨_, by rw [hx, hy, e], h (by omega)⟩
theorem eqAndU8 {x y : Int} (a b : Nat) (hx : x = a) (hy : y = b) (ha : a ≤ 255) (hb : b ≤ 255) (h : a &&& b ≤ a → a &&& b ≤ b → K ((a &&& b : Nat) : Int)) : EqP (vAnd .u8 x y) K :=
  ⟨_, by rw [hx, hy, andN .u8 (by show (a : Int) ≤ 255; omega) (by show (b : Int) ≤ 255; omega)], h Nat.and_le_left Nat.and_le_right⟩
theorem eqShlU8 {x y : Int} (n : Nat) (M : Int) (hM : M = 2 ^ n) (hy : y = n) (hn : n ≤ 8) (h0 : 0 ≤ x) (h1 : x * M ≤ 255) (h : K (x * M)) : EqP (vShl .u8 x y) K := by
  refine ⟨_, ?_, h⟩
  have hp : (0 : Int) ≤ M := by rw [hM]; exact_mod_cast Nat.zero_le (2 ^ n)
  rw [hy, toNat_shl, Nat.min_eq_left (show n ≤ IntKind.bits .u8 from hn), ← hM, vWrap_id (by have := Int.mul_nonneg h0 hp; show _ ≤ _; exact Int.le_trans (by decide) this) (by exact h1)]
theorem eqShlNU8 {x y : Int} (a n : Nat) (hx : x = a) (hy : y = n) (hn : n ≤ 8) (h1 : a * 2 ^ n ≤ 255) (h : K ((a * 2 ^ n : Nat) : Int)) : EqP (vShl .u8 x y) K := by
  refine ⟨_, ?_, h⟩
  have e : ((a * 2 ^ n : Nat) : Int) = (a : Int) * 2 ^ n := by push_cast; rfl
  rw [hx, hy, toNat_shl, Nat.min_eq_left (show n ≤ IntKind.bits .u8 from hn), ← e]
  exact wrap_small' .u8 (Int.ofNat_le.2 h1)
theorem eqXorU32 {x y : Int} (a b : Nat) (hx : x = a) (hy : y = b) (ha : a ≤ 4294967295) (hb : b ≤ 4294967295) (h : a ^^^ b ≤ 4294967295 → K ((a ^^^ b : Nat) : Int)) : EqP (vXor .u32 x y) K := by
  obtain ⟨e, hl⟩ := xorN .u32 32 rfl (a := a) (b := b) (by show (a : Int) ≤ 4294967295; omega) (by show (b : Int) ≤ 4294967295; omega)
  have hl : ((a ^^^ b : Nat) : Int) ≤ 4294967295 := hl
  exact ⟨_, by rw [hx, hy, e], h (by omega)⟩
theorem eqOrU32 {x y : Int} (a b : Nat) (hx : x = a) (hy : y = b) (ha : a ≤ 4294967295) (hb : b ≤ 4294967295) (h : a ||| b ≤ 4294967295 → K ((a ||| b : Nat) : Int)) : EqP (vOr .u32 x y) K := by
  obtain ⟨e, hl⟩ := orN .u32 32 rfl (a := a) (b := b) (by show (a : Int) ≤ 4294967295; omega) (by show (b : Int) ≤ 4294967295; omega)
  have hl : ((a ||| b : Nat) : Int) ≤ 4294967295 := hl
  exact ⟨_, by rw [hx, hy, e], h (by omega)⟩
theorem eqAndU32 {x y : Int} (a b : Nat) (hx : x = a) (hy : y = b) (ha : a ≤ 4294967295) (hb : b ≤ 4294967295) (h : a &&& b ≤ a → a &&& b ≤ b → K ((a &&& b : Nat) : Int)) : EqP (vAnd .u32 x y) K :=
  ⟨_, by rw [hx, hy, andN .u32 (by show (a : Int) ≤ 4294967295; omega) (by show (b : Int) ≤ 4294967295; omega)], h Nat.and_le_left Nat.and_le_right⟩
theorem eqShlU32 {x y : Int} (n : Nat) (M : Int) (hM : M = 2 ^ n) (hy : y = n) (hn : n ≤ 32) (h0 : 0 ≤ x) (h1 : x * M ≤ 4294967295) (h : K (x * M)) : EqP (vShl .u32 x y) K := by
  refine ⟨_, ?_, h⟩
  have hp : (0 : Int) ≤ M := by rw [hM]; exact_mod_cast Nat.zero_le (2 ^ n)
  rw [hy, toNat_shl, Nat.min_eq_left (show n ≤ IntKind.bits .u32 from hn), ← hM, vWrap_id (by have := Int.mul_nonneg h0 hp; show _ ≤ _; exact Int.le_trans (by decide) this) (by exact h1)]
theorem eqShlNU32 {x y : Int} (a n : Nat) (hx : x = a) (hy : y = n) (hn : n ≤ 32) (h1 : a * 2 ^ n ≤ 4294967295) (h : K ((a * 2 ^ n : Nat) : Int)) : EqP (vShl .u32 x y) K := by
  refine ⟨_, ?_, h⟩
  have e : ((a * 2 ^ n : Nat) : Int) = (a : Int) * 2 ^ n := by push_cast; rfl
  rw [hx, hy, toNat_shl, Nat.min_eq_left (show n ≤ IntKind.bits .u32 from hn), ← e]
  exact wrap_small' .u32 (Int.ofNat_le.2 h1)
theorem eqXorU64 {x y : Int} (a b : Nat) (hx : x = a) (hy : y = b) (ha : a ≤ 18446744073709551615) (hb : b ≤ 18446744073709551615) (h : a ^^^ b ≤ 18446744073709551615 → K ((a ^^^ b : Nat) : Int)) : EqP (vXor .u64 x y) K := by
  obtain ⟨e, hl⟩ := xorN .u64 64 rfl (a := a) (b := b) (by show (a : Int) ≤ 18446744073709551615; omega) (by show (b : Int) ≤ 18446744073709551615; omega)
  have hl : ((a ^^^ b : Nat) : Int) ≤ 18446744073709551615 := hl
  exact ⟨_, by rw [hx, hy, e], h (by omega)⟩
theorem eqOrU64 {x y : Int} (a b : Nat) (hx : x = a) (hy : y = b) (ha : a ≤ 18446744073709551615) (hb : b ≤ 18446744073709551615) (h : a ||| b ≤ 18446744073709551615 → K ((a ||| b : Nat) : Int)) : EqP (vOr .u64 x y) K := by
  obtain ⟨e, hl⟩ := orN .u64 64 rfl (a := a) (b := b) (by show (a : Int) ≤ 18446744073709551615; omega) (by show (b : Int) ≤ 18446744073709551615; omega)
  have hl : ((a ||| b : Nat) : Int) ≤ 18446744073709551615 := hl
  exact ⟨_, by rw [hx, hy, e], h (by omega)⟩
theorem eqAndU64 {x y : Int} (a b : Nat) (hx : x = a) (hy : y = b) (ha : a ≤ 18446744073709551615) (hb : b ≤ 18446744073709551615) (h : a &&& b ≤ a → a &&& b ≤ b → K ((a &&& b : Nat) : Int)) : EqP (vAnd .u64 x y) K :=
  ⟨_, by rw [hx, hy, andN .u64 (by show (a : Int) ≤ 18446744073709551615; omega) (by show (b : Int) ≤ 18446744073709551615; omega)], h Nat.and_le_left Nat.and_le_right⟩
theorem eqShlU64 {x y : Int} (n : Nat) (M : Int) (hM : M = 2 ^ n) (hy : y = n) (hn : n ≤ 64) (h0 : 0 ≤ x) (h1 : x * M ≤ 18446744073709551615) (h : K (x * M)) : EqP (vShl .u64 x y) K := by
  refine ⟨_, ?_, h⟩
  have hp : (0 : Int) ≤ M := by rw [hM]; exact_mod_cast Nat.zero_le (2 ^ n)
  rw [hy, toNat_shl, Nat.min_eq_left (show n ≤ IntKind.bits .u64 from hn), ← hM, vWrap_id (by have := Int.mul_nonneg h0 hp; show _ ≤ _; exact Int.le_trans (by decide) this) (by exact h1)]
theorem eqShlNU64 {x y : Int} (a n : Nat) (hx : x = a) (hy : y = n) (hn : n ≤ 64) (h1 : a * 2 ^ n ≤ 18446744073709551615) (h : K ((a * 2 ^ n : Nat) : Int)) : EqP (vShl .u64 x y) K := by
  refine ⟨_, ?_, h⟩
  have e : ((a * 2 ^ n : Nat) : Int) = (a : Int) * 2 ^ n := by push_cast; rfl
  rw [hx, hy, toNat_shl, Nat.min_eq_left (show n ≤ IntKind.bits .u64 from hn), ← e]
  exact wrap_small' .u64 (Int.ofNat_le.2 h1)
theorem eqXorI64 {x y : Int} (a b : Nat) (hx : x = a) (hy : y = b) (ha : a ≤ 9223372036854775807) (hb : b ≤ 9223372036854775807) (h : a ^^^ b ≤ 9223372036854775807 → K ((a ^^^ b : Nat) : Int)) : EqP (vXor .i64 x y) K := by
  obtain ⟨e, hl⟩ := xorN .i64 63 rfl (a := a) (b := b) (by show (a : Int) ≤ 9223372036854775807; omega) (by show (b : Int) ≤ 9223372036854775807; omega)
  have hl : ((a ^^^ b : Nat) : Int) ≤ 9223372036854775807 := hl
  exact ⟨_, by rw [hx, hy, e], h (by omega)⟩
theorem eqOrI64 {x y : Int} (a b : Nat) (hx : x = a) (hy : y = b) (ha : a ≤ 9223372036854775807) (hb : b ≤ 9223372036854775807) (h : a ||| b ≤ 9223372036854775807 → K ((a ||| b : Nat) : Int)) : EqP (vOr .i64 x y) K := by
  obtain ⟨e, hl⟩ := orN .i64 63 rfl (a := a) (b := b) (by show (a : Int) ≤ 9223372036854775807; omega) (by show (b : Int) ≤ 9223372036854775807; omega)
  have hl : ((a ||| b : Nat) : Int) ≤ 9223372036854775807 := hl
  exact ⟨_, by rw [hx, hy, e], h (by omega)⟩
theorem eqAndI64 {x y : Int} (a b : Nat) (hx : x = a) (hy : y = b) (ha : a ≤ 9223372036854775807) (hb : b ≤ 9223372036854775807) (h : a &&& b ≤ a → a &&& b ≤ b → K ((a &&& b : Nat) : Int)) : EqP (vAnd .i64 x y) K :=
  ⟨_, by rw [hx, hy, andN .i64 (by show (a : Int) ≤ 9223372036854775807; omega) (by show (b : Int) ≤ 9223372036854775807; omega)], h Nat.and_le_left Nat.and_le_right⟩
theorem eqShlI64 {x y : Int} (n : Nat) (M : Int) (hM : M = 2 ^ n) (hy : y = n) (hn : n ≤ 64) (h0 : 0 ≤ x) (h1 : x * M ≤ 9223372036854775807) (h : K (x * M)) : EqP (vShl .i64 x y) K := by
  refine ⟨_, ?_, h⟩
  have hp : (0 : Int) ≤ M := by rw [hM]; exact_mod_cast Nat.zero_le (2 ^ n)
  rw [hy, toNat_shl, Nat.min_eq_left (show n ≤ IntKind.bits .i64 from hn), ← hM, vWrap_id (by have := Int.mul_nonneg h0 hp; show _ ≤ _; exact Int.le_trans (by decide) this) (by exact h1)]
theorem eqShlNI64 {x y : Int} (a n : Nat) (hx : x = a) (hy : y = n) (hn : n ≤ 64) (h1 : a * 2 ^ n ≤ 9223372036854775807) (h : K ((a * 2 ^ n : Nat) : Int)) : EqP (vShl .i64 x y) K := by
  refine ⟨_, ?_, h⟩
  have e : ((a * 2 ^ n : Nat) : Int) = (a : Int) * 2 ^ n := by push_cast; rfl
  rw [hx, hy, toNat_shl, Nat.min_eq_left (show n ≤ IntKind.bits .i64 from hn), ← e]
  exact wrap_small' .i64 (Int.ofNat_le.2 h1)
theorem eqXorI32 {x y : Int} (a b : Nat) (hx : x = a) (hy : y = b) (ha : a ≤ 2147483647) (hb : b ≤ 2147483647) (h : a ^^^ b ≤ 2147483647 → K ((a ^^^ b : Nat) : Int)) : EqP (vXor .i32 x y) K := by
  obtain ⟨e, hl⟩ := xorN .i32 31 rfl (a := a) (b := b) (by show (a : Int) ≤ 2147483647; omega) (by show (b : Int) ≤ 2147483647; omega)
  have hl : ((a ^^^ b : Nat) : Int) ≤ 2147483647 := hl
  exact ⟨_, by rw [hx, hy, e], h (by omega)⟩
theorem eqOrI32 {x y : Int} (a b : Nat) (hx : x = a) (hy : y = b) (ha : a ≤ 2147483647) (hb : b ≤ 2147483647) (h : a ||| b ≤ 2147483647 → K ((a ||| b : Nat) : Int)) : EqP (vOr .i32 x y) K := by
  obtain ⟨e, hl⟩ := orN .i32 31 rfl (a := a) (b := b) (by show (a : Int) ≤ 2147483647; omega) (by show (b : Int) ≤ 2147483647; omega)
  have hl : ((a ||| b : Nat) : Int) ≤ 2147483647 := hl
  exact ⟨_, by rw [hx, hy, e], h (by omega)⟩
theorem eqAndI32 {x y : Int} (a b : Nat) (hx : x = a) (hy : y = b) (ha : a ≤ 2147483647) (hb : b ≤ 2147483647) (h : a &&& b ≤ a → a &&& b ≤ b → K ((a &&& b : Nat) : Int)) : EqP (vAnd .i32 x y) K :=
  ⟨_, by rw [hx, hy, andN .i32 (by show (a : Int) ≤ 2147483647; omega) (by show (b : Int) ≤ 2147483647; omega)], h Nat.and_le_left Nat.and_le_right⟩
theorem eqShlI32 {x y : Int} (n : Nat) (M : Int) (hM : M = 2 ^ n) (hy : y = n) (hn : n ≤ 32) (h0 : 0 ≤ x) (h1 : x * M ≤ 2147483647) (h : K (x * M)) : EqP (vShl .i32 x y) K := by
  refine ⟨_, ?_, h⟩
  have hp : (0 : Int) ≤ M := by rw [hM]; exact_mod_cast Nat.zero_le (2 ^ n)
  rw [hy, toNat_shl, Nat.min_eq_left (show n ≤ IntKind.bits .i32 from hn), ← hM, vWrap_id (by have := Int.mul_nonneg h0 hp; show _ ≤ _; exact Int.le_trans (by decide) this) (by exact h1)]
theorem eqShlNI32 {x y : Int} (a n : Nat) (hx : x = a) (hy : y = n) (hn : n ≤ 32) (h1 : a * 2 ^ n ≤ 2147483647) (h : K ((a * 2 ^ n : Nat) : Int)) : EqP (vShl .i32 x y) K := by
  refine ⟨_, ?_, h⟩
  have e : ((a * 2 ^ n : Nat) : Int) = (a : Int) * 2 ^ n := by push_cast; rfl
  rw [hx, hy, toNat_shl, Nat.min_eq_left (show n ≤ IntKind.bits .i32 from hn), ← e]
  exact wrap_small' .i32 (Int.ofNat_le.2 h1)
theorem wrapMU8 (x : Int) : vWrap .u8 x = x % 256 := by unfold vWrap; simp [IntKind.wrap, IntKind.bits, IntKind.signed]
theorem eqWrapMU8 {x : Int} (h : K (x % 256)) : EqP (vWrap .u8 x) K := ⟨_, wrapMU8 x, h⟩
theorem rConvU8M {s d : TypeId} {k0 : IntKind} {n : Int} (hs : (P.underlying s).isSome = true) (hd : P.underlying d = some (.int .u8)) (k : KV (.int .u8 (n % 256)) w) : RunP P (convert s d (.int k0 n)) w KV := rConvIntE (n % 256) (wrapMU8 n) hs hd k
theorem rNotU8 {x : Int} (h0 : 0 ≤ x) (h1 : x ≤ 255) (k : KV (.int .u8 (255 - x)) w) : RunP P (Op.unary .xor (.int .u8 x)) w KV := by
  refine ⟨_, w, ?_, k⟩
  obtain ⟨a, rfl⟩ : ∃ a : Nat, x = a := ⟨x.toNat, by omega⟩
  have h2 := (xorN .u8 8 rfl (a := 2 ^ 8 - 1) (b := a) (by decide) (show (a : Int) ≤ 255 from h1)).1
  rw [xor_ones 8 (by omega)] at h2
  have h3 : (255 - (a : Int)) = ((2 ^ 8 - 1 - a : Nat) : Int) := by omega
  rw [h3, ← h2]
  unfold vXor
  rfl
theorem wrapMU32 (x : Int) : vWrap .u32 x = x % 4294967296 := by unfold vWrap; simp [IntKind.wrap, IntKind.bits, IntKind.signed]
theorem eqWrapMU32 {x : Int} (h : K (x % 4294967296)) : EqP (vWrap .u32 x) K := ⟨_, wrapMU32 x, h⟩
theorem rConvU32M {s d : TypeId} {k0 : IntKind} {n : Int} (hs : (P.underlying s).isSome = true) (hd : P.underlying d = some (.int .u32)) (k : KV (.int .u32 (n % 4294967296)) w) : RunP P (convert s d (.int k0 n)) w KV := rConvIntE (n % 4294967296) (wrapMU32 n) hs hd k
theorem rNotU32 {x : Int} (h0 : 0 ≤ x) (h1 : x ≤ 4294967295) (k : KV (.int .u32 (4294967295 - x)) w) : RunP P (Op.unary .xor (.int .u32 x)) w KV := by
  refine ⟨_, w, ?_, k⟩
  obtain ⟨a, rfl⟩ : ∃ a : Nat, x = a := ⟨x.toNat, by omega⟩
  have h2 := (xorN .u32 32 rfl (a := 2 ^ 32 - 1) (b := a) (by decide) (show (a : Int) ≤ 4294967295 from h1)).1
  rw [xor_ones 32 (by omega)] at h2
  have h3 : (4294967295 - (a : Int)) = ((2 ^ 32 - 1 - a : Nat) : Int) := by omega
  rw [h3, ← h2]
  unfold vXor
  rfl
theorem wrapMU64 (x : Int) : vWrap .u64 x = x % 18446744073709551616 := by unfold vWrap; simp [IntKind.wrap, IntKind.bits, IntKind.signed]
theorem eqWrapMU64 {x : Int} (h : K (x % 18446744073709551616)) : EqP (vWrap .u64 x) K := ⟨_, wrapMU64 x, h⟩
theorem rConvU64M {s d : TypeId} {k0 : IntKind} {n : Int} (hs : (P.underlying s).isSome = true) (hd : P.underlying d = some (.int .u64)) (k : KV (.int .u64 (n % 18446744073709551616)) w) : RunP P (convert s d (.int k0 n)) w KV := rConvIntE (n % 18446744073709551616) (wrapMU64 n) hs hd k
theorem rNotU64 {x : Int} (h0 : 0 ≤ x) (h1 : x ≤ 18446744073709551615) (k : KV (.int .u64 (18446744073709551615 - x)) w) : RunP P (Op.unary .xor (.int .u64 x)) w KV := by
  refine ⟨_, w, ?_, k⟩
  obtain ⟨a, rfl⟩ : ∃ a : Nat, x = a := ⟨x.toNat, by omega⟩
  have h2 := (xorN .u64 64 rfl (a := 2 ^ 64 - 1) (b := a) (by decide) (show (a : Int) ≤ 18446744073709551615 from h1)).1
  rw [xor_ones 64 (by omega)] at h2
  have h3 : (18446744073709551615 - (a : Int)) = ((2 ^ 64 - 1 - a : Nat) : Int) := by omega
  rw [h3, ← h2]
  unfold vXor
  rfl
theorem eqOrAddU32 {x y : Int} (n : Nat) (M : Int) (hM : M = 2 ^ n) (hx : x % M = 0) (hx0 : 0 ≤ x) (hy : 0 ≤ y ∧ y < M) (hs : x + y ≤ 4294967295) (h : K (x + y)) : EqP (vOr .u32 x y) K := by
  obtain ⟨a, rfl⟩ : ∃ a : Nat, x = a := ⟨x.toNat, by omega⟩
  obtain ⟨b, rfl⟩ : ∃ b : Nat, y = b := ⟨y.toNat, by omega⟩
  refine ⟨_, ?_, h⟩
  have hp : ((2 ^ n : Nat) : Int) = 2 ^ n := by norm_cast
  have hd : (2 ^ n : Nat) ∣ a := by
    rw [hM, ← hp] at hx
    exact Int.natCast_dvd_natCast.1 (Int.dvd_of_emod_eq_zero hx)
  have hb : b < 2 ^ n := by omega
  have := vOr_add .u32 b a n hb hd (show (b : Int) + a ≤ 4294967295 by omega)
  rw [show vOr .u32 (a : Int) (b : Int) = vOr .u32 b a by unfold vOr; rw [BitVec.or_comm], this]
  omega
theorem eqOrAddU64 {x y : Int} (n : Nat) (M : Int) (hM : M = 2 ^ n) (hx : x % M = 0) (hx0 : 0 ≤ x) (hy : 0 ≤ y ∧ y < M) (hs : x + y ≤ 18446744073709551615) (h : K (x + y)) : EqP (vOr .u64 x y) K := by
  obtain ⟨a, rfl⟩ : ∃ a : Nat, x = a := ⟨x.toNat, by omega⟩
  obtain ⟨b, rfl⟩ : ∃ b : Nat, y = b := ⟨y.toNat, by omega⟩
  refine ⟨_, ?_, h⟩
  have hp : ((2 ^ n : Nat) : Int) = 2 ^ n := by norm_cast
  have hd : (2 ^ n : Nat) ∣ a := by
    rw [hM, ← hp] at hx
    exact Int.natCast_dvd_natCast.1 (Int.dvd_of_emod_eq_zero hx)
  have hb : b < 2 ^ n := by omega
  have := vOr_add .u64 b a n hb hd (show (b : Int) + a ≤ 18446744073709551615 by omega)
  rw [show vOr .u64 (a : Int) (b : Int) = vOr .u64 b a by unfold vOr; rw [BitVec.or_comm], this]
  omega
theorem eqOrAddI64 {x y : Int} (n : Nat) (M : Int) (hM : M = 2 ^ n) (hx : x % M = 0) (hx0 : 0 ≤ x) (hy : 0 ≤ y ∧ y < M) (hs : x + y ≤ 9223372036854775807) (h : K (x + y)) : EqP (vOr .i64 x y) K := by
  obtain ⟨a, rfl⟩ : ∃ a : Nat, x = a := ⟨x.toNat, by omega⟩
  obtain ⟨b, rfl⟩ : ∃ b : Nat, y = b := ⟨y.toNat, by omega⟩
  refine ⟨_, ?_, h⟩
  have hp : ((2 ^ n : Nat) : Int) = 2 ^ n := by norm_cast
  have hd : (2 ^ n : Nat) ∣ a := by
    rw [hM, ← hp] at hx
    exact Int.natCast_dvd_natCast.1 (Int.dvd_of_emod_eq_zero hx)
  have hb : b < 2 ^ n := by omega
  have := vOr_add .i64 b a n hb hd (show (b : Int) + a ≤ 9223372036854775807 by omega)
  rw [show vOr .i64 (a : Int) (b : Int) = vOr .i64 b a by unfold vOr; rw [BitVec.or_comm], this]
  omega
theorem eqNegU32 {x : Int} (h0 : 0 ≤ x) (h : K ((4294967296 - x) % 4294967296)) : EqP (vWrap .u32 (0 - x)) K := ⟨_, by rw [wrapMU32]; omega, h⟩
theorem eqNegU64 {x : Int} (h0 : 0 ≤ x) (h : K ((18446744073709551616 - x) % 18446744073709551616)) : EqP (vWrap .u64 (0 - x)) K := ⟨_, by rw [wrapMU64]; omega, h⟩
end
end Go.Proofs.YtcpniokopahakaaDoor.Eng
/- Bytes of a string as a row of one's own: []byte(s). -/
set_option linter.unusedVariables false
set_option linter.unusedSimpArgs false
namespace Go.Proofs.YtcpniokopahakaaDoor.Eng
open Go Go.RowKit
/-- The row that []byte(s) made: behind its cells a mark, which no store comes to. -/
def Sb (e : TypeId) (v : Value) (xs : List UInt8) : As := fun h =>
  ∃ g cap cs fz, v = .slice (some ⟨g, 0, none⟩) xs.length cap ∧ h g = some (.cells (List.toArray cs) e fz) ∧ cs.length ≤ fz.1 ∧ cs.take xs.length = xs.flatMap enY ∧ xs.length ≤ cs.length
section
variable {P : Program} {g : Glob} {w w' : World} {l : List As} {K : Value → World → Prop} {v v' : Value} {xs ys : List UInt8} {i j b o : Nat} {e t u ty : TypeId} {x : UInt8}
theorem Sat.sb (H : Sat g w l) (j : Nat) (hj : l[j]? = some (Sb e v xs)) : ∃ g cap cs fz, v = .slice (some ⟨g, 0, none⟩) xs.length cap ∧ w.heap[g]? = some (.cells (List.toArray cs) e fz) ∧ cs.length ≤ fz.1 ∧ cs.take xs.length = xs.flatMap enY ∧ xs.length ≤ cs.length := by
  obtain ⟨a, ⟨g, cap, cs, fz, h1, h2, h3⟩, hs⟩ := H.part hj
  exact ⟨g, cap, cs, fz, h1, hs g _ h2, h3⟩
theorem rStrBytesS {s d : TypeId} {e : TypeId} (H : Sat g w l) (hs : P.underlying s = some .string) (hd : P.underlying d = some (.slice e)) (he : P.underlying e = some (.int .u8)) (k : ∀ v w', Sat g w' (Sb e v xs :: l) → K v w') : RunP P (convert s d (.string (bs xs))) w K := by
  have hr := Go.Lib.run_convert_string_bytes (P := P) w s d e (bs xs) hs hd he
  refine ⟨_, _, hr, k _ _ (H.more (Go.Lib.bytesWorld_below w e (bs xs)) (a := fun k => if k = w.heap.size then some (.cells (Go.Lib.bytesCells w e (bs xs)) e ((Go.Lib.bytesCells w e (bs xs)).size, (Go.Lib.bytesCells w e (bs xs)).size + 1)) else none) ⟨w.heap.size, _, (Go.Lib.bytesCells w e (bs xs)).toList, _, by rw [bs_size], if_pos rfl, ?_, ?_, ?_⟩ (fun k o hk => ?_) fun k hk => if_neg (by omega))⟩
  · rw [Array.length_toList]; exact Nat.le_refl _
  · have hm : ((bs xs).data.map fun b => Value.int .u8 b.toNat).toList = xs.flatMap enY := by
      unfold bs
      rw [Array.toList_map, List.toList_toArray]
      clear k hr
      induction xs with
      | nil => rfl
      | cons y ys ih => rw [List.map_cons, List.flatMap_cons, ih]; rfl
    unfold Go.Lib.bytesCells
    rw [Array.toList_append, hm, List.take_append_of_le_length (by rw [flat_len enY1, Nat.mul_one]; exact Nat.le_refl _), List.take_of_length_le (by rw [flat_len enY1, Nat.mul_one]; exact Nat.le_refl _)]
  · unfold Go.Lib.bytesCells
    have : (bs xs).data.toList.length = xs.length := by simp [bs]
    show xs.length ≤ _
    rw [Array.toList_append, List.length_append, Array.toList_map, List.length_map]
    omega
  · dsimp only at hk
    split at hk
    · rename_i h; subst h; obtain rfl := Option.some.inj hk; exact Go.Lib.bytesWorld_at_new w e (bs xs)
    · cases hk
theorem Sat.eltb (H : Sat g w l) (j : Nat) (hj : l[j]? = some (Sb e v xs)) (i : Nat) (hi : i < xs.length) : ∃ b o, El v 1 i b o := by
  obtain ⟨g, cap, cs, fz, rfl, _⟩ := H.sb j hj
  exact ⟨g, 0 + i * 1, 0, xs.length, cap, rfl, hi, rfl⟩
theorem Sat.elb (H : Sat g w l) (j : Nat) (hj : l[j]? = some (Sb e v xs)) (E : El v 1 i b o) (hx : xs[i]? = some x) : At w b o (enY x) := by
  obtain ⟨g, cap, cs, fz, rfl, hb, hfz, ht, hl⟩ := H.sb j hj
  obtain ⟨b0, m, c, he, hlt, rfl⟩ := E
  injection he with h1 h2 h3
  injection h1 with h1
  injection h1 with h1 h4
  subst h1; subst h4
  refine ⟨cs.toArray, e, fz, hb, fun q u hq => ?_⟩
  have hp := flat_part enY1 xs i x hx
  rw [← ht] at hp
  have hq0 : q = 0 := by
    rcases q with _ | q
    · rfl
    · simp [enY] at hq
  subst hq0
  have hil := (List.getElem?_eq_some_iff.1 hx).1
  rw [← hp, List.getElem?_take] at hq
  rw [if_pos (by omega), List.getElem?_drop, List.getElem?_take] at hq
  split at hq
  · simpa using hq
  · cases hq
theorem rLenB (H : Sat g w l) (j : Nat) (hj : l[j]? = some (Sb e v xs)) (ht : P.underlying t = some (.slice e)) (k : K (.int .i64 xs.length) w) : RunP P (Builtin.len_ #[t] ty #[v]) w K := by
  obtain ⟨g, cap, cs, fz, rfl, _⟩ := H.sb j hj
  exact rLenSl ht k
theorem Sat.formb (H : Sat g w l) (j : Nat) (hj : l[j]? = some (Sb e v xs)) : ∃ a c, v = .slice a xs.length c := by
  obtain ⟨g, cap, cs, fz, rfl, _⟩ := H.sb j hj
  exact ⟨_, _, rfl⟩
theorem rBytesStrB {s d : TypeId} (H : Sat g w l) (j : Nat) (hj : l[j]? = some (Sb e v xs)) (hs : P.underlying s = some (.slice e)) (he : P.underlying e = some (.int .u8)) (hd : P.underlying d = some .string)
    (k : K (.string (bs xs)) w) : RunP P (convert s d v) w K := by
  refine ⟨_, w, ?_, k⟩
  obtain ⟨gb, cap, cs, fz, rfl, hb, hfz, ht, hl⟩ := H.sb j hj
  rw [run_convert_bytes_string (P := P) w s d e _ _ _ hs he hd]
  have hl : (loadCells ⟨gb, 0, none⟩ xs.length).run P w = .ok ((xs.map fun c => (c.toNat : Int)).map (Value.int .u8)).toArray w := by
    have := run_loadCells_list (P := P) w ⟨gb, 0, none⟩ (xs.flatMap enY) (fun i u hi => by
      rw [Addr.add_lit, Nat.zero_add, cell_of_row w gb i cs.toArray e fz hb]
      rw [← ht, List.getElem?_take] at hi
      split at hi
      · simpa using hi
      · cases hi)
    rw [flat_len enY1, Nat.mul_one] at this
    rw [this, flatY]
  rw [run_bytesToString (P := P) w _ xs.length cap _ hl, foldl_push_bytes]
  simp only [List.map_map]
  congr 2
  apply ByteArray.ext
  simp [bs, Function.comp_def]
theorem flat_set (xs : List UInt8) (i : Nat) (c : UInt8) : (xs.set i c).flatMap enY = (xs.flatMap enY).set i (.int .u8 (c.toNat : Int)) := by
  induction xs generalizing i with
  | nil => rfl
  | cons a xs ih =>
    cases i with
    | zero => rfl
    | succ i => rw [List.set_cons_succ, List.flatMap_cons, List.flatMap_cons, ih]; rfl
theorem rStB {K : World → Prop} {u : Value} (H : Sat g w l) (j : Nat) (hj : l[j]? = some (Sb e v xs)) (E : El v 1 i b o) (hi : i < xs.length) (c : UInt8) (hs : (P.info? t).map (·.size) = some 1) (hu : u = .int .u8 (c.toNat : Int))
    (k : setA l j (Sb e v (xs.set i c)) fun l' => ∀ w', Sat g w' l' → K w') : DoP P (Instr.storeAt t (.pointer (some ⟨b, o, none⟩)) u) w K := by
  obtain ⟨gb, cap, cs, fz, rfl, hb, hfz, ht, hl⟩ := H.sb j hj
  obtain ⟨b0, m, c0, he, hlt, rfl⟩ := E
  injection he with h1 h2 h3
  injection h1 with h1
  injection h1 with h1 h4
  subst h1; subst h4; subst hu
  rw [Nat.zero_add, Nat.mul_one]
  rw [setA_eq] at k
  cases hi2 : P.info? t with
  | none => simp [hi2] at hs
  | some i2 =>
    have hl2 : i2.size = 1 := by simpa [hi2] using hs
    have hc : w.cell? ⟨gb, i, none⟩ = some cs[i] := by
      rw [cell_of_row w gb i _ e fz hb]; simp
    have hf : w.frozen? ⟨gb, i, none⟩ = false := by
      unfold World.frozen?
      rw [hb]
      obtain ⟨lo, hi⟩ := fz
      simp only at hfz ⊢
      have : ¬ lo ≤ i := by omega
      simp [this]
    have hw2 : (w.setCell ⟨gb, i, none⟩ (.int .u8 (c.toNat : Int))).heap[gb]? = some (.cells (cs.set i (.int .u8 (c.toNat : Int))).toArray e fz) := by
      unfold World.setCell
      simp only [Array.getElem?_modify, if_true, hb, Option.map_some]
      simp
    have hst : (store ⟨gb, i, none⟩ (.int .u8 (c.toNat : Int))).run P w = .ok () (w.setCell ⟨gb, i, none⟩ (.int .u8 (c.toNat : Int))) := by
      simp [store, Sem.run, hc, hf]
    refine ⟨w.setCell ⟨gb, i, none⟩ (.int .u8 (c.toNat : Int)), ?_, k _ (H.step hj rfl rfl rfl fun a ha hsub => ?_)⟩
    · simp [Instr.storeAt, Instr.sureAddr, storeVar, sizeOf, typeInfo, hi2, hl2, Value.cells, storeCells, Addr.add_zero', hst]
    · obtain ⟨g1, cap1, cs1, fz1, q1, q2, _⟩ := ha
      injection q1 with q1
      injection q1 with q1
      injection q1 with q1
      subst q1
      refine ⟨fun k => if k = gb then some (.cells (cs.set i (.int .u8 (c.toNat : Int))).toArray e fz) else none, ⟨gb, cap, _, fz, by rw [List.length_set], if_pos rfl, by rw [List.length_set]; exact hfz, ?_, by rw [List.length_set, List.length_set]; exact hl⟩, (fun k o hk => ?_), fun k _ hn => ?_⟩
      · rw [List.length_set, List.take_set, ht, flat_set]
      · dsimp only at hk
        split at hk
        · rename_i h; subst h; obtain rfl := Option.some.inj hk; exact hw2
        · cases hk
      · have hne : k ≠ gb := fun h => by subst h; rw [q2] at hn; cases hn
        exact ⟨if_neg hne, heap_setCell_other w _ k _ hne⟩
theorem cgSb (h : xs = ys) : Sb e v xs = Sb e v ys := by rw [h]
end
end Go.Proofs.YtcpniokopahakaaDoor.Eng
/- A region whose order is open at some places: a tree of plans; at a fork each way is walked. -/
namespace Go.Proofs.YtcpniokopahakaaDoor.Eng
open Go Go.RowKit
set_option linter.unusedVariables false
inductive Tr where
  | nil
  | op (i : Nat) (k : Kd) (r : Tr)
  | fork (a b : Tr)
  | hold (r : Tr)
def heads : Tr → List Nat
  | .nil => []
  | .op i _ _ => [i]
  | .fork a b => heads a ++ heads b
  | .hold _ => []
def dep : Tr → Nat
  | .nil => 0
  | .op _ _ r => dep r + 1
  | .fork a b => max (dep a) (dep b)
  | .hold r => dep r
def heldT : Tr → List Nat
  | .nil => []
  | .op i k r => match k with
    | .held => i :: heldT r
    | _ => heldT r
  | .fork a b => heldT a ++ heldT b
  | .hold _ => []
def allT : Tr → List Nat
  | .nil => []
  | .op i _ r => i :: allT r
  | .fork a b => allT a ++ allT b
  | .hold r => allT r
def freeT : Tr → List Nat
  | .nil => []
  | .op i k r => match k with
    | .free => i :: freeT r
    | _ => freeT r
  | .fork a b => freeT a ++ freeT b
  | .hold r => allT r
def zAll (ops : Array Oper) : Tr → Bool
  | .nil => true
  | .op _ _ r => zAll ops r
  | .fork a b => zAll ops a && zAll ops b
  | .hold r => zOk ops (heldT r) (freeT r) && zAll ops r
def recOf (ops : Array Oper) (x : Oper × Nat) : Rec := ⟨x.2, true, amask x.1, smask (x.1.looksAt ops), smask x.1.dst.toList⟩
def recAll (ops : Array Oper) : List Rec := ops.toList.zipIdx.map (recOf ops)
def subB (a m : Nat) : Bool := Nat.beq (Nat.land a m) a
def treeOk (all : Nat) (recs : List Rec) : Tr → Nat → Bool → Bool
  | .nil, m, f => !f && Nat.beq m all
  | .op i k r, m, f => match recs[i]? with
    | none => false
    | some x => subB x.af m && !inB m i && (match kd2 k with
      | true => !f && recs.all fun q => inB m q.i || Nat.beq q.i i || inB q.af i || recApart x q
      | false => f || recs.all fun q => inB m q.i || Nat.beq q.i i || !subB q.af m) && treeOk all recs r (Nat.lor m (Nat.shiftLeft 1 i)) false
  | .fork a b, m, f => (f || recs.all fun q => inB m q.i || !subB q.af m || (heads a ++ heads b).contains q.i) && treeOk all recs a m true && treeOk all recs b m true
  | .hold r, m, f => !f && treeOk all recs r m false
theorem recAll_get {ops : Array Oper} {j : Nat} {o : Oper} (h : ops[j]? = some o) : (recAll ops)[j]? = some (recOf ops (o, j)) := by
  unfold recAll
  rw [List.getElem?_map, List.getElem?_zipIdx, Array.getElem?_toList, h]
  simp
theorem recAll_of {ops : Array Oper} {j : Nat} {x : Rec} (h : (recAll ops)[j]? = some x) : ∃ o, ops[j]? = some o ∧ x = recOf ops (o, j) := by
  unfold recAll at h
  rw [List.getElem?_map, List.getElem?_zipIdx, Array.getElem?_toList] at h
  cases ho : ops[j]? with
  | none => rw [ho] at h; cases h
  | some o => rw [ho] at h; exact ⟨o, rfl, by simpa using h.symm⟩
theorem recAll_mem {ops : Array Oper} {j : Nat} {o : Oper} (h : ops[j]? = some o) : recOf ops (o, j) ∈ recAll ops := List.mem_of_getElem? (recAll_get h)
theorem sub_of {a b : Nat} (h : ∀ j, a.testBit j = true → b.testBit j = true) : subB a b = true := by
  unfold subB
  rw [show Nat.land a b = a &&& b from rfl]
  have : a &&& b = a := by
    apply Nat.eq_of_testBit_eq
    intro j
    rw [Nat.testBit_and]
    cases ha : a.testBit j
    · rfl
    · rw [h j ha]; rfl
  rw [this]; exact Nat.beq_refl a
structure MInv (ops : Array Oper) (listed : Array Bool) (m : Nat) : Prop where
  sz : listed.size = ops.size
  bit : ∀ j, j < ops.size → listed.getD j true = m.testBit j
  lt : ∀ j, m.testBit j = true → j < ops.size
  cl : Cl .any ops listed
section
variable {ops : Array Oper} {listed : Array Bool} {m : Nat}
theorem MInv.getF (I : MInv ops listed m) {j : Nat} : listed.getD j false = true ↔ m.testBit j = true := by
  constructor
  · intro h
    have hj : j < listed.size := by
      rcases Nat.lt_or_ge j listed.size with h1 | h1
      · exact h1
      · simp [Array.getD_eq_getD_getElem?, Array.getElem?_eq_none h1] at h
    have h2 := I.bit j (I.sz ▸ hj)
    simp only [Array.getD_eq_getD_getElem?] at h h2
    rw [Array.getElem?_eq_getElem hj] at h h2
    simp at h h2
    rw [← h2, h]
  · intro h
    have hj := I.lt j h
    have h2 := I.bit j hj
    rw [h] at h2
    simp only [Array.getD_eq_getD_getElem?] at h2 ⊢
    rw [Array.getElem?_eq_getElem (by rw [I.sz]; exact hj)] at h2 ⊢
    simpa using h2
theorem MInv.rdy (I : MInv ops listed m) {j : Nat} {o : Oper} (ho : ops[j]? = some o) : j ∈ Region.ready .any ops listed ↔ m.testBit j = false ∧ subB (amask o) m = true := by
  have hj : j < ops.size := (Array.getElem?_eq_some_iff.1 ho).1
  rw [mem_ready, I.bit j hj]
  constructor
  · rintro ⟨h1, o', ho', h2⟩
    obtain rfl : o = o' := by rw [ho] at ho'; exact Option.some.inj ho'
    refine ⟨h1, sub_of fun k hk => ?_⟩
    obtain ⟨e, he, hb, rfl⟩ := (amask_bit o k).1 hk
    exact I.getF.1 (h2 e he hb)
  · rintro ⟨h1, h2⟩
    exact ⟨h1, o, ho, fun e he hb => I.getF.2 (land_sub h2 e.on ((amask_bit o e.on).2 ⟨e, he, hb, rfl⟩))⟩
theorem MInv.step (I : MInv ops listed m) {i : Nat} (hi : i < ops.size) (hr : i ∈ Region.ready .any ops listed) : MInv ops (listed.setIfInBounds i true) (Nat.lor m (Nat.shiftLeft 1 i)) := by
  refine ⟨by simpa using I.sz, fun j hj => ?_, fun j h => ?_, I.cl.step hr⟩
  · rw [show Nat.lor m (Nat.shiftLeft 1 i) = m ||| (1 <<< i) from rfl, Nat.testBit_or, Nat.one_shiftLeft, Nat.testBit_two_pow, ← I.bit j hj]
    by_cases h : i = j
    · subst h; simp [I.sz, hj]
    · simp [Array.getElem?_setIfInBounds_ne h, h]
  · rw [show Nat.lor m (Nat.shiftLeft 1 i) = m ||| (1 <<< i) from rfl, Nat.testBit_or, Nat.one_shiftLeft, Nat.testBit_two_pow, Bool.or_eq_true] at h
    rcases h with h | h
    · exact I.lt j h
    · have := of_decide_eq_true h; omega
theorem MInv.inB (I : MInv ops listed m) {j : Nat} : Eng.inB m j = m.testBit j := inB_eq m j
end
/-- From here on, other memory is held. -/
inductive HoldP (k : (World → Prop) → Prop) (w : World) : Prop
  | mk (S : World → Prop) (hS : S w) (h : k S)
def planT (P : Program) (ops : List Oper) (S : World → Prop) (K : List Value → World → Prop) (t : Tr) : Bool → List Value → World → Prop :=
  Tr.rec (motive := fun _ => (World → Prop) → Bool → List Value → World → Prop) (fun _ _ => K) (fun i k _ ih S live ρ w => match ops[i]? with
    | none => False
    | some o => match k with
      | .pure => guardK ops o.guard ρ fun b ρ => match b with
        | true => opT P (fun _ => True) o ρ fun v => putK ρ o.dst v fun ρ => ih S live ρ w
        | false => putK ρ o.dst undef fun ρ => ih S live ρ w
      | .held => match live with
        | true => guardK ops o.guard ρ fun b ρ => match b with
          | true => opT P S o ρ fun v => putK ρ o.dst v fun ρ => ih S true ρ w
          | false => putK ρ o.dst undef fun ρ => ih S true ρ w
        | false => False
      | .forced => match live with
        | true => guardK ops o.guard ρ fun b ρ => match b with
          | true => opK P o ρ w fun v w' => KeepP (S w') (putK ρ o.dst v fun ρ => ih S true ρ w')
          | false => putK ρ o.dst undef fun ρ => ih S true ρ w
        | false => False
      | .free => guardK ops o.guard ρ fun b ρ => match b with
        | true => opK P o ρ w fun v w' => putK ρ o.dst v fun ρ => ih S false ρ w'
        | false => putK ρ o.dst undef fun ρ => ih S false ρ w) (fun _ _ iha ihb S live ρ w => iha S live ρ w ∧ ihb S live ρ w) (fun _ ih S live ρ w => HoldP (fun S2 => ih S2 true ρ w) w) t S
theorem planT_op (P : Program) (ops : List Oper) (S : World → Prop) (K : List Value → World → Prop) (i : Nat) (k : Kd) (r : Tr) (live : Bool) (ρ : List Value) (w : World) :
    planT P ops S K (.op i k r) live ρ w = match ops[i]? with
    | none => False
    | some o => match k with
      | .pure => guardK ops o.guard ρ fun b ρ => match b with
        | true => opT P (fun _ => True) o ρ fun v => putK ρ o.dst v fun ρ => planT P ops S K r live ρ w
        | false => putK ρ o.dst undef fun ρ => planT P ops S K r live ρ w
      | .held => match live with
        | true => guardK ops o.guard ρ fun b ρ => match b with
          | true => opT P S o ρ fun v => putK ρ o.dst v fun ρ => planT P ops S K r true ρ w
          | false => putK ρ o.dst undef fun ρ => planT P ops S K r true ρ w
        | false => False
      | .forced => match live with
        | true => guardK ops o.guard ρ fun b ρ => match b with
          | true => opK P o ρ w fun v w' => KeepP (S w') (putK ρ o.dst v fun ρ => planT P ops S K r true ρ w')
          | false => putK ρ o.dst undef fun ρ => planT P ops S K r true ρ w
        | false => False
      | .free => guardK ops o.guard ρ fun b ρ => match b with
        | true => opK P o ρ w fun v w' => putK ρ o.dst v fun ρ => planT P ops S K r false ρ w'
        | false => putK ρ o.dst undef fun ρ => planT P ops S K r false ρ w := rfl
section
variable {P : Program} {ops : Array Oper} {S : World → Prop} {K : List Value → World → Prop} {ρ0 : List Value} {Z : Nat → Bool}
abbrev QT (ops : Array Oper) (K : List Value → World → Prop) (ρ0 : List Value) : Exit → Act → World → Prop := fun e a w' => e = .normal ∧ a.defers = [] ∧ agree (opsDsts ops.toList) ρ0 a.tmps.toList ∧ K a.tmps.toList w'
theorem dep_pos {all : Nat} {recs : List Rec} : ∀ {t : Tr} {m : Nat}, treeOk all recs t m true = true → 1 ≤ dep t ∧ ∃ i ∈ heads t, ∃ x, recs[i]? = some x ∧ subB x.af m = true ∧ inB m i = false := by
  intro t
  induction t with
  | nil => intro m h; cases h
  | op i k r _ =>
    intro m h
    unfold treeOk at h
    split at h
    · cases h
    · rename_i x hx
      simp only [Bool.and_eq_true] at h
      exact ⟨Nat.le_add_left _ _, i, List.mem_singleton.2 rfl, x, hx, h.1.1.1, by simpa using h.1.1.2⟩
  | fork a b iha _ =>
    intro m h
    unfold treeOk at h
    simp only [Bool.and_eq_true] at h
    obtain ⟨h1, i, hi, r⟩ := iha h.1.2
    exact ⟨Nat.le_trans h1 (Nat.le_max_left _ _), i, List.mem_append_left _ hi, r⟩
  | hold r _ => intro m h; simp [treeOk] at h
/-- One operation that writes. -/
theorem planT_step {i : Nat} {k : Kd} {r : Tr} {o : Oper} (ho : ops[i]? = some o) (hk : kd2 k = false) {fuel : Nat} {listed : Array Bool} {live : Bool} {ρ : List Value} {w : World}
    (hz : k = .free → Z i = true) (hS : live = true → S w) (hag : agree (opsDsts ops.toList) ρ0 ρ) (h : planT P ops.toList S K (.op i k r) live ρ w)
    (ih : ∀ live ρ w, (live = true → S w) → agree (opsDsts ops.toList) ρ0 ρ → planT P ops.toList S K r live ρ w → anyZ P .any ops (QT ops K ρ0) S Z fuel (listed.setIfInBounds i true) ⟨ρ.toArray, []⟩ w) :
    wpOp P ops (QT ops K ρ0) i (fun a' w' => (Z i = true ∨ (S w → S w')) ∧ anyZ P .any ops (QT ops K ρ0) S Z fuel (listed.setIfInBounds i true) a' w') ⟨ρ.toArray, []⟩ w := by
  have hmem : ∀ n, o.dst = some n → n ∈ opsDsts ops.toList := fun n hn => by
    unfold opsDsts; rw [List.mem_filterMap]
    exact ⟨o, by simpa using Array.mem_of_getElem? ho, hn⟩
  rw [planT_op] at h
  simp only [Array.getElem?_toList, ho] at h
  cases k with
  | pure => cases hk
  | held => cases hk
  | forced =>
    cases live with
    | false => exact h.elim
    | true =>
      obtain ⟨b, hb, h⟩ := guardK_sound h
      unfold wpOp
      rw [ho]
      simp only [hb]
      cases b
      · simp only [Bool.false_eq_true, if_false, putK_eq] at h ⊢
        rw [put_eq]
        exact ⟨.inr id, ih true _ w hS (agree_put hag hmem _) h⟩
      · simp only [if_true] at h ⊢
        refine .inl (opK_sound h fun v w' ⟨hS', hk⟩ => ?_)
        rw [putK_eq] at hk
        rw [put_eq]
        exact ⟨.inr fun _ => hS', ih true _ w' (fun _ => hS') (agree_put hag hmem v) hk⟩
  | free =>
    have hz := hz rfl
    obtain ⟨b, hb, h⟩ := guardK_sound h
    unfold wpOp
    rw [ho]
    simp only [hb]
    cases b
    · simp only [Bool.false_eq_true, if_false, putK_eq] at h ⊢
      rw [put_eq]
      exact ⟨.inl hz, ih false _ w nofun (agree_put hag hmem _) h⟩
    · simp only [if_true] at h ⊢
      refine .inl (opK_sound h fun v w' hk => ?_)
      rw [putK_eq] at hk
      rw [put_eq]
      exact ⟨.inl hz, ih false _ w' nofun (agree_put hag hmem v) hk⟩
theorem anyZ_weak {S1 S2 : World → Prop} {Z1 Z2 : Nat → Bool} {Q : Exit → Act → World → Prop} : ∀ (fuel : Nat) (listed : Array Bool) (a : Act) (w : World), (∀ i, i < ops.size → listed.getD i true = false → Z1 i = true) → anyZ P .any ops Q S2 Z2 fuel listed a w → anyZ P .any ops Q S1 Z1 fuel listed a w := by
  intro fuel
  induction fuel with
  | zero => exact fun _ _ _ _ h => h
  | succ f ih =>
    intro listed a w hz h
    refine ⟨h.1, fun i hi => wpOp_mono (fun a' w' k => ⟨.inl ?_, ih _ a' w' (fun j hl hj => hz j hl ?_) k.2⟩) (h.2 i hi)⟩
    · obtain ⟨h1, o, ho, _⟩ := mem_ready.1 hi
      exact hz i (Array.getElem?_eq_some_iff.1 ho).1 h1
    · rcases Nat.decEq i j with h | h
      · rw [getD_set_ne true h] at hj; exact hj
      · subst h
        simp only [Array.getD_eq_getD_getElem?, Array.getElem?_setIfInBounds] at hj ⊢
        split at hj
        · split at hj <;> first | cases hj | (rename_i h2; rw [Array.getElem?_eq_none (Nat.le_of_not_lt h2)]; exact hj)
        · exact hj
theorem cover {n : Nat} {recs : List Rec} : ∀ {t : Tr} {m : Nat} {f : Bool}, treeOk (2 ^ n - 1) recs t m f = true → ∀ j, j < n → m.testBit j = false → j ∈ allT t := by
  intro t
  induction t with
  | nil =>
    intro m f h j hj hm
    unfold treeOk at h
    rw [Bool.and_eq_true] at h
    rw [Nat.eq_of_beq_eq_true h.2, Nat.testBit_two_pow_sub_one] at hm
    simp [hj] at hm
  | op i k r ih =>
    intro m f h j hj hm
    unfold treeOk at h
    split at h
    · cases h
    · rw [Bool.and_eq_true] at h
      by_cases e : j = i
      · subst e; exact List.mem_cons_self ..
      · refine List.mem_cons_of_mem _ (ih h.2 j hj ?_)
        rw [show Nat.lor m (Nat.shiftLeft 1 i) = m ||| (1 <<< i) from rfl, Nat.testBit_or, hm, Nat.one_shiftLeft, Nat.testBit_two_pow]
        simp; omega
  | fork a b iha _ =>
    intro m f h j hj hm
    unfold treeOk at h
    simp only [Bool.and_eq_true] at h
    exact List.mem_append_left _ (iha h.1.2 j hj hm)
  | hold r ih =>
    intro m f h j hj hm
    unfold treeOk at h
    rw [Bool.and_eq_true] at h
    exact ih h.2 j hj hm
theorem planT_sound (hs : Region.noSelect ops = true) (t : Tr) : (∀ i ∈ heldT t, ∀ j oj, ops[j]? = some oj → Z j = true → Pre .any ops j i) → (∀ i ∈ freeT t, Z i = true) → zAll ops t = true →
    (∀ (fuel : Nat) (listed : Array Bool) (m : Nat) (live : Bool) (ρ : List Value) (w : World), dep t ≤ fuel → MInv ops listed m → treeOk (2 ^ ops.size - 1) (recAll ops) t m false = true → (live = true → S w) → agree (opsDsts ops.toList) ρ0 ρ →
      planT P ops.toList S K t live ρ w → anyZ P .any ops (QT ops K ρ0) S Z fuel listed ⟨ρ.toArray, []⟩ w) ∧
    (∀ (fuel : Nat) (listed : Array Bool) (m : Nat) (live : Bool) (ρ : List Value) (w : World), dep t ≤ fuel + 1 → MInv ops listed m → treeOk (2 ^ ops.size - 1) (recAll ops) t m true = true → (live = true → S w) → agree (opsDsts ops.toList) ρ0 ρ →
      planT P ops.toList S K t live ρ w → ∀ i ∈ heads t, wpOp P ops (QT ops K ρ0) i (fun a' w' => (Z i = true ∨ (S w → S w')) ∧ anyZ P .any ops (QT ops K ρ0) S Z fuel (listed.setIfInBounds i true) a' w') ⟨ρ.toArray, []⟩ w) := by
  induction t generalizing S Z with
  | nil =>
    intro _ _ _
    refine ⟨fun fuel listed m live ρ w _ I hok _ hag h => ?_, fun fuel listed m live ρ w _ _ hok => by cases hok⟩
    unfold treeOk at hok
    simp only [Bool.not_false, Bool.true_and] at hok
    have hok := Nat.eq_of_beq_eq_true hok
    have hr : Region.ready .any ops listed = [] := by
      rw [List.eq_nil_iff_forall_not_mem]
      intro j hj
      obtain ⟨_, o, ho, _⟩ := mem_ready.1 hj
      have hlt : j < ops.size := (Array.getElem?_eq_some_iff.1 ho).1
      have := ((I.rdy ho).1 hj).1
      rw [hok, Nat.testBit_two_pow_sub_one] at this
      simp [hlt] at this
    cases fuel with
    | zero => exact ⟨hr, rfl, rfl, hag, h⟩
    | succ f => exact ⟨fun _ => ⟨rfl, rfl, hag, h⟩, by rw [hr]; simp⟩
  | fork a b iha ihb =>
    intro hzz hzf hza
    unfold zAll at hza
    rw [Bool.and_eq_true] at hza
    obtain ⟨_, ia⟩ := iha (fun i hi => hzz i (List.mem_append_left _ hi)) (fun i hi => hzf i (List.mem_append_left _ hi)) hza.1
    obtain ⟨_, ib⟩ := ihb (fun i hi => hzz i (List.mem_append_right _ hi)) (fun i hi => hzf i (List.mem_append_right _ hi)) hza.2
    have two : ∀ (fuel : Nat) (listed : Array Bool) (m : Nat) (live : Bool) (ρ : List Value) (w : World), dep (.fork a b) ≤ fuel + 1 → MInv ops listed m → treeOk (2 ^ ops.size - 1) (recAll ops) a m true = true → treeOk (2 ^ ops.size - 1) (recAll ops) b m true = true → (live = true → S w) → agree (opsDsts ops.toList) ρ0 ρ →
      planT P ops.toList S K (.fork a b) live ρ w → ∀ i ∈ heads (.fork a b), wpOp P ops (QT ops K ρ0) i (fun a' w' => (Z i = true ∨ (S w → S w')) ∧ anyZ P .any ops (QT ops K ρ0) S Z fuel (listed.setIfInBounds i true) a' w') ⟨ρ.toArray, []⟩ w := by
      intro fuel listed m live ρ w hf I h1 h2 hS hag h i hi
      have hf : max (dep a) (dep b) ≤ fuel + 1 := hf
      rcases List.mem_append.1 hi with hi | hi
      · exact ia fuel listed m live ρ w (by omega) I h1 hS hag h.1 i hi
      · exact ib fuel listed m live ρ w (by omega) I h2 hS hag h.2 i hi
    refine ⟨fun fuel listed m live ρ w hf I hok hS hag h => ?_, fun fuel listed m live ρ w hf I hok hS hag h => ?_⟩
    · unfold treeOk at hok
      simp only [Bool.and_eq_true, Bool.false_or] at hok
      obtain ⟨⟨hall, h1⟩, h2⟩ := hok
      obtain ⟨hd, i0, hi0, x, hx, hsub, hin⟩ := dep_pos h1
      obtain ⟨f, rfl⟩ : ∃ f, fuel = f + 1 := ⟨fuel - 1, by have : max (dep a) (dep b) ≤ fuel := hf; omega⟩
      refine ⟨fun h0 => ?_, fun j hj => ?_⟩
      · obtain ⟨o, ho, rfl⟩ := recAll_of hx
        have : i0 ∈ Region.ready .any ops listed := (I.rdy ho).2 ⟨by rw [← inB_eq]; exact hin, hsub⟩
        rw [h0] at this; cases this
      · refine two f listed m live ρ w (Nat.le_trans hf (Nat.le_refl _)) I h1 h2 hS hag h j ?_
        obtain ⟨_, o, ho, _⟩ := mem_ready.1 hj
        obtain ⟨hb, hsb⟩ := (I.rdy ho).1 hj
        have := List.all_eq_true.1 hall _ (recAll_mem ho)
        simp only [recOf, inB_eq, hb, hsb, Bool.not_true, Bool.or_false, Bool.false_or] at this
        exact List.contains_iff_mem.1 this
    · unfold treeOk at hok
      simp only [Bool.and_eq_true] at hok
      exact two fuel listed m live ρ w hf I hok.1.2 hok.2 hS hag h
  | op i k r ih =>
    intro hzz hzf hza
    have hzz2 : ∀ i ∈ heldT r, ∀ j oj, ops[j]? = some oj → Z j = true → Pre .any ops j i := fun j hj => hzz j (by unfold heldT; cases k <;> first | exact hj | exact List.mem_cons_of_mem _ hj)
    have hzf2 : ∀ i ∈ freeT r, Z i = true := fun j hj => hzf j (by unfold freeT; cases k <;> first | exact hj | exact List.mem_cons_of_mem _ hj)
    have hzi : k = .free → Z i = true := fun e => hzf i (by subst e; exact List.mem_cons_self ..)
    obtain ⟨ih1, _⟩ := ih hzz2 hzf2 hza
    refine ⟨fun fuel listed m live ρ w hf I hok hS hag h => ?_, fun fuel listed m live ρ w hf I hok hS hag h j hj => ?_⟩
    · obtain ⟨f, rfl⟩ : ∃ f, fuel = f + 1 := ⟨fuel - 1, by have : dep r + 1 ≤ fuel := hf; omega⟩
      have hf2 : dep r ≤ f := Nat.le_of_succ_le_succ hf
      unfold treeOk at hok
      split at hok
      · cases hok
      · rename_i x hx
        obtain ⟨o, ho, rfl⟩ := recAll_of hx
        have hlt : i < ops.size := (Array.getElem?_eq_some_iff.1 ho).1
        rw [Bool.and_eq_true, Bool.and_eq_true, Bool.and_eq_true] at hok
        obtain ⟨⟨⟨hsub, hin⟩, hk⟩, hrest⟩ := hok
        have hready : i ∈ Region.ready .any ops listed := (I.rdy ho).2 ⟨by rw [← inB_eq]; simpa using hin, hsub⟩
        have hmem : ∀ n, o.dst = some n → n ∈ opsDsts ops.toList := fun n hn => by
          unfold opsDsts; rw [List.mem_filterMap]
          exact ⟨o, by simpa using Array.mem_of_getElem? ho, hn⟩
        have ih' := fun live ρ w hS hag h => ih1 f (listed.setIfInBounds i true) _ live ρ w hf2 (I.step hlt hready) hrest hS hag h
        cases hkd : kd2 k with
        | false =>
          rw [hkd] at hk
          simp only [Bool.false_or] at hk
          refine ⟨fun h0 => (by rw [h0] at hready; cases hready), fun j hj => ?_⟩
          have : j = i := by
            obtain ⟨_, oj, hoj, _⟩ := mem_ready.1 hj
            obtain ⟨hb, hsb⟩ := (I.rdy hoj).1 hj
            have := List.all_eq_true.1 hk _ (recAll_mem hoj)
            simp only [recOf, inB_eq, hb, hsb, Bool.not_true, Bool.or_false, Bool.false_or] at this
            exact Nat.eq_of_beq_eq_true this
          subst this
          exact planT_step ho hkd hzi hS hag h ih'
        | true =>
          rw [hkd] at hk
          simp only [Bool.not_false, Bool.true_and] at hk
          have hfree : ∀ j oj, ops[j]? = some oj → j ≠ i → listed.getD j true = false → (∀ e ∈ oj.after, Region.binds .any e = true → e.on ≠ i) → o.apart ops oj = true := fun j oj hoj hne hun hno => by
            have hjl : j < ops.size := (Array.getElem?_eq_some_iff.1 hoj).1
            have h4 := List.all_eq_true.1 hk _ (recAll_mem hoj)
            rw [I.bit j hjl] at hun
            have hne2 : Nat.beq j i = false := by
              cases hb : Nat.beq j i
              · rfl
              · exact absurd (Nat.eq_of_beq_eq_true hb) hne
            have haf : inB (amask oj) i = false := by
              cases hb : inB (amask oj) i
              · rfl
              · rw [inB_eq, amask_bit] at hb
                obtain ⟨e, he, hb, hon⟩ := hb
                exact absurd hon (hno e he hb)
            have haf2 : (recOf ops (oj, j)).af = amask oj := rfl
            have hi2 : (recOf ops (oj, j)).i = j := rfl
            rw [hi2, haf2, inB_eq, hun, hne2, haf] at h4
            exact recApart_sound rfl rfl rfl rfl (by simpa using h4)
          rw [planT_op] at h
          simp only [Array.getElem?_toList, ho] at h
          cases k with
          | forced => cases hkd
          | free => cases hkd
          | pure =>
            obtain ⟨b, hb, h⟩ := guardK_sound h
            have key : ∀ v, YieldsIf P ops (fun _ => True) o v ⟨ρ.toArray, []⟩ → planT P ops.toList S K r live (put ρ o.dst v) w → anyZ P .any ops (QT ops K ρ0) S Z (f + 1) listed ⟨ρ.toArray, []⟩ w := fun v hy hk =>
              anyZ_pure ho (Region.noSelect_spec hs) (fun c a w hq => by cases hq.1) f listed _ _ hfree hready hy (by
                rw [put_eq]
                exact ih' live _ w hS (agree_put hag hmem v) hk)
            cases b
            · simp only [putK_eq] at h
              exact key undef (.inr ⟨hb, rfl⟩) h
            · obtain ⟨v, hv, hk⟩ := opT_sound h
              rw [putK_eq] at hk
              exact key v (.inl ⟨hb, fun w hS => by rw [ev_eq]; exact hv w hS⟩) hk
          | held =>
            cases live with
            | false => exact h.elim
            | true =>
              obtain ⟨b, hb, h⟩ := guardK_sound h
              have key : ∀ v, YieldsIf P ops S o v ⟨ρ.toArray, []⟩ → planT P ops.toList S K r true (put ρ o.dst v) w → anyZ P .any ops (QT ops K ρ0) S Z (f + 1) listed ⟨ρ.toArray, []⟩ w := fun v hy hk =>
                anyZ_first ho (Region.noSelect_spec hs) (fun c a w hq => by cases hq.1) (hzz i (by unfold heldT; exact List.mem_cons_self ..)) f listed _ _ I.cl hfree hready hy (hS rfl) (by
                  rw [put_eq]
                  exact ih' true _ w hS (agree_put hag hmem v) hk)
              cases b
              · simp only [putK_eq] at h
                exact key undef (.inr ⟨hb, rfl⟩) h
              · obtain ⟨v, hv, hk⟩ := opT_sound h
                rw [putK_eq] at hk
                exact key v (.inl ⟨hb, fun w hS => by rw [ev_eq]; exact hv w hS⟩) hk
    · obtain rfl : j = i := by simpa [heads] using hj
      have hf2 : dep r ≤ fuel := Nat.le_of_succ_le_succ hf
      unfold treeOk at hok
      split at hok
      · cases hok
      · rename_i x hx
        obtain ⟨o, ho, rfl⟩ := recAll_of hx
        have hlt : j < ops.size := (Array.getElem?_eq_some_iff.1 ho).1
        rw [Bool.and_eq_true, Bool.and_eq_true, Bool.and_eq_true] at hok
        obtain ⟨⟨⟨hsub, hin⟩, hk⟩, hrest⟩ := hok
        have hkd : kd2 k = false := by
          cases hkd : kd2 k
          · rfl
          · rw [hkd] at hk; cases hk
        exact planT_step ho hkd hzi hS hag h fun live ρ w hS hag h => ih1 fuel (listed.setIfInBounds j true) _ live ρ w hf2 (I.step hlt ((I.rdy ho).2 ⟨by rw [← inB_eq]; simpa using hin, hsub⟩)) hrest hS hag h
  | hold r ih =>
    intro hzz hzf hza
    unfold zAll at hza
    rw [Bool.and_eq_true] at hza
    refine ⟨fun fuel listed m live ρ w hf I hok hS hag h => ?_, fun fuel listed m live ρ w _ _ hok => by simp [treeOk] at hok⟩
    obtain ⟨S2, hS2, h2⟩ := h
    unfold treeOk at hok
    rw [Bool.and_eq_true] at hok
    have k := (ih (S := S2) (Z := fun i => (freeT r).contains i) (fun i hi => zOk_spec hza.1 hi) (fun i hi => by simpa using hi) hza.2).1 fuel listed m true ρ w hf I hok.2 (fun _ => hS2) hag h2
    exact anyZ_weak fuel listed _ w (fun i hl hi => hzf i (cover hok.2 i hl (by rw [← I.bit i hl]; exact hi))) k
def treeOk0 (ops : Array Oper) (t : Tr) : Bool := Region.noSelect ops && Nat.ble (dep t) ops.size && treeOk (2 ^ ops.size - 1) (recAll ops) t 0 false && (zOk ops (heldT t) (freeT t) && zAll ops t)
/-- A region that draws, walked along a tree of plans. -/
theorem drawt {id : Nat} {w : World} (S : World → Prop) (t : Tr) (hm : P.follows .mixedOrders = true) (hc : treeOk0 ops t = true)
    (h : ∀ w1, w1 = w.drew → S w1 ∧ planT P ops.toList S K t true ρ0 w1) : DrawP P id ops K ρ0 w := by
  simp only [treeOk0, Bool.and_eq_true] at hc
  obtain ⟨⟨⟨h1, h2⟩, h3⟩, hz, hza⟩ := hc
  obtain ⟨hS, hk⟩ := h _ rfl
  have I : MInv ops (Array.replicate ops.size false) 0 := ⟨by simp, fun j hj => by simp [hj], fun j hj => by simp at hj, Cl.start _⟩
  refine ⟨wp_region_any hm (anyZ_any (S := S) (Z := fun i => (freeT t).contains i) _ _ _ _ (((planT_sound h1 t (fun i hi => zOk_spec hz hi) (fun i hi => by simpa using hi) hza).1) _ _ _ true _ _ (Nat.le_of_ble_eq_true h2) I h3 (fun _ => hS) (agree_refl _ _) hk))⟩
end
section
variable {P : Program} {g : Glob} {w w' : World} {l : List As}
/-- A region that draws: what is held is the memory as it is, but for the pieces ds. -/
theorem drawtS {id : Nat} {ops : Array Oper} {K : List Value → World → Prop} {ρ : List Value} (H : Sat g w l) (ds : List Nat) (t : Tr) (hm : P.follows .mixedOrders = true) (hc : treeOk0 ops t = true)
    (h : delsA ds l fun l' => ∀ w1, Sat g w1 l → planT P ops.toList (fun wx => Sat g wx l') K t true ρ w1) : DrawP P id ops K ρ w := by
  have key : ∃ l', (∀ wx, Sat g wx l → Sat g wx l') ∧ ∀ w1, Sat g w1 l → planT P ops.toList (fun wx => Sat g wx l') K t true ρ w1 := by
    have : ∀ (ds : List Nat) (l0 : List As), (∀ wx, Sat g wx l → Sat g wx l0) → (delsA ds l0 fun l' => ∀ w1, Sat g w1 l → planT P ops.toList (fun wx => Sat g wx l') K t true ρ w1) →
        ∃ l', (∀ wx, Sat g wx l → Sat g wx l') ∧ ∀ w1, Sat g w1 l → planT P ops.toList (fun wx => Sat g wx l') K t true ρ w1 := by
      intro ds
      induction ds with
      | nil => exact fun l0 h0 h => ⟨l0, h0, h⟩
      | cons i ds ih =>
        intro l0 h0 h
        have h : delA l0 i fun r => delsA ds r _ := h
        rw [delA_eq] at h
        exact ih _ (fun wx hx => (h0 wx hx).del i) h
    exact this ds l (fun _ h => h) h
  obtain ⟨l', h1, h2⟩ := key
  refine drawt (fun wx => Sat g wx l') t hm hc fun w1 e => ?_
  have H1 : Sat g w1 l := H.still (by rw [e]; exact Still.drew _)
  exact ⟨h1 _ H1, h2 _ H1⟩
theorem rHold {k : (World → Prop) → Prop} (H : Sat g w l) (ds : List Nat) (h : delsA ds l fun l' => k (fun wx => Sat g wx l')) : HoldP k w := by
  have : ∀ (ds : List Nat) (l0 : List As), Sat g w l0 → (delsA ds l0 fun l' => k (fun wx => Sat g wx l')) → HoldP k w := by
    intro ds
    induction ds with
    | nil => exact fun l0 h0 h => ⟨_, h0, h⟩
    | cons i ds ih =>
      intro l0 h0 h
      have h : delA l0 i fun r => delsA ds r _ := h
      rw [delA_eq] at h
      exact ih _ (h0.del i) h
  exact this ds l H h
end
end Go.Proofs.YtcpniokopahakaaDoor.Eng
/- What every seat's walks share. -/
set_option maxRecDepth 100000
set_option maxHeartbeats 4000000
set_option linter.unusedVariables false
set_option linter.unusedSimpArgs false
namespace Go.Proofs.YtcpniokopahakaaDoor.Eng
open Go Go.Proofs.YtcpniokopahakaaDoor.Eng Go.RowKit
theorem mixed : (Tryd.prog).follows .mixedOrders = true := by kernel_rfl
abbrev I64 (x : Int) : Prop := -9223372036854775808 ≤ x ∧ x ≤ 9223372036854775807
abbrev I32 (x : Int) : Prop := -2147483648 ≤ x ∧ x ≤ 2147483647
abbrev U64 (x : Int) : Prop := 0 ≤ x ∧ x ≤ 18446744073709551615
abbrev U32 (x : Int) : Prop := 0 ≤ x ∧ x ≤ 4294967295
abbrev U8 (x : Int) : Prop := 0 ≤ x ∧ x ≤ 255
theorem eqv {a b : Int} (h : vEq a b = true) : a = b := vEq_t h
section
variable {g : Glob} {w : World} {l l' : List As} {A B : As} {α : Type} {en : α → List Value} {s p : Nat} {v : Value} {xs ys : List α} {e : TypeId} {cs cs' : List Value}
def takA (l : List As) : Nat → (List As → Prop) → Prop :=
  List.rec (motive := fun _ => Nat → (List As → Prop) → Prop) (fun _ k => k []) (fun x _ ih n k => Nat.rec (motive := fun _ => Prop) (k []) (fun m _ => ih m (fun r => k (x :: r))) n) l
theorem takA_eq (l : List As) (n : Nat) (k : List As → Prop) : takA l n k = k (l.take n) := by
  induction l generalizing n k with
  | nil => cases n <;> rfl
  | cons x r ih => cases n with
    | zero => rfl
    | succ n => exact ih n _
theorem sts_take : ∀ {l : List As} {n : Nat} {h : Hp}, sts l h → sts (l.take n) h := by
  intro l
  induction l with
  | nil => intro n h _; rw [List.take_nil]; trivial
  | cons A r ih =>
    intro n h hs
    cases n with
    | zero => trivial
    | succ n =>
      obtain ⟨a, b, h1, h2, h3⟩ := hs
      exact ⟨a, b, h1, h2, ih h3⟩
theorem Sat.firsts {G : Prop} (H : Sat g w l) (n : Nat) (k : takA l n fun l' => Sat g w l' → G) : G := by
  rw [takA_eq] at k
  obtain ⟨h, hs, hx⟩ := H.ex
  exact k ⟨H.os, H.tape, H.output, h, hs, sts_take (n := n + 1) hx⟩
theorem Sat.cg (H : Sat g w l) (h : l = l') : Sat g w l' := h ▸ H
theorem cg0 : ([] : List As) = [] := rfl
theorem cgC (h : A = B) (t : l = l') : A :: l = B :: l' := by rw [h, t]
theorem cgSl (h : xs = ys) : Sl e s en v xs = Sl e s en v ys := by rw [h]
theorem cgPt (h : cs = cs') : Pt p cs e = Pt p cs' e := by rw [h]
theorem setSelf {i : Nat} {x y : α} (h : xs[i]? = some x) : (xs.set i y)[i]? = some y := by rw [List.getElem?_set_self (List.getElem?_eq_some_iff.1 h).1]
theorem setOther {i k : Nat} {x y : α} (h : xs[k]? = some x) (hn : i ≠ k) : (xs.set i y)[k]? = some x := by rw [List.getElem?_set_ne hn]; exact h
end
theorem fb_T {b : Bool} (h : b = false) : (false == b) = true := by rw [h]; rfl
theorem fb_F {b : Bool} (h : b = true) : (false == b) = false := by rw [h]; rfl
theorem tb_T {b : Bool} (h : b = true) : (true == b) = true := by rw [h]; rfl
theorem tb_F {b : Bool} (h : b = false) : (true == b) = false := by rw [h]; rfl
theorem bf_T {b : Bool} (h : b = false) : (b == false) = true := by rw [h]; rfl
theorem bf_F {b : Bool} (h : b = true) : (b == false) = false := by rw [h]; rfl
theorem bt_T {b : Bool} (h : b = true) : (b == true) = true := by rw [h]; rfl
theorem bt_F {b : Bool} (h : b = false) : (b == true) = false := by rw [h]; rfl
theorem fb_t {b : Bool} (h : (false == b) = true) : b = false := by cases b; rfl; cases h
theorem fb_f {b : Bool} (h : (false == b) = false) : b = true := by cases b; cases h; rfl
theorem tb_t {b : Bool} (h : (true == b) = true) : b = true := by cases b; cases h; rfl
theorem tb_f {b : Bool} (h : (true == b) = false) : b = false := by cases b; rfl; cases h
theorem bf_t {b : Bool} (h : (b == false) = true) : b = false := by cases b; rfl; cases h
theorem bf_f {b : Bool} (h : (b == false) = false) : b = true := by cases b; cases h; rfl
theorem bt_t {b : Bool} (h : (b == true) = true) : b = true := by cases b; cases h; rfl
theorem bt_f {b : Bool} (h : (b == true) = false) : b = false := by cases b; rfl; cases h
end Go.Proofs.YtcpniokopahakaaDoor.Eng
/- Plain facts behind the walks of package leb. -/
set_option maxRecDepth 100000
set_option linter.unusedVariables false
set_option linter.unusedSimpArgs false
namespace Go.Proofs.YtcpniokopahakaaDoor.Leb
open Go Go.Proofs.YtcpniokopahakaaDoor.Eng Go.RowKit
theorem byteV_of (c : Nat) (h : c < 256) {x : Int} (hx : x = c) : Value.int .u8 x = byteV (UInt8.ofNat c) := by
  rw [hx, byteV, byte_toNat h]
theorem acc_or (k : IntKind) (acc t i bits : Nat) (hk : k = .u64 ∨ k = .i64) (hb : bits ≤ 64) (hacc : acc < 2 ^ (7 * i)) (hmax : ((acc + t * 2 ^ (7 * i) : Nat) : Int) ≤ k.max) :
    vOr k (acc : Int) ((t * 2 ^ (7 * i) : Nat) : Int) = ((acc + t * 2 ^ (7 * i) : Nat) : Int) := by
  rw [vOr_add k acc _ (7 * i) hacc (Nat.dvd_mul_left _ _) (by omega)]
  omega
theorem acc_step (acc k c bits : Nat) (hb : bits ≤ 64) (hacc : acc < 2 ^ (7 * k)) (h7 : 7 * k < bits) (hbd : acc + c % 128 * 2 ^ (7 * k) < 2 ^ bits) :
    vOr .u64 (acc : Int) (vShl .u64 (vWrap .u64 (vAnd .u8 (c : Int) 127)) ((7 * k : Nat) : Int)) = ((acc + c % 128 * 2 ^ (7 * k) : Nat) : Int) := by
  have h64 : (2 : Nat) ^ bits ≤ 2 ^ 64 := Nat.pow_le_pow_right (by decide) hb
  have e1 : vAnd .u8 (c : Int) 127 = ((c % 128 : Nat) : Int) := by rw [vAnd127]; omega
  rw [e1, wu64 (by omega), vShl_eq _ _ _ (by simp [IntKind.bits]; omega)]
  have e2 : ((c % 128 : Nat) : Int) * 2 ^ (7 * k) = ((c % 128 * 2 ^ (7 * k) : Nat) : Int) := by
    rw [Int.natCast_mul]; norm_cast
  rw [e2, wu64 (by omega)]
  refine acc_or .u64 acc (c % 128) k bits (.inl rfl) hb hacc ?_
  generalize c % 128 * 2 ^ (7 * k) = t at *
  simp [IntKind.max, IntKind.bits, IntKind.signed]; omega
theorem acc_bd {acc k c bits : Nat} (hacc : acc < 2 ^ (7 * k)) (h7 : 7 * k < bits) (hno : ¬ (bits < 7 * k + 7 ∧ c / 2 ^ (bits - 7 * k) ≠ 0)) : acc + c % 128 * 2 ^ (7 * k) < 2 ^ bits := by
  have e : (2 : Nat) ^ bits = 2 ^ (bits - 7 * k) * 2 ^ (7 * k) := by rw [← Nat.pow_add]; congr 1; omega
  have h1 : c % 128 < 2 ^ (bits - 7 * k) := by
    by_cases h : bits < 7 * k + 7
    · have h2 : c / 2 ^ (bits - 7 * k) = 0 := Decidable.byContradiction fun h2 => hno ⟨h, h2⟩
      have := (Nat.div_eq_zero_iff.1 h2).resolve_left (Nat.ne_of_gt (Nat.two_pow_pos _))
      exact Nat.lt_of_le_of_lt (Nat.mod_le _ _) this
    · have : (2 : Nat) ^ 7 ≤ 2 ^ (bits - 7 * k) := Nat.pow_le_pow_right (by decide) (by omega)
      omega
  have h2 : (c % 128 + 1) * 2 ^ (7 * k) ≤ 2 ^ (bits - 7 * k) * 2 ^ (7 * k) := Nat.mul_le_mul_right _ h1
  rw [Nat.add_mul] at h2
  omega
theorem cont_bd {k c bits : Nat} (hb : bits = 32 ∨ bits = 64) (h7 : 7 * k < bits) (hc : 128 ≤ c) (hno : ¬ (bits < 7 * k + 7 ∧ c / 2 ^ (bits - 7 * k) ≠ 0)) : 7 * (k + 1) < bits := by
  by_cases h : bits < 7 * k + 7
  · exfalso
    apply hno
    refine ⟨h, fun h2 => ?_⟩
    have h3 := (Nat.div_eq_zero_iff.1 h2).resolve_left (Nat.ne_of_gt (Nat.two_pow_pos _))
    have : (2 : Nat) ^ (bits - 7 * k) ≤ 2 ^ 7 := Nat.pow_le_pow_right (by decide) (by omega)
    omega
  · omega
theorem acc_next {acc k c : Nat} (hacc : acc < 2 ^ (7 * k)) : acc + c % 128 * 2 ^ (7 * k) < 2 ^ (7 * (k + 1)) := by
  rw [pow_succ7]
  have h2 : (c % 128 + 1) * 2 ^ (7 * k) ≤ 128 * 2 ^ (7 * k) := Nat.mul_le_mul_right _ (by omega)
  rw [Nat.add_mul] at h2
  omega
theorem wrap_i8 {x : Int} (h : 0 ≤ x ∧ x < 256) : vWrap .i8 x = if x < 128 then x else x - 256 := by
  unfold vWrap
  simp [IntKind.wrap, IntKind.bits, IntKind.signed]
  split <;> split <;> omega
theorem sev_walk (c : Nat) (hc : c < 256) : vShr .i64 (vWrap .i64 (vWrap .i8 (vShl .u8 (c : Int) 1))) 1 = sev c := by
  have e1 : vShl .u8 (c : Int) 1 = ((2 * c % 256 : Nat) : Int) := by
    have := vShl_eq .u8 c 1 (by decide)
    rw [show ((1 : Nat) : Int) = 1 from rfl] at this
    rw [this]
    unfold vWrap
    simp [IntKind.wrap, IntKind.bits, IntKind.signed]; omega
  have e2 : vWrap .i8 ((2 * c % 256 : Nat) : Int) = if c % 128 < 64 then ((2 * (c % 128) : Nat) : Int) else ((2 * (c % 128) : Nat) : Int) - 256 := by
    rw [wrap_i8 (by omega)]
    split <;> split <;> omega
  have e3 := vShr_eq .i64 (sev c * 2) 1 (by decide)
  rw [show ((1 : Nat) : Int) = 1 from rfl] at e3
  have e4 : vWrap .i8 ((2 * c % 256 : Nat) : Int) = sev c * 2 := by
    rw [e2]; unfold sev; split <;> omega
  have hs : -64 ≤ sev c ∧ sev c < 64 := by unfold sev; split <;> omega
  rw [e1, e4, wi64 (by omega), e3]
  omega
theorem acc_stepS (acc k c : Nat) (hk : 7 * k < 63) (hacc : acc < 2 ^ (7 * k)) (h63 : acc + c % 128 * 2 ^ (7 * k) < 2 ^ 63) :
    vOr .i64 (acc : Int) (vShl .i64 (vWrap .i64 (vAnd .u8 (c : Int) 127)) ((7 * k : Nat) : Int)) = ((acc + c % 128 * 2 ^ (7 * k) : Nat) : Int) := by
  have e1 : vAnd .u8 (c : Int) 127 = ((c % 128 : Nat) : Int) := by rw [vAnd127]; omega
  rw [e1, wi64 (by omega), vShl_eq _ _ _ (by simp [IntKind.bits]; omega)]
  have e2 : ((c % 128 : Nat) : Int) * 2 ^ (7 * k) = ((c % 128 * 2 ^ (7 * k) : Nat) : Int) := by
    rw [Int.natCast_mul]; norm_cast
  rw [e2, wi64 (by omega)]
  refine acc_or .i64 acc (c % 128) k 64 (.inr rfl) (by decide) hacc ?_
  generalize c % 128 * 2 ^ (7 * k) = t at *
  simp [IntKind.max, IntKind.bits, IntKind.signed]; omega
theorem vOr_i64 (a : Nat) (b : Int) (n : Nat) (ha : a < 2 ^ n) (hn : n ≤ 63) (hb : (2 ^ n : Int) ∣ b) (h1 : -9223372036854775808 ≤ b) (h2 : b ≤ 9223372036854775807) : vOr .i64 (a : Int) b = a + b := by
  obtain ⟨c, rfl⟩ := hb
  have hp : (0 : Int) < 2 ^ n := by exact_mod_cast Nat.two_pow_pos n
  have h64 : (2 : Int) ^ 64 = 2 ^ n * 2 ^ (64 - n) := by rw [← Int.pow_add]; congr 1; omega
  have han : ((2 ^ n : Nat) : Int) = 2 ^ n := by norm_cast
  have ha' : (a : Int) < 2 ^ n := by omega
  have hlt63 : (2 : Int) ^ n ≤ 2 ^ 63 := by exact_mod_cast Nat.pow_le_pow_right (by decide) hn
  unfold vOr
  have ea : (BitVec.ofInt IntKind.i64.bits (a : Int)).toNat = a := by
    have := ofInt_toNat 64 a
    rw [Int.emod_eq_of_lt (by omega) (by omega)] at this
    show (BitVec.ofInt 64 (a : Int)).toNat = a
    omega
  have eb : (((BitVec.ofInt IntKind.i64.bits (2 ^ n * c)).toNat : Nat) : Int) = 2 ^ n * (c % 2 ^ (64 - n)) := by
    have := ofInt_toNat 64 (2 ^ n * c)
    show (((BitVec.ofInt 64 (2 ^ n * c)).toNat : Nat) : Int) = _
    rw [this, h64, Int.mul_emod_mul_of_pos _ _ hp]
  have hp2 : (0 : Int) < 2 ^ (64 - n) := by exact_mod_cast Nat.two_pow_pos _
  have hc0 : 0 ≤ c % 2 ^ (64 - n) := Int.emod_nonneg _ (Int.ne_of_gt hp2)
  obtain ⟨d, hd⟩ := Int.eq_ofNat_of_zero_le hc0
  have eb' : (BitVec.ofInt IntKind.i64.bits (2 ^ n * c)).toNat = 2 ^ n * d := by
    have : (((BitVec.ofInt IntKind.i64.bits (2 ^ n * c)).toNat : Nat) : Int) = ((2 ^ n * d : Nat) : Int) := by
      rw [eb, hd, Int.natCast_mul, han]
    omega
  rw [BitVec.toNat_or, ea, eb', Nat.or_comm, ← Nat.two_pow_add_eq_or_of_lt ha]
  have h3 : ((2 ^ n * d + a : Nat) : Int) = (2 ^ n * c + a) % 2 ^ 64 := by
    rw [Int.natCast_add, Int.natCast_mul, han]
    rw [← hd, ← Int.mul_emod_mul_of_pos _ _ hp, ← h64]
    have h5 : 0 ≤ 2 ^ n * c % 2 ^ 64 := Int.emod_nonneg _ (by decide)
    have h6 : 2 ^ n * c % 2 ^ 64 + a < 2 ^ 64 := by
      rw [h64, Int.mul_emod_mul_of_pos _ _ hp]
      have : c % 2 ^ (64 - n) + 1 ≤ 2 ^ (64 - n) := Int.emod_lt_of_pos _ (by exact_mod_cast Nat.two_pow_pos _)
      have h7 := Int.mul_le_mul_of_nonneg_left this (Int.le_of_lt hp)
      rw [Int.mul_add, Int.mul_one] at h7
      omega
    rw [Int.add_emod, Int.emod_eq_of_lt (a := (a : Int)) (by omega) (by omega), Int.emod_eq_of_lt (by omega) h6]
  have hbnd : 2 ^ n * c + (a : Int) ≤ 9223372036854775807 := by
    by_cases hc : c < 0
    · have : 2 ^ n * c ≤ 2 ^ n * (-1) := Int.mul_le_mul_of_nonneg_left (by omega) (Int.le_of_lt hp)
      omega
    · have h8 : (2 : Int) ^ 63 = 2 ^ n * 2 ^ (63 - n) := by rw [← Int.pow_add]; congr 1; omega
      have h9 : c < 2 ^ (63 - n) := by
        apply Decidable.byContradiction
        intro h
        have h10 := Int.mul_le_mul_of_nonneg_left (Int.not_lt.1 h) (Int.le_of_lt hp)
        rw [← h8] at h10
        omega
      have h11 := Int.mul_le_mul_of_nonneg_left (show c + 1 ≤ 2 ^ (63 - n) from h9) (Int.le_of_lt hp)
      rw [← h8, Int.mul_add, Int.mul_one] at h11
      omega
  rw [h3]
  have h12 : IntKind.i64.wrap ((2 ^ n * c + (a : Int)) % 2 ^ 64) = IntKind.i64.wrap (2 ^ n * c + a) := by
    unfold IntKind.wrap
    rw [show IntKind.i64.bits = 64 from rfl, Int.emod_emod]
  rw [h12]
  have h13 := wi64 (n := 2 ^ n * c + a) ⟨by omega, hbnd⟩
  unfold vWrap at h13
  rw [h13]; omega
end Go.Proofs.YtcpniokopahakaaDoor.Leb
/- Slice expressions that only look: v[a:h] of a row that stays whole. -/
set_option maxRecDepth 100000
set_option linter.unusedVariables false
set_option linter.unusedSimpArgs false
namespace Go.Proofs.YtcpniokopahakaaDoor.Eng
open Go Go.RowKit
/-- v' is v[a:h], where v has n elements of s cells. -/
def Vw (v : Value) (s n a h : Nat) (v' : Value) : Prop := ∃ ad cap, v = .slice ad n cap ∧ h ≤ n ∧ n ≤ cap ∧ cap ≤ 9223372036854775807 ∧ a ≤ h ∧ v' = .slice (if cap = a then ad else ad.map (·.add (a * s))) (h - a) (cap - a)
section
variable {P : Program} {g : Glob} {w : World} {l : List As} {K : Value → World → Prop} {α : Type} {en : α → List Value} {ok : α → Prop} {s j n a h i b o : Nat} {v v' : Value} {xs : List α} {e t ty : TypeId}
theorem Sat.vw (H : Sat g w l) (j : Nat) (hj : l[j]? = some (Sl e s en v xs)) (a h : Nat) (ha : a ≤ h) (hh : h ≤ xs.length) : ∃ v', Vw v s xs.length a h v' := by
  rcases (H.off j hj).1 with ⟨rfl, rfl⟩ | ⟨g, o, cap, cur, rfl, _, _, _, hnc, hcm, _⟩
  · exact ⟨_, none, 0, rfl, hh, Nat.zero_le _, by omega, ha, rfl⟩
  · exact ⟨_, _, cap, rfl, hh, hnc, hcm, ha, rfl⟩
theorem rSlVw {lo hi : Option Value} (V : Vw v s n a h v') (ht : P.underlying t = some (.slice e)) (hsz : (P.info? e).map (fun i => i.size) = some s)
    (hlo : lo = none ∧ a = 0 ∨ ∃ k, lo = some (.int k a)) (hhi : hi = none ∧ h = n ∨ ∃ k, hi = some (.int k h)) (k : K v' w) : RunP P (Instr.sliceAt t v lo hi none) w K := by
  obtain ⟨ad, cap, rfl, hh, hnc, _, ha, rfl⟩ := V
  have hb : (Instr.sliceBounds true n cap lo hi none).run P w = .ok (a, h, cap) w := by
    unfold Instr.sliceBounds
    rcases hlo with ⟨rfl, rfl⟩ | ⟨kl, rfl⟩ <;> rcases hhi with ⟨rfl, rfl⟩ | ⟨kh, rfl⟩
    · simp
    · simp [run_sliceBound (P := P) w kh (h : Int) cap _ (by omega) (by omega)]
    · simp [run_sliceBound (P := P) w kl (a : Int) h _ (by omega) (by omega)]
    · simp [run_sliceBound (P := P) w kh (h : Int) cap _ (by omega) (by omega), run_sliceBound (P := P) w kl (a : Int) h _ (by omega) (by omega)]
  exact rSlB ht hsz hb k
theorem rLenVw (V : Vw v s n a h v') (ht : P.underlying t = some (.slice e)) (k : K (.int .i64 ((h - a : Nat) : Int)) w) : RunP P (Builtin.len_ #[t] ty #[v']) w K := by
  obtain ⟨ad, cap, rfl, hh, hnc, _, ha, rfl⟩ := V
  exact rLenSl ht k
theorem Sat.rdv (H : Sat g w l) (j : Nat) (hj : l[j]? = some (Sl e s en v xs)) (V : Vw v s n a h v') (hok : ∀ x ∈ (xs.take h).drop a, ok x) : Rd en ok s w v' ((xs.take h).drop a) := by
  have ho := H.off j hj
  obtain ⟨ad, cap, rfl, hh, hnc, _, ha, rfl⟩ := V
  obtain ⟨a', c', hf⟩ := H.form j hj
  injection hf with _ h2 _
  exact (ho.cut ha (by omega)).rd hok
theorem Vw.le (V : Vw v s n a h v') : h ≤ n ∧ a ≤ h := by
  obtain ⟨ad, cap, rfl, hh, hnc, _, ha, rfl⟩ := V; exact ⟨hh, ha⟩
theorem Vw.one (V : Vw v s n a h v') : v'.oneCell' = true := by obtain ⟨ad, cap, rfl, hh, hnc, _, ha, rfl⟩ := V; rfl
theorem Vw.el (V : Vw v s n a h v') (E : El v s (a + i) b o) (hi : i < h - a) : El v' s i b o := by
  obtain ⟨ad, cap, rfl, hh, hnc, _, ha, rfl⟩ := V
  obtain ⟨b0, n', c, hv, h1, rfl⟩ := E
  injection hv with e1 e2 e3
  subst e1
  refine ⟨b0 + a * s, h - a, cap - a, ?_, hi, by rw [Nat.add_mul]; omega⟩
  rw [if_neg (by omega)]
  simp [Addr.add_lit]
end
end Go.Proofs.YtcpniokopahakaaDoor.Eng
/- The ways of the first n statements meet behind them. -/
set_option maxRecDepth 100000
set_option linter.unusedVariables false
namespace Go.Proofs.YtcpniokopahakaaDoor.Eng
open Go Go.RowKit
/-- The first n statements of a text, and what follows. -/
def cutC : Nat → Code → Option (Code × Code)
  | 1, .seq a b => some (a, b)
  | n + 2, .seq a b => match cutC (n + 1) b with
    | some (x, y) => some (.seq a x, y)
    | none => none
  | _, _ => none
theorem cutC_wp {P : Program} : ∀ (n : Nat) {c x y : Code} {Q : Exit → List Value → World → Prop} {ρ : List Value} {w : World}, cutC n c = some (x, y) → wpR P x (thenK (wpR P y Q) Q) ρ w → wpR P c Q ρ w := by
  intro n
  induction n with
  | zero => intro c x y Q ρ w hc; cases c <;> simp [cutC] at hc
  | succ n ih =>
    intro c x y Q ρ w hc h
    cases n with
    | zero =>
      cases c <;> simp [cutC] at hc
      obtain ⟨rfl, rfl⟩ := hc
      rw [wpR_seq]; exact h
    | succ n =>
      cases c <;> simp only [cutC] at hc <;> try exact absurd hc (by simp)
      rename_i a b
      split at hc
      · rename_i x' y' hb
        injection hc with hc
        injection hc with h1 h2
        subst h1; subst h2
        rw [wpR_seq] at h ⊢
        refine wpR_imp a h fun e ρ1 w1 he => ?_
        cases e <;> simp only [thenK] at he ⊢
        · exact ih hb he
        all_goals exact he
      · cases hc
theorem joinN {P : Program} (n : Nat) {c x y : Code} {Q : Exit → List Value → World → Prop} {ρ : List Value} {w : World} {α : Type} (sl : α → List (Nat × Value)) (inv : α → World → Prop)
    (hc : cutC n c = some (x, y))
    (hx : wpR P x (thenK (fun ρ' w' => Jn sl inv ρ' w') Q) ρ w)
    (hk : ∀ a (f : Nat → Value) w', inv a w' → hvK (dstsC x) f ρ fun ρ => slK (sl a) ρ fun ρ => wpR P y Q ρ w') : wpR P c Q ρ w := by
  refine cutC_wp n hc (wpR_imp x (wpR_frame x hx) ?_)
  rintro e ρ2 w2 ⟨he, ha⟩
  cases e <;> simp only [thenK] at he ⊢
  · obtain ⟨a, hm, hi⟩ := he
    exact slK_mt _ hm (hvK_agree _ ha (hk a (gt ρ2) w2 hi))
  all_goals exact he
/-- A test that fails, with nothing in its other way. -/
theorem cF_skip {P : Program} {x : Code} {B C : Mng} {K : List Value → World → Prop} {Q : Exit → List Value → World → Prop} {ρ : List Value} {w : World} {b : Bool} (hb : b = false) (h : K ρ w) (hC : C = wpR P .skip := by rfl) : CondP P x .skip B C b (thenK K Q) ρ w := by
  subst hC
  subst hb
  exact ⟨fun h => (by cases h), fun _ => h⟩
/-- What follows the first k statements. -/
def dropC : Nat → Code → Code
  | 0, c => c
  | k + 1, .seq _ b => dropC k b
  | _, _ => .skip
/-- A test that fails, with nothing in its other way; the ways of the n statements that follow (behind the first k of the function's) meet behind them. -/
theorem cF_join {P : Program} (fn : Func) (k n : Nat) {x cx cy : Code} {B C : Mng} {K : List Value → World → Prop} {Q : Exit → List Value → World → Prop} {ρ : List Value} {w : World} {b : Bool} {α : Type} (hb : b = false) (sl : α → List (Nat × Value)) (inv : α → World → Prop)
    (hc : cutC n (dropC k (fn.body.getD .skip)) = some (cx, cy)) (hK : K = wpR P (dropC k (fn.body.getD .skip)) Q)
    (hx : wpR P cx (thenK (fun ρ' w' => Jn sl inv ρ' w') Q) ρ w)
    (hk : ∀ a (f : Nat → Value) w', inv a w' → hvK (dstsC cx) f ρ fun ρ => slK (sl a) ρ fun ρ => wpR P cy Q ρ w') (hC : C = wpR P .skip := by rfl) : CondP P x .skip B C b (thenK K Q) ρ w := by
  subst hK
  exact cF_skip hb (joinN n sl inv hc hx hk) hC
end Go.Proofs.YtcpniokopahakaaDoor.Eng
/- (without the signed half) Package leb: writing. -/
set_option maxRecDepth 100000
set_option maxHeartbeats 4000000
set_option linter.unusedVariables false
set_option linter.unusedSimpArgs false
namespace Go.Proofs.YtcpniokopahakaaDoor.Leb
open Go Go.Proofs.YtcpniokopahakaaDoor.Eng Go.RowKit
theorem or128 {x : Nat} (h : x < 128) : x ||| 128 = x + 128 := by
  have := Nat.two_pow_add_eq_or_of_lt (i := 7) h 1
  rw [Nat.mul_one] at this
  rw [Nat.or_comm]
  show 2 ^ 7 ||| x = x + 128
  rw [← this]; omega
theorem U1 (n : Int) (w : World) : Fc Tryd.prog 117 #[.int .u64 n] w (fun v w' => v = .bool (vLt n 128) ∧ w = w') := by
  refine Fc.of Tryd.func117 rfl (by kernel_rfl) ?_
  have H := Sat.start w
  refine Done.mk ?_
  exact ⟨rfl, rfl⟩
theorem write_u (n : Int) (m0 : Nat) (hm0 : n = (m0 : Int)) (hn : m0 < 2 ^ 64) (w : World) : Fc Tryd.prog 116 #[.int .u64 n, .func (.func 117) #[] #[]] w
    (fun v w' => ∃ l, v = .string (bs l) ∧ l = uleb m0 ∧ Sat (froz w) w' []) := by
  subst hm0
  have hlen : (uleb m0).length ≤ 10 := uleb_len 9 m0 (by omega)
  refine Fc.of Tryd.func116 rfl (by kernel_rfl) ?_
  have H := Sat.start w
  
  refine LoopP.rule (α := Nat × Value × List UInt8) (m0, .slice none 0 0, []) (fun x_ => [(0, .int .u64 x_.1), (5, x_.2.1)]) (fun x_ w_ => (x_.2.2 ++ uleb x_.1 = uleb m0) ∧ (x_.1 < 2 ^ 64) ∧ Sat (froz w) w_ ((Sl 5 1 enY x_.2.1 x_.2.2 :: []))) (fun x_ => x_.1) ?_ ?_ ?_
  · repeat first | exact mt_nil | refine mt_cons rfl ?_ | refine mt_i rfl (by first | omega | (simp only; omega) | (simp; omega) | (simp; done)) ?_
  · try simp only
    refine ⟨?_, ?_⟩
    · rfl
    refine ⟨?_, ?_⟩
    · assumption
    replace H := H.sl0 (en := enY) (s := 1) (5) (fun _ => rfl)
    exact H
  clear H
  rintro ⟨m, vo, l⟩ f_ w_ ⟨hl, hm, H⟩
  try simp only at hl hm H ⊢
  have hll : l.length + (uleb m).length ≤ 10 := by rw [← List.length_append, hl]; exact hlen
  have hpos := uleb_pos m
  have e0 : vAnd .u64 (m : Int) 127 = ((m % 128 : Nat) : Int) := by rw [vAnd127]; omega
  by_cases h : m < 128
  · have hu := uleb_lt h
    rw [hu] at hl
    refine CallP.mk (Fc.imp (Go.Proofs.YtcpniokopahakaaDoor.Leb.U1 _ _) ?_)
    rintro _ _ ⟨rfl, rfl⟩
    refine cF (not_F (vLt_T (by omega))) ?_
    refine EqP.mk _ e0 ?_
    refine rConvU8 (by omega) rfl rfl ?_
    refine rBuildSliceS H rfl rfl rfl rfl ?_
    clear H
    intro p1 w1 H
    clear w_
    have hbk1 := byteIs (x := (↑(m % 128) : Int)) (n := (m % 128)) (by omega)
    rw [hbk1] at H
    clear hbk1
    refine rApS (ys := [_]) 1 H 1 rfl (H.at 0 rfl) rfl (fun y _ => rfl) rfl rfl rfl (by omega) (by omega) ?_
    intro v1
    clear H
    intro w2 H
    clear w1
    refine rBytesStrS H 1 rfl rfl rfl rfl ?_
    refine Done.mk ?_
    refine ⟨l ++ [UInt8.ofNat (m % 128)], ?_⟩
    refine ⟨?_, ?_⟩
    · rfl
    refine ⟨?_, ?_⟩
    · (rw [Nat.mod_eq_of_lt h]; exact hl)
    refine H.firsts 0 ?_
    clear H
    intro H
    exact H
  · have hu := uleb_ge (n := m) (by omega)
    rw [hu] at hl
    have ho : m % 128 ||| 128 = m % 128 + 128 := by
      exact or128 (by omega)
    refine CallP.mk (Fc.imp (Go.Proofs.YtcpniokopahakaaDoor.Leb.U1 _ _) ?_)
    rintro _ _ ⟨rfl, rfl⟩
    refine cT (not_T (vLt_F (by omega))) ?_
    refine bk ?_
    refine EqP.mk _ e0 ?_
    refine rConvU8 (by omega) rfl rfl ?_
    (refine eqOrU8 ((m % 128)) (128) (by omega) (by omega) (by omega) (by omega) ?_; intro hB)
    refine rBuildSliceS H rfl rfl rfl rfl ?_
    clear H
    intro p1 w1 H
    clear w_
    have hbk1 := byteIs (x := (↑(m % 128 ||| 128) : Int)) (n := (m % 128 ||| 128)) (by omega)
    rw [hbk1] at H
    clear hbk1
    refine rApS (ys := [_]) 1 H 1 rfl (H.at 0 rfl) rfl (fun y _ => rfl) rfl rfl rfl (by omega) (by omega) ?_
    intro v1
    clear H
    intro w2 H
    clear w1
    refine ShiftP.mk (by decide) ?_
    refine eqShrL 7 128 rfl rfl (by decide) ?_
    refine Nxt.mk ((m / 128, v1, l ++ [UInt8.ofNat (m % 128 ||| 128)])) (mt_i rfl (by first | omega | (simp only; omega) | (simp; omega)) (mt_cons rfl (mt_nil))) ?_ ?_
    · refine ⟨?_, ?_⟩
      · (rw [ho, List.append_assoc]; exact hl)
      refine ⟨?_, ?_⟩
      · omega
      refine H.fronts [1] ?_
      clear H
      intro H
      refine H.firsts 1 ?_
      clear H
      intro H
      exact H
    omega
theorem U (n : Int) (m0 : Nat) (hm0 : n = (m0 : Int)) (hn : m0 < 2 ^ 64) (w : World) : Fc Tryd.prog 43 #[.int .u64 n] w (fun v w' => ∃ l, v = .string (bs l) ∧ l = uleb m0 ∧ l.length ≤ 10 ∧ Sat (froz w) w' []) := by
  subst hm0
  have hlen : (uleb m0).length ≤ 10 := uleb_len 9 m0 (by omega)
  refine Fc.of Tryd.func43 rfl (by kernel_rfl) ?_
  have H := Sat.start w
  refine CallP.mk (Fc.imp (Go.Proofs.YtcpniokopahakaaDoor.Leb.write_u _ (m0) ?_ ?_ _) ?_)
  · omega
  · assumption
  rintro _ w1 ⟨l1, ⟨rfl, ⟨h1, H'⟩⟩⟩
  refine H.mergeK H' ?_
  clear H H'
  intro H
  refine Done.mk ?_
  refine ⟨l1, ?_⟩
  refine ⟨?_, ?_⟩
  · rfl
  refine ⟨?_, ?_⟩
  · assumption
  refine ⟨?_, ?_⟩
  · (rw [h1]; exact hlen)
  exact H
end Go.Proofs.YtcpniokopahakaaDoor.Leb
/- Memory that is written no more: frozen beside what was there. -/
set_option maxRecDepth 100000
set_option linter.unusedVariables false
set_option linter.unusedSimpArgs false
namespace Go.Proofs.YtcpniokopahakaaDoor.Eng
open Go Go.RowKit
/-- g' is g, and more is frozen. -/
structure Ext (g g' : Glob) : Prop where
  os : g'.os = g.os
  tape : g'.tape = g.tape
  output : g'.output = g.output
  fr : ∀ k o, g.fr k = some o → g'.fr k = some o
theorem Ext.refl (g : Glob) : Ext g g := ⟨rfl, rfl, rfl, fun _ _ h => h⟩
theorem Ext.trans {a b c : Glob} (h : Ext a b) (k : Ext b c) : Ext a c := ⟨k.os.trans h.os, k.tape.trans h.tape, k.output.trans h.output, fun _ _ x => k.fr _ _ (h.fr _ _ x)⟩
theorem Ext.hle {g g' : Glob} (E : Ext g g') : Hle (Gh g) (Gh g') := fun b o h => E.fr b o h
section
variable {P : Program} {g g' : Glob} {w w' : World} {l : List As} {A : As} {α : Type} {en : α → List Value} {ok ok' : α → Prop} {s j b o : Nat} {v : Value} {xs : List α} {vs : List Value} {e : TypeId}
theorem FSl.ext (h : FSl g en ok s v xs) (E : Ext g g') : FSl g' en ok s v xs := SlR.mono (RE.mono' en ok) h E.hle
theorem FAt.ext (h : FAt g b o vs) (E : Ext g g') : FAt g' b o vs := AtH.mono h E.hle
theorem FSl.okm (h : FSl g en ok s v xs) (hm : ∀ x ∈ xs, ok x → ok' x) : FSl g en ok' s v xs := by
  obtain ⟨a, cap, h1, h2, h3, h4⟩ := h
  exact ⟨a, cap, h1, h2, h3, fun hx => let ⟨b, o, news, e, k1, k2⟩ := h4 hx; ⟨b, o, news, e, k1, k2.1, fun i x hx => ⟨(k2.2 i x hx).1, hm x (List.mem_of_getElem? hx) (k2.2 i x hx).2⟩⟩⟩
theorem FSl.extN {ok : Glob → α → Prop} (hm : ∀ (g g' : Glob) (x : α), ok g x → Ext g g' → ok g' x) (h : FSl g en (ok g) s v xs) (E : Ext g g') : FSl g' en (ok g') s v xs :=
  FSl.okm (FSl.ext h E) fun _ _ k => hm _ _ _ k E
theorem FSl.all (h : FSl g en ok s v xs) : ∀ x ∈ xs, ok x := fun x hx => by
  obtain ⟨a, cap, h1, h2, h3, h4⟩ := h
  obtain ⟨b, o, news, e, k1, k2⟩ := h4 (List.ne_nil_of_mem hx)
  obtain ⟨i, hi, rfl⟩ := List.mem_iff_getElem.1 hx
  exact (k2.2 i _ (List.getElem?_eq_getElem hi)).2
theorem Rd.tt {w : World} (h : Rd en ok s w v xs) : Rd en (fun _ => True) s w v xs := by
  obtain ⟨a, cap, h1, h2, h3, h4⟩ := h
  exact ⟨a, cap, h1, h2, h3, fun hx => let ⟨b, o, news, e, k1, k2⟩ := h4 hx; ⟨b, o, news, e, k1, k2.1, fun i x hx => ⟨(k2.2 i x hx).1, trivial⟩⟩⟩
theorem FSl.one (h : FSl g en ok s v xs) : v.oneCell' = true := by obtain ⟨a, cap, rfl, _⟩ := h; rfl
theorem FSl.form (h : FSl g en ok s v xs) : ∃ a c, v = .slice a xs.length c := by obtain ⟨a, cap, rfl, _⟩ := h; exact ⟨_, _, rfl⟩
theorem FSl.nil0 (g : Glob) (en : α → List Value) (ok : α → Prop) (s : Nat) : FSl g en ok s (.slice none 0 0) [] := SlR.nil _ _ _
/-- A piece becomes frozen. -/
theorem Sat.freezeA (H : Sat g w l) (hj : l[j]? = some A) : ∃ g' a, Ext g g' ∧ A a ∧ (∀ k o, a k = some o → g'.fr k = some o) ∧ Sat g' w (l.eraseIdx j) := by
  obtain ⟨h, hs, f, b, h1, h2, h3⟩ := H.ex
  obtain rfl : f = g.fr := h2
  obtain ⟨a, c, h4, h5, h6⟩ := (sts_mid hj).1 h3
  refine ⟨{ g with fr := fun k => match a k with
    | some o => some o
    | none => g.fr k }, a, ⟨rfl, rfl, rfl, fun k o hk => ?_⟩, h5, fun k o hk => ?_, H.os, H.tape, H.output, h, hs, _, c, fun k => ?_, rfl, h6⟩
  · dsimp only
    cases ha : a k with
    | none => exact hk
    | some o' =>
      exfalso
      rcases h1 k with ⟨_, q⟩ | ⟨q, _⟩
      · rcases h4 k with ⟨r, _⟩ | ⟨r, _⟩
        · rw [ha, q] at r; cases r
        · rw [ha] at r; cases r
      · rw [hk] at q; cases q
  · dsimp only; rw [hk]
  · dsimp only
    rcases h1 k with ⟨q1, q2⟩ | ⟨q1, q2⟩
    · rcases h4 k with ⟨r1, r2⟩ | ⟨r1, r2⟩
      · left; rw [r1, q2]; exact ⟨q1, r2⟩
      · left; rw [r1]; exact ⟨q1, r2.trans q2⟩
    · rcases h4 k with ⟨r1, r2⟩ | ⟨r1, r2⟩
      · cases ha : a k with
        | none =>
          right
          dsimp only
          exact ⟨q1, by rw [r2, ← q2, ← r1, ha]⟩
        | some o => left; dsimp only; exact ⟨by rw [← q2, ← r1, ha], r2⟩
      · right; rw [r1]; exact ⟨q1, r2.trans q2⟩
theorem Sl.rdf {a : Hp} (h : Sl e s en v xs a) (hf : ∀ k o, a k = some o → g.fr k = some o) (hok : ∀ x ∈ xs, ok x) : FSl g en ok s v xs := by
  rcases h.1 with ⟨rfl, rfl⟩ | ⟨gb, o, cap, cur, rfl, hb, hfit, hnc, hcm, ht⟩
  · exact SlR.nil _ _ _
  · refine ⟨_, cap, rfl, ⟨hnc, hcm⟩, nofun, fun _ => ⟨gb, o, xs.flatMap en, rfl, ⟨cur.toArray, e, (0, 0), hf _ _ hb, fun i x hx => ?_⟩, flat_len h.2 xs, fun i x hx => ⟨flat_part h.2 xs i x hx, hok x (List.mem_of_getElem? hx)⟩⟩⟩
    rw [← ht, List.getElem?_take] at hx
    split at hx
    · rw [List.getElem?_drop] at hx; simpa using hx
    · cases hx
theorem Sat.freeze (H : Sat g w l) (hj : l[j]? = some (Sl e s en v xs)) (hok : ∀ x ∈ xs, ok x) : ∃ g', Ext g g' ∧ FSl g' en ok s v xs ∧ Sat g' w (l.eraseIdx j) := by
  obtain ⟨g', a, E, h1, h2, h3⟩ := H.freezeA hj
  exact ⟨g', E, h1.rdf h2 hok, h3⟩
theorem Sat.frz1 {G : Prop} (H : Sat g w l) (j : Nat) (ok : α → Prop) (hj : l[j]? = some (Sl e s en v xs)) (hok : ∀ x ∈ xs, ok x) (k : ∀ g', Ext g g' → FSl g' en ok s v xs → delA l j fun l' => Sat g' w l' → G) : G := by
  obtain ⟨g', E, h1, h2⟩ := H.freeze hj hok
  have k := k g' E h1
  rw [delA_eq] at k; exact k h2
theorem Sat.taken (H : Sat g w l) (n : Nat) : Sat g w (l.take n) := by
  obtain ⟨h, hs, hx⟩ := H.ex
  exact ⟨H.os, H.tape, H.output, h, hs, sts_take (n := n + 1) hx⟩
theorem Sat.nilS (H : Sat g w l) (e : TypeId) (hs : ∀ x, (en x).length = s) : Sat g w [Sl e s en (.slice none 0 0) []] := (H.sl0 e hs).taken 1
theorem Sat.tl (H : Sat g w (A :: l)) : Sat g w l := H.del 0
/-- The new frozen is forgotten. -/
theorem Sat.forget (H : Sat g' w l) (E : Ext g g') : Sat g w l := by
  obtain ⟨h, hs, f, b, h1, h2, h3⟩ := H.ex
  obtain rfl : f = g'.fr := h2
  refine ⟨H.os.trans E.os, H.tape.trans E.tape, H.output.trans E.output, fun k => match b k with
    | some o => some o
    | none => g.fr k, fun k o hk => ?_, g.fr, b, fun k => ?_, rfl, h3⟩
  · dsimp only at hk
    cases hb : b k with
    | some o' =>
      rw [hb] at hk
      obtain rfl := Option.some.inj hk
      rcases h1 k with ⟨_, q⟩ | ⟨_, q⟩
      · rw [hb] at q; cases q
      · exact hs k _ (q ▸ hb)
    | none =>
      rw [hb] at hk
      have := E.fr k o hk
      rcases h1 k with ⟨q, _⟩ | ⟨q, _⟩
      · exact hs k _ (q ▸ this)
      · rw [this] at q; cases q
  · dsimp only
    cases hb : b k with
    | none => left; exact ⟨rfl, rfl⟩
    | some o =>
      right
      refine ⟨?_, rfl⟩
      cases hg : g.fr k with
      | none => rfl
      | some o' =>
        have := E.fr k o' hg
        rcases h1 k with ⟨_, q⟩ | ⟨q, _⟩
        · rw [hb] at q; cases q
        · rw [this] at q; cases q
theorem Ext.fin {w0 : World} (E : Ext (froz w0) g) (H : Sat g w l) : Below w0.heap.size w0 w := (H.forget E).finish
theorem Ext.start {w0 : World} (E : Ext (froz w0) g) (H : Sat g w l) : Sat (froz w0) w l := H.forget E
/-- A call that is told from g = froz w, used where g is frozen: what it froze is frozen here. -/
theorem Sat.mergeX {l' : List As} (H : Sat g w l) (E : Ext (froz w) g') (H' : Sat g' w' l') : ∃ g2, Ext g g2 ∧ (∀ k o, g'.fr k = some o → w.heap[k]? = none → g2.fr k = some o) ∧ Sat g2 w' (l' ++ l) := by
  obtain ⟨h, hs, hx⟩ := H'.ex
  obtain ⟨f, b, h1, h2, h3⟩ := hx
  obtain rfl : f = g'.fr := h2
  -- the new frozen as a piece ahead of l'
  have H2 : Sat (froz w) w' ((fun h => h = fun k => match w.heap[k]? with
    | some _ => none
    | none => g'.fr k) :: l') := by
    refine ⟨H'.os.trans E.os, H'.tape.trans E.tape, H'.output.trans E.output, h, hs, fun k => w.heap[k]?, fun k => match w.heap[k]? with
      | some _ => none
      | none => h k, fun k => ?_, rfl, fun k => match w.heap[k]? with
      | some _ => none
      | none => g'.fr k, b, fun k => ?_, rfl, h3⟩
    · dsimp only
      cases hw : w.heap[k]? with
      | none => right; exact ⟨rfl, rfl⟩
      | some o =>
        left
        refine ⟨?_, rfl⟩
        have := E.fr k o hw
        rcases h1 k with ⟨q, _⟩ | ⟨q, _⟩
        · rw [← q, this]
        · rw [this] at q; cases q
    · dsimp only
      cases hw : w.heap[k]? with
      | none => exact h1 k
      | some o =>
        dsimp only
        right
        refine ⟨rfl, ?_⟩
        have := E.fr k o hw
        rcases h1 k with ⟨_, q⟩ | ⟨q, _⟩
        · exact q
        · rw [this] at q; cases q
  have H3 := H.merge H2
  obtain ⟨g2, a, E2, ha, hf, hS⟩ := H3.freezeA (j := 0) rfl
  refine ⟨g2, E2, fun k o hk hw => hf k o ?_, hS⟩
  rw [ha]; dsimp only; rw [hw]; exact hk
end
end Go.Proofs.YtcpniokopahakaaDoor.Eng
/- Contracts of the library as contracts of mine; a variable of the library's own. -/
set_option linter.unusedVariables false
namespace Go.Proofs.YtcpniokopahakaaDoor.Eng
open Go
theorem Fc.ofCalls {P : Program} {f : FuncId} {fn : Func} {c : Code} {args : Array Value} {w : World} {R : Value → World → Prop}
    (hf : P.funcs[f]? = some fn) (hb : fn.body = some c) (hn : (fn.name == "runtime.NumGoroutine") = false) (h : Calls P f args w fun e w' => ∃ v, e = .returned v ∧ R v w') : Fc P f args w R := by
  refine ⟨?_, h⟩
  simp only [callFunc, Sem.run_bind, program, Sem.run, Result.andThen_ok, hf]
  rw [if_neg (by rw [hn]; decide), if_neg (by rw [hb]; simp)]
  rfl
theorem fat_cell {w : World} {b : Nat} {v : Value} (h : w.cell? ⟨b, 0, none⟩ = some v) : FAt (froz w) b 0 [v] := by
  unfold World.cell? at h
  split at h
  · rename_i cs e fz hh
    refine ⟨cs, e, fz, hh, fun i u hu => ?_⟩
    rw [if_neg (by simp)] at h
    match i, hu with
    | 0, hu =>
      obtain rfl : v = u := by simpa using hu
      exact h
  · cases h
end Go.Proofs.YtcpniokopahakaaDoor.Eng
/- A text that ends with the byte 255 is no UTF-8. -/
set_option linter.unusedVariables false
namespace Go.Proofs.YtcpniokopahakaaDoor.Leb
open Go Go.Lib
theorem decodeN_take {n b0 b1 b2 b3 : Nat} (hn : 1 ≤ n) (h : ¬ ((decodeN n b0 b1 b2 b3).1 = 65533 ∧ (decodeN n b0 b1 b2 b3).2 = 1)) (h0 : b0 < 256) :
    let k := (decodeN n b0 b1 b2 b3).2
    1 ≤ k ∧ k ≤ n ∧ b0 ≠ 255 ∧ (2 ≤ k → b1 ≠ 255) ∧ (3 ≤ k → b2 ≠ 255) ∧ (4 ≤ k → b3 ≠ 255) ∧ k ≤ 4 := by
  unfold decodeN at *
  repeat' split at h
  all_goals (simp_all; try omega)
  all_goals (rw [if_neg (by omega)]; dsimp only; omega)
theorem take_of {l : List UInt8} (hne : l ≠ []) (h : ¬ ((decodeL l).1 = 65533 ∧ (decodeL l).2 = 1)) : 1 ≤ (decodeL l).2 ∧ (decodeL l).2 ≤ l.length ∧ (decodeL l).2 ≤ 4 ∧ ∀ q, q < (decodeL l).2 → l[q]? ≠ some 255 := by
  have hlen : 1 ≤ l.length := List.length_pos_iff.2 hne
  have e : decodeL l = decodeN l.length (l.getD 0 0).toNat (l.getD 1 0).toNat (l.getD 2 0).toNat (l.getD 3 0).toNat := by
    unfold decodeL
    rw [decode_at]
    simp [ByteArray.get!, ByteArray.size]
    rfl
  rw [e] at h ⊢
  obtain ⟨h1, h2, h3, h4, h5, h6, h7⟩ := decodeN_take hlen h (UInt8.toNat_lt _)
  refine ⟨h1, h2, h7, fun q hq hx => ?_⟩
  have hg : (l.getD q 0).toNat = 255 := by rw [List.getD_eq_getElem?_getD, hx]; rfl
  match q, hq, hg with
  | 0, _, hg => exact h3 hg
  | 1, hq, hg => exact h4 (by omega) hg
  | 2, hq, hg => exact h5 (by omega) hg
  | 3, hq, hg => exact h6 (by omega) hg
  | q + 4, hq, _ => omega
theorem valid_ff : ∀ (n : Nat) (l : List UInt8), l.length ≤ n → validD (l ++ [255]) = false
  | n, l, hn => by
    have hne : l ++ [255] ≠ [] := by simp
    rw [validD_step _ hne]
    by_cases h : (decodeL (l ++ [255])).1 = 65533 ∧ (decodeL (l ++ [255])).2 = 1
    · rw [if_pos h]
    · rw [if_neg h]
      obtain ⟨h1, h2, h3, h4⟩ := take_of hne h
      have hk : (decodeL (l ++ [255])).2 ≤ l.length := by
        apply Decidable.byContradiction
        intro hk
        refine h4 l.length (by omega) ?_
        simp
      rw [List.drop_append_of_le_length hk]
      match n, hn with
      | 0, hn => omega
      | n + 1, hn => exact valid_ff n _ (by rw [List.length_drop]; omega)
end Go.Proofs.YtcpniokopahakaaDoor.Leb
/- What every row's proof of this seat shares. -/
namespace Go.Proofs.YtcpniokopahakaaDoor.Row
theorem own : ownKnob Tryd.prog.godebug = none := by kernel_rfl
theorem laidOut : laidOutB Tryd.prog = true := by kernel_rfl
end Go.Proofs.YtcpniokopahakaaDoor.Row
set_option maxRecDepth 100000
namespace Go.Proofs.YtcpniokopahakaaDoor.Eng
open Go
theorem open_bs {s : ByteArray} (h : s.size ≤ maxLen) : ∃ l, s = bs l ∧ l.length ≤ 9223372036854775807 ∧ l = s.data.toList := by
  refine ⟨s.data.toList, bs_of s, ?_, rfl⟩
  have : s.size = s.data.toList.length := by rw [Array.length_toList]; rfl
  unfold maxLen at h
  omega
theorem bd_wf {k : IntKind} {a : Int} (h : (Lit.int k a).wf = true) : k.min ≤ a ∧ a ≤ k.max := by
  simpa [Lit.wf] using h
theorem bd_u64 {a : Int} (h : (Lit.int .u64 a).wf = true) : 0 ≤ a ∧ a ≤ 18446744073709551615 := bd_wf h
theorem bd_i64 {a : Int} (h : (Lit.int .i64 a).wf = true) : -9223372036854775808 ≤ a ∧ a ≤ 9223372036854775807 := bd_wf h
theorem bd_u32 {a : Int} (h : (Lit.int .u32 a).wf = true) : 0 ≤ a ∧ a ≤ 4294967295 := bd_wf h
theorem bd_i32 {a : Int} (h : (Lit.int .i32 a).wf = true) : -2147483648 ≤ a ∧ a ≤ 2147483647 := bd_wf h
theorem bd_u8 {a : Int} (h : (Lit.int .u8 a).wf = true) : 0 ≤ a ∧ a ≤ 255 := bd_wf h
end Go.Proofs.YtcpniokopahakaaDoor.Eng
/- Arguments that are slices, of flat elements or of slices again: opened. -/
set_option linter.unusedVariables false
namespace Go.Proofs.YtcpniokopahakaaDoor.Eng
open Go Go.RowKit
/-- The kinds of a cell. -/
inductive Lk where
  | int (k : IntKind)
  | bool
  | str
def fitL : Lk → Value → Prop
  | .int k, v => ∃ n, v = .int k n ∧ k.min ≤ n ∧ n ≤ k.max
  | .bool, v => ∃ b, v = .bool b
  | .str, v => ∃ l, v = .string (bs l) ∧ l.length ≤ 9223372036854775807
def fitsL : List Lk → List Value → Prop
  | [], cs => cs = []
  | k :: ks, cs => ∃ v r, cs = v :: r ∧ fitL k v ∧ fitsL ks r
def leafSz : Value → Nat
  | .string s => s.size
  | _ => 0
def cellsSz (cs : List Value) : Nat := (cs.map leafSz).sum
def flatFs (P : Program) (rec : TypeId → Option (List Lk)) : Nat → List Field → Option (List Lk)
  | _, [] => some []
  | off, f :: fs => match rec f.type with
    | none => none
    | some ks => if f.offset = off ∧ ks.length = P.cellsOf f.type then match flatFs P rec (off + ks.length) fs with
      | none => none
      | some r => some (ks ++ r)
      else none
def flatK (P : Program) : Nat → TypeId → Option (List Lk)
  | 0, _ => none
  | n + 1, t => match P.underlying t with
    | some (.int k) => some [.int k]
    | some .bool => some [.bool]
    | some .string => some [.str]
    | some (.struct fs) => match flatFs P (flatK P n) 0 fs.toList with
      | some ks => if ks.length = P.cellsOf t then some ks else none
      | none => none
    | some (.array m e) => match flatK P n e with
      | some ks => if ks.length = P.cellsOf e ∧ m * ks.length = P.cellsOf t then some (List.replicate m ks).flatten else none
      | none => none
    | _ => none
theorem fitsL_append {k1 k2 : List Lk} {c1 c2 : List Value} (h1 : fitsL k1 c1) (h2 : fitsL k2 c2) : fitsL (k1 ++ k2) (c1 ++ c2) := by
  induction k1 generalizing c1 with
  | nil => obtain rfl : c1 = [] := h1; exact h2
  | cons k ks ih => obtain ⟨v, r, rfl, hv, hr⟩ := h1; exact ⟨v, r ++ c2, rfl, hv, ih hr⟩
theorem fitsL_length {ks : List Lk} {cs : List Value} (h : fitsL ks cs) : cs.length = ks.length := by
  induction ks generalizing cs with
  | nil => obtain rfl : cs = [] := h; rfl
  | cons k ks ih => obtain ⟨v, r, rfl, hv, hr⟩ := h; simp [ih hr]
theorem cellsSz_append (a b : List Value) : cellsSz (a ++ b) = cellsSz a + cellsSz b := by simp [cellsSz]
section
variable {H : Type} {enc : TypeId × Value → H} {P : Program} {w : World} {base : Nat} {sp : Nat → Bool} {held : Bool}
theorem bulk_pos (d : DataW H) : 1 ≤ Rows.uptoBulk d := by
  cases d with
  | lit l => cases l <;> simp [Rows.uptoBulk]
  | _ => simp [Rows.uptoBulk]
theorem bulkAll_append (a b : List (DataW H)) : Rows.uptoBulkAll (a ++ b) = Rows.uptoBulkAll a + Rows.uptoBulkAll b := by
  induction a with
  | nil => simp [Rows.uptoBulkAll]
  | cons x r ih => simp [Rows.uptoBulkAll, ih]; omega
theorem flatK_open (n : Nat) : ∀ {fuel : Nat} {t : TypeId} {cs : List Value} {x : DataW H × List MemPlace} {ks : List Lk}, flatK P n t = some ks → DataW.trod enc P w base sp held fuel t cs = some x → fitsL ks cs ∧ cellsSz cs + 1 ≤ Rows.uptoBulk x.1 := by
  induction n with
  | zero => intro _ _ _ _ _ h; cases h
  | succ n ih =>
    intro fuel t cs x ks hf h
    unfold flatK at hf
    split at hf
    · rename_i k hu
      obtain rfl := Option.some.inj hf
      obtain ⟨m, rfl, rfl, hw⟩ := DataW.trod_int hu h
      have := bd_wf hw
      exact ⟨⟨_, _, rfl, ⟨m, rfl, this.1, this.2⟩, rfl⟩, by simp [cellsSz, leafSz, Rows.uptoBulk]⟩
    · rename_i hu
      obtain rfl := Option.some.inj hf
      obtain ⟨b, rfl, rfl⟩ := DataW.trod_bool hu h
      exact ⟨⟨_, _, rfl, ⟨b, rfl⟩, rfl⟩, by simp [cellsSz, leafSz, Rows.uptoBulk]⟩
    · rename_i hu
      obtain rfl := Option.some.inj hf
      obtain ⟨s, rfl, rfl, hs⟩ := DataW.trod_string hu h
      obtain ⟨l, rfl, hl, e⟩ := open_bs hs
      refine ⟨⟨_, _, rfl, ⟨l, rfl, hl⟩, rfl⟩, ?_⟩
      simp [cellsSz, leafSz, Rows.uptoBulk, bs_size, ← e]
    · rename_i fs hu
      split at hf
      · rename_i ks' hks
        split at hf
        · rename_i hlen
          obtain rfl := Option.some.inj hf
          obtain ⟨xs, m, rfl, rfl, hcl, hxl, hel⟩ := DataW.trod_struct hu h
          have key : ∀ (l : List Field) (i off : Nat) (ks : List Lk), (∀ j f, l[j]? = some f → DataW.trod enc P w base sp held m f.type ((cs.drop f.offset).take (P.cellsOf f.type)) = xs[i + j]?) → i + l.length = xs.length →
              flatFs P (flatK P n) off l = some ks → off + ks.length = cs.length → fitsL ks (cs.drop off) ∧ cellsSz (cs.drop off) ≤ Rows.uptoBulkAll ((xs.drop i).map (·.1)) := by
            intro l
            induction l with
            | nil =>
              intro i off ks hj hil hfs hl
              unfold flatFs at hfs
              obtain rfl := Option.some.inj hfs
              rw [List.drop_eq_nil_of_le (by simp at hl; omega)]
              exact ⟨rfl, by simp [cellsSz]⟩
            | cons f l ihl =>
              intro i off ks hj hil hfs hl
              unfold flatFs at hfs
              split at hfs
              · cases hfs
              · rename_i kf hkf
                split at hfs
                · rename_i hoff
                  split at hfs
                  · cases hfs
                  · rename_i kr hkr
                    obtain rfl := Option.some.inj hfs
                    rw [List.length_append] at hl
                    have h0 := hj 0 f rfl
                    rw [Nat.add_zero] at h0
                    have hi : i < xs.length := by simp at hil; omega
                    rw [List.getElem?_eq_getElem hi, hoff.1, ← hoff.2] at h0
                    obtain ⟨a1, a2⟩ := ih hkf h0
                    obtain ⟨b1, b2⟩ := ihl (i + 1) (off + kf.length) kr (fun j g hg => by have := hj (j + 1) g hg; rwa [show i + (j + 1) = i + 1 + j by omega] at this) (by simp at hil; omega) hkr (by omega)
                    have e : cs.drop off = (cs.drop off).take kf.length ++ cs.drop (off + kf.length) := by rw [← List.drop_drop, List.take_append_drop]
                    rw [e]
                    refine ⟨fitsL_append a1 b1, ?_⟩
                    rw [cellsSz_append, List.drop_eq_getElem_cons hi]
                    simp only [List.map_cons, Rows.uptoBulkAll]
                    omega
                · cases hfs
          have := key fs.toList 0 0 ks' (fun j f hf => by have := hel j f (by simpa using hf); rwa [Nat.zero_add]) (by simp [hxl]) hks (by omega)
          simp only [List.drop_zero] at this
          refine ⟨this.1, ?_⟩
          simp only [Rows.uptoBulk]
          omega
        · cases hf
      · cases hf
    · rename_i m e hu
      split at hf
      · rename_i ks' hks
        split at hf
        · rename_i hlen
          obtain rfl := Option.some.inj hf
          obtain ⟨xs, fm, rfl, rfl, hcl, hxl, hel⟩ := DataW.trod_array hu h
          have key : ∀ (j i : Nat), i + j = m → fitsL (List.replicate j ks').flatten (cs.drop (i * ks'.length)) ∧ cellsSz (cs.drop (i * ks'.length)) ≤ Rows.uptoBulkAll ((xs.drop i).map (·.1)) := by
            intro j
            induction j with
            | zero =>
              intro i hij
              rw [List.drop_eq_nil_of_le (by rw [hcl, ← hlen.2, show i = m by omega]; exact Nat.le_refl _)]
              exact ⟨rfl, by simp [cellsSz]⟩
            | succ j ihj =>
              intro i hij
              have hi : i < xs.length := by omega
              have h0 := hel i (by omega)
              rw [List.getElem?_eq_getElem hi, ← hlen.1] at h0
              obtain ⟨a1, a2⟩ := ih hks h0
              obtain ⟨b1, b2⟩ := ihj (i + 1) (by omega)
              have e1 : cs.drop (i * ks'.length) = (cs.drop (i * ks'.length)).take ks'.length ++ cs.drop ((i + 1) * ks'.length) := by
                rw [Nat.succ_mul, ← List.drop_drop, List.take_append_drop]
              rw [e1, List.replicate_succ, List.flatten_cons]
              refine ⟨fitsL_append a1 b1, ?_⟩
              rw [cellsSz_append, List.drop_eq_getElem_cons hi]
              simp only [List.map_cons, Rows.uptoBulkAll]
              omega
          have := key m 0 (by omega)
          simp only [Nat.zero_mul, List.drop_zero] at this
          refine ⟨this.1, ?_⟩
          simp only [Rows.uptoBulk]
          omega
        · cases hf
      · cases hf
    · cases hf
/-! ## Slices -/
/-- What a type's readings give: a reading of the cells as a thing, of no more than so much. -/
def OpensT (enc : TypeId × Value → H) (P : Program) (w : World) (sp : Nat → Bool) (held : Bool) {α : Type} (t : TypeId) (R : Hv → List Value → α → Prop) (sz : α → Nat) : Prop :=
  ∀ {fuel : Nat} {cs : List Value} {x : DataW H × List MemPlace}, DataW.trod enc P w 0 sp held fuel t cs = some x → ∃ a, R (Rg w 0 w.heap.size) cs a ∧ sz a ≤ Rows.uptoBulk x.1
theorem choose_list {α : Type} {n : Nat} {p : Nat → α → Prop} (h : ∀ i, i < n → ∃ x, p i x) : ∃ l : List α, l.length = n ∧ ∀ i x, l[i]? = some x → p i x := by
  induction n with
  | zero => exact ⟨[], rfl, fun i x hx => by simp at hx⟩
  | succ n ih =>
    obtain ⟨l, hl, hp⟩ := ih (fun i hi => h i (by omega))
    obtain ⟨x, hx⟩ := h n (by omega)
    refine ⟨l ++ [x], by simp [hl], fun i y hy => ?_⟩
    by_cases hi : i < n
    · rw [List.getElem?_append_left (by omega)] at hy; exact hp i y hy
    · rw [List.getElem?_append_right (by omega)] at hy
      have : i = n := by
        have := (List.getElem?_eq_some_iff.1 hy).1
        simp at this; omega
      subst this
      rw [hl, Nat.sub_self] at hy
      obtain rfl := Option.some.inj hy
      exact hx
theorem sum_le {α : Type} (sz : α → Nat) : ∀ (xs : List α) (ds : List (DataW H)), xs.length = ds.length → (∀ (i : Nat) (x : α) (d : DataW H), xs[i]? = some x → ds[i]? = some d → sz x ≤ Rows.uptoBulk d) → (xs.map sz).sum ≤ Rows.uptoBulkAll ds := by
  intro xs
  induction xs with
  | nil => intro ds _ _; simp
  | cons x xs ih =>
    intro ds hl h
    cases ds with
    | nil => simp at hl
    | cons d ds =>
      have h0 := h 0 x d rfl rfl
      have := ih ds (by simpa using hl) (fun i y e hy he => h (i + 1) y e hy he)
      simp only [List.map_cons, List.sum_cons, Rows.uptoBulkAll]
      omega
theorem len_le_bulk (ds : List (DataW H)) : ds.length ≤ Rows.uptoBulkAll ds := by
  induction ds with
  | nil => simp
  | cons d ds ih => have := bulk_pos d; simp only [List.length_cons, Rows.uptoBulkAll]; omega
/-- A slice of things that are read, read. -/
theorem open_sl {α : Type} {t e : TypeId} {R : Hv → List Value → α → Prop} {sz : α → Nat} (s : Nat) (hs : P.cellsOf e = s) (hs0 : 0 < s) (ht : P.underlying t = some (.slice e)) (he : OpensT enc P w sp held e R sz) :
    OpensT enc P w sp held t (fun H cs xs => ∃ v, cs = [v] ∧ SlR R s H v xs) (fun xs => (xs.map sz).sum + 1 + 0 * xs.length) ∧
    (∀ {fuel : Nat} {v : Value} {x : DataW H × List MemPlace}, DataW.trod enc P w 0 sp held fuel t [v] = some x → ∃ xs : List α, SlR R s (Rg w 0 w.heap.size) v xs ∧ (xs.map sz).sum + 1 ≤ Rows.uptoBulk x.1 ∧ xs.length + 1 ≤ Rows.uptoBulk x.1 ∧ (∀ r : Nat, ((DataW.weights P t x.1).all (· ≤ r)) = true → xs.length * P.bytesOf e ≤ r)) := by
  have main : ∀ {fuel : Nat} {cs : List Value} {x : DataW H × List MemPlace}, DataW.trod enc P w 0 sp held fuel t cs = some x → ∃ (v : Value) (xs : List α), cs = [v] ∧ SlR R s (Rg w 0 w.heap.size) v xs ∧ (xs.map sz).sum + 1 ≤ Rows.uptoBulk x.1 ∧ xs.length + 1 ≤ Rows.uptoBulk x.1 ∧ (∀ r : Nat, ((DataW.weights P t x.1).all (· ≤ r)) = true → xs.length * P.bytesOf e ≤ r) := by
    intro fuel cs x h
    rcases DataW.trod_slice ht h with ⟨rfl, rfl⟩ | ⟨a, len, cap, elems, rest, n, rfl, rfl, rfl, hb, hlc, hcm, hel, hat, _, _⟩
    · exact ⟨_, [], rfl, SlR.nil _ _ _, by simp [Rows.uptoBulk], by simp [Rows.uptoBulk], fun r _ => by simp⟩
    · have hx : ∀ i, i < len → ∃ y : α, ∃ ci, w.cells? 0 (a.add (i * s)) s = some ci ∧ R (Rg w 0 w.heap.size) ci y ∧ ∀ d, (elems.map (·.1))[i]? = some d → sz y ≤ Rows.uptoBulk d := by
        intro i hi
        have h0 := hat i hi
        rw [hs, List.getElem?_eq_getElem (by omega), Option.bind_eq_some_iff] at h0
        obtain ⟨ci, h1, h2⟩ := h0
        obtain ⟨y, h3, h4⟩ := he h2
        refine ⟨y, ci, h1, h3, fun d hd => ?_⟩
        rw [List.getElem?_map, List.getElem?_eq_getElem (by omega)] at hd
        obtain rfl := Option.some.inj hd
        exact h4
      obtain ⟨xs, hxl, hxs⟩ := choose_list hx
      have hml : xs.length = (elems.map (·.1)).length := by simp; omega
      have hsum := sum_le sz xs (elems.map (·.1)) hml (fun i y d hy hd => by obtain ⟨ci, _, _, h⟩ := hxs i y hy; exact h d hd)
      have hlb := len_le_bulk (elems.map (·.1))
      refine ⟨_, xs, rfl, ?_, by simp only [Rows.uptoBulk]; omega, by simp only [Rows.uptoBulk]; rw [hml]; omega, fun r hr => ?_⟩
      rotate_left
      · simp only [DataW.weights, ht, List.all_cons, Bool.and_eq_true, decide_eq_true_eq, List.length_map] at hr
        refine Nat.le_trans (Nat.mul_le_mul_right _ ?_) hr.1
        omega
      refine ⟨some a, cap, by rw [hxl], by unfold maxLen at hcm; omega, (fun h => by cases h), fun hne => ?_⟩
      have hlen : 0 < len := by
        rw [← hxl]; exact List.length_pos_iff.2 hne
      obtain ⟨y0, hy0⟩ : ∃ y, xs[0]? = some y := ⟨xs[0], List.getElem?_eq_getElem (by omega)⟩
      obtain ⟨c0, hc0, _, _⟩ := hxs 0 y0 hy0
      obtain ⟨b, o, spot⟩ := a
      have hcells : ∀ i ci, w.cells? 0 ((⟨b, o, spot⟩ : Addr).add (i * s)) s = some ci → ci.length = s ∧ ∀ j, j < s → w.cell? (((⟨b, o, spot⟩ : Addr).add (i * s)).add j) = ci[j]? := fun i ci h => by
        have := World.cells?_some h
        exact ⟨this.2.1, this.2.2⟩
      have hspot : spot = none := by
        have h1 := (hcells 0 c0 hc0).2 0 hs0
        have hc0l := (hcells 0 c0 hc0).1
        rw [List.getElem?_eq_getElem (by omega)] at h1
        simp only [Nat.zero_mul] at h1
        cases spot with
        | none => rfl
        | some q =>
          exfalso
          simp only [Addr.add, if_true, World.cell?] at h1
          split at h1 <;> simp at h1
      subst hspot
      have hblk : ∃ C ty fz, w.heap[b]? = some (.cells C ty fz) := by
        have h1 := (hcells 0 c0 hc0).2 0 hs0
        have hc0l := (hcells 0 c0 hc0).1
        rw [List.getElem?_eq_getElem (by omega)] at h1
        simp only [Nat.zero_mul, Addr.add, if_true, World.cell?] at h1
        split at h1
        · rename_i C ty fz hh; exact ⟨C, ty, fz, hh⟩
        · cases h1
      obtain ⟨C, ty, fz, hC⟩ := hblk
      have hcell : ∀ k, w.cell? ⟨b, k, none⟩ = C[k]? := fun k => by simp [World.cell?, hC]
      have hin : ∀ i, i < len → ∀ j, j < s → ∀ y ci, xs[i]? = some y → w.cells? 0 ((⟨b, o, none⟩ : Addr).add (i * s)) s = some ci → C[o + i * s + j]? = ci[j]? := fun i hi j hj y ci hy hci => by
        have := (hcells i ci hci).2 j hj
        rw [Addr.add_lit, Addr.add_lit, hcell] at this
        exact this
      have hCl : o + len * s ≤ C.size := by
        obtain ⟨y, hy⟩ : ∃ y, xs[len - 1]? = some y := ⟨xs[len - 1], List.getElem?_eq_getElem (by omega)⟩
        obtain ⟨ci, hci, _, _⟩ := hxs (len - 1) y hy
        have h1 := hin (len - 1) (by omega) (s - 1) (by omega) y ci hy hci
        have hl := (hcells (len - 1) ci hci).1
        rw [List.getElem?_eq_getElem (by omega)] at h1
        have h2 := (Array.getElem?_eq_some_iff.1 h1).1
        have e : len * s = (len - 1) * s + s := by rw [← Nat.succ_mul]; congr 1; omega
        omega
      refine ⟨b, o, (C.toList.drop o).take (len * s), rfl, ⟨C, ty, fz, ⟨Nat.zero_le _, (Array.getElem?_eq_some_iff.1 hC).1, hC⟩, fun i v hv => ?_⟩, ?_, fun i y hy => ?_⟩
      · rw [List.getElem?_take] at hv
        split at hv
        · rw [List.getElem?_drop] at hv; simpa using hv
        · cases hv
      · simp [hxl]; omega
      · obtain ⟨ci, hci, hR, _⟩ := hxs i y hy
        have hi : i < len := by rw [← hxl]; exact (List.getElem?_eq_some_iff.1 hy).1
        have hl := (hcells i ci hci).1
        have e : (((C.toList.drop o).take (len * s)).drop (i * s)).take s = ci := by
          apply List.ext_getElem?
          intro j
          rw [List.getElem?_take]
          split
          · rename_i hj
            have hle : i * s + s ≤ len * s := by rw [← Nat.succ_mul]; exact Nat.mul_le_mul_right _ hi
            rw [List.getElem?_drop, List.getElem?_take, if_pos (by omega), List.getElem?_drop, ← hin i hi j hj y ci hy hci, Nat.add_assoc]
            simp
          · rw [List.getElem?_eq_none (by omega)]
        rw [e]; exact hR
  refine ⟨fun {fuel cs x} h => ?_, fun {fuel v x} h => ?_⟩
  · obtain ⟨v, xs, h1, h2, h3, _⟩ := main h
    exact ⟨xs, ⟨v, h1, h2⟩, by simp only [Nat.zero_mul, Nat.add_zero]; exact h3⟩
  · obtain ⟨v', xs, h1, h2, h3, h4, h5⟩ := main h
    obtain rfl : v = v' := by simpa using h1
    exact ⟨xs, h2, h3, h4, h5⟩
theorem open_flat {α : Type} {t : TypeId} {ks : List Lk} (n : Nat) (hf : flatK P n t = some ks) {en : α → List Value} {ok : α → Prop} (h : ∀ cs, fitsL ks cs → ∃ x, cs = en x ∧ ok x) : OpensT enc P w sp held t (RE en ok) (fun x => cellsSz (en x) + 1) := by
  intro fuel cs x hx
  obtain ⟨h1, h2⟩ := flatK_open n hf hx
  obtain ⟨a, rfl, ha⟩ := h cs h1
  exact ⟨a, ⟨rfl, ha⟩, h2⟩
/-! ## A law's arguments -/
theorem arg_struct {r : Reach} {b0 : Nat} {t : TypeId} {fs : Array Field} {ks : List Lk} {v : Value} {d : DataW H} {ps : List MemPlace} (ht : P.underlying t = some (.struct fs)) (n : Nat) (hf : flatK P n t = some ks) (hval : Value.okWide P w r b0 t v) (h : DataW.Trod enc P w base sp held t v d ps) :
    ∃ cs : List Value, v = .agg cs.toArray ∧ fitsL ks cs ∧ cellsSz cs + 1 ≤ Rows.uptoBulk d := by
  unfold Value.okWide at hval
  rw [ht] at hval
  obtain ⟨cs, rfl, _⟩ := hval
  obtain ⟨fuel, hh⟩ := h
  obtain ⟨h1, h2⟩ := flatK_open n hf hh
  exact ⟨cs.toList, by simp, h1, h2⟩
theorem arg_sl {α : Type} {r : Reach} {b0 : Nat} {t e : TypeId} {R : Hv → List Value → α → Prop} {sz : α → Nat} {v : Value} {d : DataW H} {ps : List MemPlace} (s : Nat) (hs : P.cellsOf e = s) (hs0 : 0 < s) (ht : P.underlying t = some (.slice e)) (he : OpensT enc P w sp held e R sz)
    (hval : Value.okWide P w r b0 t v) (h : DataW.Trod enc P w 0 sp held t v d ps) : ∃ xs : List α, SlR R s (Rg w 0 w.heap.size) v xs ∧ (xs.map sz).sum + 1 ≤ Rows.uptoBulk d ∧ xs.length + 1 ≤ Rows.uptoBulk d ∧ (∀ r : Nat, ((DataW.weights P t d).all (· ≤ r)) = true → xs.length * P.bytesOf e ≤ r) := by
  have hc : v.cells = #[v] := by
    unfold Value.okWide at hval
    rw [ht] at hval
    dsimp only at hval
    unfold Cell.okWide at hval
    rw [ht] at hval
    cases v <;> first | rfl | (exfalso; simp [Cell.ok, ht] at hval)
  obtain ⟨fuel, hh⟩ := h
  rw [hc] at hh
  exact (open_sl s hs hs0 ht he).2 hh
end
end Go.Proofs.YtcpniokopahakaaDoor.Eng
/- Arguments that are structures of flat parts and of slices: opened. -/
set_option linter.unusedVariables false
namespace Go.Proofs.YtcpniokopahakaaDoor.Eng
open Go Go.RowKit
section
variable {H : Type} {enc : TypeId × Value → H} {P : Program} {w : World} {base : Nat} {sp : Nat → Bool} {held : Bool}
/-- What the fields l of a structure give, from cell off on. -/
structure OpT (enc : TypeId × Value → H) (P : Program) (w : World) (sp : Nat → Bool) (held : Bool) {α : Type} (t : TypeId) (R : Hv → List Value → α → Prop) (sz : α → Nat) : Prop where
  o : OpensT enc P w sp held t R sz
structure OpensFs (enc : TypeId × Value → H) (P : Program) (w : World) (sp : Nat → Bool) (held : Bool) {α : Type} (l : List Field) (off : Nat) (R : Hv → List Value → α → Prop) (sz : α → Nat) : Prop where
  o : ∀ {n : Nat} {cs : List Value} {xs : List (DataW H × List MemPlace)}, (∀ (i : Nat) (f : Field), l[i]? = some f → DataW.trod enc P w 0 sp held n f.type ((cs.drop f.offset).take (P.cellsOf f.type)) = xs[i]?) → l.length = xs.length →
    ∃ a, R (Rg w 0 w.heap.size) (cs.drop off) a ∧ sz a ≤ Rows.uptoBulkAll (xs.map (·.1))
theorem openFs_nil {off : Nat} : OpensFs enc P w sp held [] off (fun _ _ (_ : Unit) => True) (fun _ => 0) := by
  refine ⟨?_⟩
  intro n cs xs _ hl
  exact ⟨(), trivial, Nat.zero_le _⟩
theorem openFs_cons {α β : Type} {f : Field} {l : List Field} {off : Nat} {R : Hv → List Value → α → Prop} {sz : α → Nat} {R' : Hv → List Value → β → Prop} {sz' : β → Nat} (ho : f.offset = off) (h : OpT enc P w sp held f.type R sz)
    (h' : OpensFs enc P w sp held l (off + P.cellsOf f.type) R' sz') :
    OpensFs enc P w sp held (f :: l) off (fun H cs (x : α × β) => R H (cs.take (P.cellsOf f.type)) x.1 ∧ R' H (cs.drop (P.cellsOf f.type)) x.2) (fun x => sz x.1 + sz' x.2) := by
  refine ⟨?_⟩
  intro n cs xs hj hl
  cases xs with
  | nil => simp at hl
  | cons x xs =>
    have h0 := hj 0 f rfl
    subst ho
    obtain ⟨a, a1, a2⟩ := h.o h0
    obtain ⟨b, b1, b2⟩ := h'.o (cs := cs) (xs := xs) (fun i g hg => by have := hj (i + 1) g hg; simpa using this) (by simpa using hl)
    refine ⟨(a, b), ⟨a1, ?_⟩, ?_⟩
    · rw [List.drop_drop]; exact b1
    · simp only [List.map_cons, Rows.uptoBulkAll]; omega
theorem open_structN {α : Type} {t : TypeId} {fs : Array Field} {R : Hv → List Value → α → Prop} {sz : α → Nat} (n0 : Nat) (ht : P.underlying t = some (.struct fs)) (hc : P.cellsOf t = n0) (h : OpensFs enc P w sp held fs.toList 0 R sz) :
    OpT enc P w sp held t (fun H cs a => cs.length = n0 ∧ R H cs a) (fun a => sz a) := by
  refine ⟨?_⟩
  intro fuel cs x hx
  obtain ⟨xs, n, rfl, rfl, hl, hxl, hj⟩ := DataW.trod_struct ht hx
  obtain ⟨a, h1, h2⟩ := h.o (n := n) (cs := cs) (xs := xs) (fun i f hf => hj i f (by simpa using hf)) (by simp [hxl])
  refine ⟨a, ⟨hl.trans hc, by simpa using h1⟩, ?_⟩
  show sz a ≤ Rows.uptoBulk (.agg (xs.map (·.1)))
  rw [Rows.uptoBulk]; omega
theorem OpT.map {α β : Type} {t : TypeId} {R : Hv → List Value → α → Prop} {sz : α → Nat} {R' : Hv → List Value → β → Prop} {sz' : β → Nat} (h : OpT enc P w sp held t R sz) (hm : ∀ H cs a, R H cs a → ∃ b, R' H cs b ∧ sz' b ≤ sz a) : OpT enc P w sp held t R' sz' := by
  refine ⟨?_⟩
  intro fuel cs x hx
  obtain ⟨a, h1, h2⟩ := h.o hx
  obtain ⟨b, h3, h4⟩ := hm _ _ _ h1
  exact ⟨b, h3, Nat.le_trans h4 h2⟩
theorem SlR.conv {α : Type} {R R' : Hv → List Value → α → Prop} {s : Nat} {H H' : Hv} {v : Value} {xs : List α} (h : SlR R s H v xs) (hh : Hle H H') (hR : ∀ cs x, R H cs x → R' H' cs x) : SlR R' s H' v xs := by
  obtain ⟨a, cap, h1, h2, h3, h4⟩ := h
  exact ⟨a, cap, h1, h2, h3, fun hx => let ⟨b, o, news, e, k1, k2⟩ := h4 hx; ⟨b, o, news, e, k1.mono hh, k2.1, fun i x hx => hR _ _ (k2.2 i x hx)⟩⟩
theorem rg_froz (w : World) : Hle (Rg w 0 w.heap.size) (Gh (froz w)) := fun b o ⟨_, _, h⟩ => h
theorem opFlat {α : Type} {t : TypeId} {ks : List Lk} (n : Nat) (hf : flatK P n t = some ks) {en : α → List Value} {ok : α → Prop} (h : ∀ cs, fitsL ks cs → ∃ x, cs = en x ∧ ok x) : OpT enc P w sp held t (RE en ok) (fun x => cellsSz (en x) + 1) := ⟨open_flat n hf h⟩
theorem opSl {α : Type} {t e : TypeId} {R : Hv → List Value → α → Prop} {sz : α → Nat} (s : Nat) (hs : P.cellsOf e = s) (hs0 : 0 < s) (ht : P.underlying t = some (.slice e)) (he : OpT enc P w sp held e R sz) :
    OpT enc P w sp held t (fun H cs xs => ∃ v, cs = [v] ∧ SlR R s H v xs) (fun xs => (xs.map sz).sum + 1 + 0 * xs.length) := ⟨(open_sl s hs hs0 ht he.o).1⟩
theorem arg_slN {α : Type} {r : Reach} {b0 : Nat} {t e : TypeId} {R : Hv → List Value → α → Prop} {sz : α → Nat} {v : Value} {d : DataW H} {ps : List MemPlace} (s : Nat) (hs : P.cellsOf e = s) (hs0 : 0 < s) (ht : P.underlying t = some (.slice e)) (he : OpT enc P w sp held e R sz)
    (hval : Value.okWide P w r b0 t v) (h : DataW.Trod enc P w 0 sp held t v d ps) : ∃ xs : List α, SlR R s (Rg w 0 w.heap.size) v xs ∧ (xs.map sz).sum + 1 ≤ Rows.uptoBulk d ∧ xs.length + 1 ≤ Rows.uptoBulk d ∧ (∀ r : Nat, ((DataW.weights P t d).all (· ≤ r)) = true → xs.length * P.bytesOf e ≤ r) :=
  arg_sl s hs hs0 ht he.o hval h
/-- An argument that is a structure. -/
theorem arg_st {α : Type} {r : Reach} {b0 : Nat} {t : TypeId} {fs : Array Field} {R : Hv → List Value → α → Prop} {sz : α → Nat} {v : Value} {d : DataW H} {ps : List MemPlace} (ht : P.underlying t = some (.struct fs)) (he : OpT enc P w sp held t R sz)
    (hval : Value.okWide P w r b0 t v) (h : DataW.Trod enc P w 0 sp held t v d ps) : ∃ (cs : List Value) (a : α), v = .agg cs.toArray ∧ R (Rg w 0 w.heap.size) cs a ∧ sz a ≤ Rows.uptoBulk d := by
  unfold Value.okWide at hval
  rw [ht] at hval
  obtain ⟨cs, rfl, _⟩ := hval
  obtain ⟨fuel, hh⟩ := h
  obtain ⟨a, h1, h2⟩ := he.o hh
  exact ⟨cs.toList, a, by simp, h1, h2⟩
end
end Go.Proofs.YtcpniokopahakaaDoor.Eng
/- Package ins: Width, kindAt, numeric, besides. -/
set_option maxRecDepth 100000
set_option maxHeartbeats 4000000
set_option linter.unusedVariables false
set_option linter.unusedSimpArgs false
namespace Go.Proofs.YtcpniokopahakaaDoor.Ins
open Go Go.Proofs.YtcpniokopahakaaDoor.Eng Go.RowKit
def enK (n : Int) : List Value := [.int .u8 n]
theorem width (o : Int) (w : World) : Fc Tryd.prog 187 #[.int .u8 o] w (fun v w' => (∃ r, v = .int .i64 r ∧ r = wid o) ∧ w = w') := by
  refine Fc.of Tryd.func187 rfl (by kernel_rfl) ?_
  have H := Sat.start w
  refine bk ?_
  refine cI (fun c1 => ?_) (fun c1 => ?_)
  · replace c1 := vEq_t (c1)
    refine cT (vEq_T (by assumption)) ?_
    refine Done.mk ?_
    (unfold wid; simp only [*]; simp; done)
  replace c1 := vEq_f (c1)
  refine cI (fun c2 => ?_) (fun c2 => ?_)
  · replace c2 := vEq_t (c2)
    refine cT (vEq_T (by assumption)) ?_
    refine Done.mk ?_
    (unfold wid; simp only [*]; simp; done)
  replace c2 := vEq_f (c2)
  refine cI (fun c3 => ?_) (fun c3 => ?_)
  · replace c3 := vEq_t (c3)
    refine cT (vEq_T (by assumption)) ?_
    refine Done.mk ?_
    (unfold wid; simp only [*]; simp; done)
  replace c3 := vEq_f (c3)
  refine cI (fun c4 => ?_) (fun c4 => ?_)
  · replace c4 := vEq_t (c4)
    refine cT (vEq_T (by assumption)) ?_
    refine Done.mk ?_
    (unfold wid; simp only [*]; simp; done)
  replace c4 := vEq_f (c4)
  refine cI (fun c5 => ?_) (fun c5 => ?_)
  · replace c5 := vEq_t (c5)
    refine cT (vEq_T (by assumption)) ?_
    refine Done.mk ?_
    (unfold wid; simp only [*]; simp; done)
  replace c5 := vEq_f (c5)
  refine cI (fun c6 => ?_) (fun c6 => ?_)
  · replace c6 := vEq_t (c6)
    refine Done.mk ?_
    (unfold wid; simp only [*]; simp; done)
  replace c6 := vEq_f (c6)
  refine cI (fun c7 => ?_) (fun c7 => ?_)
  · replace c7 := vEq_t (c7)
    refine cT (vEq_T (by assumption)) ?_
    refine Done.mk ?_
    (unfold wid; simp only [*]; simp; done)
  replace c7 := vEq_f (c7)
  refine cI (fun c8 => ?_) (fun c8 => ?_)
  · replace c8 := vEq_t (c8)
    refine cT (vEq_T (by assumption)) ?_
    refine Done.mk ?_
    (unfold wid; simp only [*]; simp; done)
  replace c8 := vEq_f (c8)
  refine cI (fun c9 => ?_) (fun c9 => ?_)
  · replace c9 := vEq_t (c9)
    refine cT (vEq_T (by assumption)) ?_
    refine Done.mk ?_
    (unfold wid; simp only [*]; simp; done)
  replace c9 := vEq_f (c9)
  refine cI (fun c10 => ?_) (fun c10 => ?_)
  · replace c10 := vEq_t (c10)
    refine cT (vEq_T (by assumption)) ?_
    refine Done.mk ?_
    (unfold wid; simp only [*]; simp; done)
  replace c10 := vEq_f (c10)
  refine cI (fun c11 => ?_) (fun c11 => ?_)
  · replace c11 := vEq_t (c11)
    refine cT (vEq_T (by assumption)) ?_
    refine Done.mk ?_
    (unfold wid; simp only [*]; simp; done)
  replace c11 := vEq_f (c11)
  refine cI (fun c12 => ?_) (fun c12 => ?_)
  · replace c12 := vEq_t (c12)
    refine Done.mk ?_
    (unfold wid; simp only [*]; simp; done)
  replace c12 := vEq_f (c12)
  refine cI (fun c13 => ?_) (fun c13 => ?_)
  · replace c13 := vEq_t (c13)
    refine cT (vEq_T (by assumption)) ?_
    refine Done.mk ?_
    (unfold wid; simp only [*]; simp; done)
  replace c13 := vEq_f (c13)
  refine cI (fun c14 => ?_) (fun c14 => ?_)
  · replace c14 := vEq_t (c14)
    refine cT (vEq_T (by assumption)) ?_
    refine Done.mk ?_
    (unfold wid; simp only [*]; simp; done)
  replace c14 := vEq_f (c14)
  refine cI (fun c15 => ?_) (fun c15 => ?_)
  · replace c15 := vEq_t (c15)
    refine cT (vEq_T (by assumption)) ?_
    refine Done.mk ?_
    (unfold wid; simp only [*]; simp; done)
  replace c15 := vEq_f (c15)
  refine cI (fun c16 => ?_) (fun c16 => ?_)
  · replace c16 := vEq_t (c16)
    refine cT (vEq_T (by assumption)) ?_
    refine Done.mk ?_
    (unfold wid; simp only [*]; simp; done)
  replace c16 := vEq_f (c16)
  refine cI (fun c17 => ?_) (fun c17 => ?_)
  · replace c17 := vEq_t (c17)
    refine Done.mk ?_
    (unfold wid; simp only [*]; simp; done)
  replace c17 := vEq_f (c17)
  refine cI (fun c18 => ?_) (fun c18 => ?_)
  · replace c18 := vEq_t (c18)
    refine cT (vEq_T (by assumption)) ?_
    refine Done.mk ?_
    (unfold wid; simp only [*]; simp; done)
  replace c18 := vEq_f (c18)
  refine cI (fun c19 => ?_) (fun c19 => ?_)
  · replace c19 := vEq_t (c19)
    refine Done.mk ?_
    (unfold wid; simp only [*]; simp; done)
  replace c19 := vEq_f (c19)
  refine Done.mk ?_
  (unfold wid; simp only [*]; simp; done)
theorem num1 {g : Glob} {w : World} {l : List As} {p : Nat} {o : Int} (H : Sat g w (Pt p [.int .u8 o] 5 :: l)) (b : Int) :
    Fc Tryd.prog 216 #[.int .u8 b, .pointer (some ⟨p, 0, none⟩)] w (fun v w' => (∃ r, v = .int .u8 r ∧ r = kd o b) ∧ w = w') := by
  refine Fc.of Tryd.func216 rfl (by kernel_rfl) ?_
  refine rLd (H.at 0 rfl) 0 rfl rfl rfl ?_
  refine cI (fun c1 => ?_) (fun c1 => ?_)
  · replace c1 := vLt_t (c1)
    refine Done.mk ?_
    refine ⟨?_, ?_⟩
    · refine ⟨127, ?_⟩
      refine ⟨?_, ?_⟩
      · refine int_eq ?_
        omega
      (unfold kd; rw [if_pos (by assumption)])
    rfl
  replace c1 := vLt_f (c1)
  refine Done.mk ?_
  refine ⟨?_, ?_⟩
  · refine ⟨126, ?_⟩
    refine ⟨?_, ?_⟩
    · refine int_eq ?_
      omega
    (unfold kd; rw [if_neg (by omega)])
  rfl
theorem numeric (o : Int) (w : World) : Fc Tryd.prog 188 #[.int .u8 o] w (fun v w' => ∃ u k b xs, v = .tuple #[u, .int .u8 k, .bool b] ∧ numS o = (xs, k, b) ∧ Sat (froz w) w' [Sl 60 1 enK u xs]) := by
  refine Fc.of Tryd.func188 rfl (by kernel_rfl) ?_
  have H := Sat.start w
  refine rBoxS H ?_
  clear H
  intro p1 w1 H
  refine bk ?_
  refine rLd (H.at 0 rfl) 0 rfl rfl rfl ?_
  refine cI (fun c1 => ?_) (fun c1 => ?_)
  · replace c1 := vEq_t (c1)
    refine cT (vEq_T (by assumption)) ?_
    refine CallP.mk (Fc.imp (Go.Proofs.YtcpniokopahakaaDoor.Ins.num1 H _) ?_)
    rintro _ _ ⟨⟨r1, ⟨rfl, h1⟩⟩, rfl⟩
    refine rBuildSliceS H rfl rfl rfl rfl ?_
    clear H
    intro p2 w2 H
    clear w1
    refine Done.mk ?_
    (refine H.ptSl (n := 1) (en := enK) (s := 1) 0 rfl [_] rfl rfl (fun _ => rfl) rfl ?_; intro H; exact ⟨_, _, _, _, rfl, by unfold numS; repeat first | rw [if_pos (by omega)] | rw [if_neg (by omega)] | (subst_vars; rfl), H.del 1⟩)
  replace c1 := vEq_f (c1)
  refine rLd (H.at 0 rfl) 0 rfl rfl rfl ?_
  refine cI (fun c2 => ?_) (fun c2 => ?_)
  · replace c2 := vEq_t (c2)
    refine CallP.mk (Fc.imp (Go.Proofs.YtcpniokopahakaaDoor.Ins.num1 H _) ?_)
    rintro _ _ ⟨⟨r1, ⟨rfl, h1⟩⟩, rfl⟩
    refine rBuildSliceS H rfl rfl rfl rfl ?_
    clear H
    intro p2 w2 H
    clear w1
    refine Done.mk ?_
    (refine H.ptSl (n := 1) (en := enK) (s := 1) 0 rfl [_] rfl rfl (fun _ => rfl) rfl ?_; intro H; exact ⟨_, _, _, _, rfl, by unfold numS; repeat first | rw [if_pos (by omega)] | rw [if_neg (by omega)] | (subst_vars; rfl), H.del 1⟩)
  replace c2 := vEq_f (c2)
  refine rLd (H.at 0 rfl) 0 rfl rfl rfl ?_
  refine br (fun c3 => ?_) (fun c3 => ?_)
  · replace c3 := vLt_t (c3)
    refine rLd (H.at 0 rfl) 0 rfl rfl rfl ?_
    refine cI (fun c4 => ?_) (fun c4 => ?_)
    · replace c4 := vLe_t (c4)
      refine CallP.mk (Fc.imp (Go.Proofs.YtcpniokopahakaaDoor.Ins.num1 H _) ?_)
      rintro _ _ ⟨⟨r1, ⟨rfl, h1⟩⟩, rfl⟩
      refine rBuildSliceS H rfl rfl rfl rfl ?_
      clear H
      intro p2 w2 H
      clear w1
      refine Done.mk ?_
      (refine H.ptSl (n := 2) (en := enK) (s := 1) 0 rfl [_, _] rfl rfl (fun _ => rfl) rfl ?_; intro H; exact ⟨_, _, _, _, rfl, by unfold numS; repeat first | rw [if_pos (by omega)] | rw [if_neg (by omega)] | (subst_vars; rfl), H.del 1⟩)
    replace c4 := vLe_f (c4)
    refine rLd (H.at 0 rfl) 0 rfl rfl rfl ?_
    refine br (fun c5 => ?_) (fun c5 => ?_)
    · replace c5 := vLe_t (c5)
      refine rLd (H.at 0 rfl) 0 rfl rfl rfl ?_
      refine cI (fun c6 => ?_) (fun c6 => ?_)
      · replace c6 := vLe_t (c6)
        refine cT (vLe_T (by assumption)) ?_
        refine CallP.mk (Fc.imp (Go.Proofs.YtcpniokopahakaaDoor.Ins.num1 H _) ?_)
        rintro _ _ ⟨⟨r1, ⟨rfl, h1⟩⟩, rfl⟩
        refine rBuildSliceS H rfl rfl rfl rfl ?_
        clear H
        intro p2 w2 H
        clear w1
        refine Done.mk ?_
        (refine H.ptSl (n := 1) (en := enK) (s := 1) 0 rfl [_] rfl rfl (fun _ => rfl) rfl ?_; intro H; exact ⟨_, _, _, _, rfl, by unfold numS; repeat first | rw [if_pos (by omega)] | rw [if_neg (by omega)] | (subst_vars; rfl), H.del 1⟩)
      replace c6 := vLe_f (c6)
      refine rLd (H.at 0 rfl) 0 rfl rfl rfl ?_
      refine br (fun c7 => ?_) (fun c7 => ?_)
      · replace c7 := vLe_t (c7)
        refine rLd (H.at 0 rfl) 0 rfl rfl rfl ?_
        refine cI (fun c8 => ?_) (fun c8 => ?_)
        · replace c8 := vLe_t (c8)
          refine CallP.mk (Fc.imp (Go.Proofs.YtcpniokopahakaaDoor.Ins.num1 H _) ?_)
          rintro _ _ ⟨⟨r1, ⟨rfl, h1⟩⟩, rfl⟩
          refine rBuildSliceS H rfl rfl rfl rfl ?_
          clear H
          intro p2 w2 H
          clear w1
          refine Done.mk ?_
          (refine H.ptSl (n := 1) (en := enK) (s := 1) 0 rfl [_] rfl rfl (fun _ => rfl) rfl ?_; intro H; exact ⟨_, _, _, _, rfl, by unfold numS; repeat first | rw [if_pos (by omega)] | rw [if_neg (by omega)] | (subst_vars; rfl), H.del 1⟩)
        replace c8 := vLe_f (c8)
        refine rLd (H.at 0 rfl) 0 rfl rfl rfl ?_
        refine br_t (vLe_T (by assumption)) ?_
        refine rLd (H.at 0 rfl) 0 rfl rfl rfl ?_
        refine cI (fun c9 => ?_) (fun c9 => ?_)
        · replace c9 := vLe_t (c9)
          refine CallP.mk (Fc.imp (Go.Proofs.YtcpniokopahakaaDoor.Ins.num1 H _) ?_)
          rintro _ _ ⟨⟨r1, ⟨rfl, h1⟩⟩, rfl⟩
          refine rBuildSliceS H rfl rfl rfl rfl ?_
          clear H
          intro p2 w2 H
          clear w1
          refine Done.mk ?_
          (refine H.ptSl (n := 2) (en := enK) (s := 1) 0 rfl [_, _] rfl rfl (fun _ => rfl) rfl ?_; intro H; exact ⟨_, _, _, _, rfl, by unfold numS; repeat first | rw [if_pos (by omega)] | rw [if_neg (by omega)] | (subst_vars; rfl), H.del 1⟩)
        replace c9 := vLe_f (c9)
        refine rLd (H.at 0 rfl) 0 rfl rfl rfl ?_
        refine cI (fun c10 => ?_) (fun c10 => ?_)
        · replace c10 := vEq_t (c10)
          refine rBuildSliceS H rfl rfl rfl rfl ?_
          clear H
          intro p2 w2 H
          clear w1
          refine Done.mk ?_
          (refine H.ptSl (n := 1) (en := enK) (s := 1) 0 rfl [_] rfl rfl (fun _ => rfl) rfl ?_; intro H; exact ⟨_, _, _, _, rfl, by unfold numS; repeat first | rw [if_pos (by omega)] | rw [if_neg (by omega)] | (subst_vars; rfl), H.del 1⟩)
        replace c10 := vEq_f (c10)
        refine rLd (H.at 0 rfl) 0 rfl rfl rfl ?_
        refine cI (fun c11 => ?_) (fun c11 => ?_)
        · replace c11 := vEq_t (c11)
          refine cT (vEq_T (by assumption)) ?_
          refine rBuildSliceS H rfl rfl rfl rfl ?_
          clear H
          intro p2 w2 H
          clear w1
          refine Done.mk ?_
          (refine H.ptSl (n := 1) (en := enK) (s := 1) 0 rfl [_] rfl rfl (fun _ => rfl) rfl ?_; intro H; exact ⟨_, _, _, _, rfl, by unfold numS; repeat first | rw [if_pos (by omega)] | rw [if_neg (by omega)] | (subst_vars; rfl), H.del 1⟩)
        replace c11 := vEq_f (c11)
        refine rLd (H.at 0 rfl) 0 rfl rfl rfl ?_
        refine cI (fun c12 => ?_) (fun c12 => ?_)
        · replace c12 := vEq_t (c12)
          refine rBuildSliceS H rfl rfl rfl rfl ?_
          clear H
          intro p2 w2 H
          clear w1
          refine Done.mk ?_
          (refine H.ptSl (n := 1) (en := enK) (s := 1) 0 rfl [_] rfl rfl (fun _ => rfl) rfl ?_; intro H; exact ⟨_, _, _, _, rfl, by unfold numS; repeat first | rw [if_pos (by omega)] | rw [if_neg (by omega)] | (subst_vars; rfl), H.del 1⟩)
        replace c12 := vEq_f (c12)
        refine rLd (H.at 0 rfl) 0 rfl rfl rfl ?_
        refine br (fun c13 => ?_) (fun c13 => ?_)
        · replace c13 := vLe_t (c13)
          refine rLd (H.at 0 rfl) 0 rfl rfl rfl ?_
          refine cI (fun c14 => ?_) (fun c14 => ?_)
          · replace c14 := vLe_t (c14)
            refine CallP.mk (Fc.imp (Go.Proofs.YtcpniokopahakaaDoor.Ins.num1 H _) ?_)
            rintro _ _ ⟨⟨r1, ⟨rfl, h1⟩⟩, rfl⟩
            refine rBuildSliceS H rfl rfl rfl rfl ?_
            clear H
            intro p2 w2 H
            clear w1
            refine Done.mk ?_
            (refine H.ptSl (n := 1) (en := enK) (s := 1) 0 rfl [_] rfl rfl (fun _ => rfl) rfl ?_; intro H; exact ⟨_, _, _, _, rfl, by unfold numS; repeat first | rw [if_pos (by omega)] | rw [if_neg (by omega)] | (subst_vars; rfl), H.del 1⟩)
          replace c14 := vLe_f (c14)
          refine Done.mk ?_
          exact ⟨_, _, _, [], rfl, by unfold numS; repeat first | rw [if_pos (by omega)] | rw [if_neg (by omega)], (H.del 0).sl0 (en := enK) (s := 1) 60 (fun _ => rfl)⟩
        replace c13 := vLe_f (c13)
        refine cF rfl ?_
        refine Done.mk ?_
        exact ⟨_, _, _, [], rfl, by unfold numS; repeat first | rw [if_pos (by omega)] | rw [if_neg (by omega)], (H.del 0).sl0 (en := enK) (s := 1) 60 (fun _ => rfl)⟩
      replace c7 := vLe_f (c7)
      refine cF rfl ?_
      refine rLd (H.at 0 rfl) 0 rfl rfl rfl ?_
      refine br_t (vLe_T (by assumption)) ?_
      refine rLd (H.at 0 rfl) 0 rfl rfl rfl ?_
      refine cT (vLe_T (by omega)) ?_
      refine CallP.mk (Fc.imp (Go.Proofs.YtcpniokopahakaaDoor.Ins.num1 H _) ?_)
      rintro _ _ ⟨⟨r1, ⟨rfl, h1⟩⟩, rfl⟩
      refine rBuildSliceS H rfl rfl rfl rfl ?_
      clear H
      intro p2 w2 H
      clear w1
      refine Done.mk ?_
      (refine H.ptSl (n := 2) (en := enK) (s := 1) 0 rfl [_, _] rfl rfl (fun _ => rfl) rfl ?_; intro H; exact ⟨_, _, _, _, rfl, by unfold numS; repeat first | rw [if_pos (by omega)] | rw [if_neg (by omega)] | (subst_vars; rfl), H.del 1⟩)
    replace c5 := vLe_f (c5)
    refine cF rfl ?_
    refine rLd (H.at 0 rfl) 0 rfl rfl rfl ?_
    refine br_f (vLe_F (by omega)) ?_
    refine cF rfl ?_
    refine rLd (H.at 0 rfl) 0 rfl rfl rfl ?_
    refine br_f (vLe_F (by omega)) ?_
    refine cF rfl ?_
    refine rLd (H.at 0 rfl) 0 rfl rfl rfl ?_
    refine cF (vEq_F (by omega)) ?_
    refine rLd (H.at 0 rfl) 0 rfl rfl rfl ?_
    refine cF (vEq_F (by omega)) ?_
    refine rLd (H.at 0 rfl) 0 rfl rfl rfl ?_
    refine cF (vEq_F (by omega)) ?_
    refine rLd (H.at 0 rfl) 0 rfl rfl rfl ?_
    refine br_f (vLe_F (by omega)) ?_
    refine cF rfl ?_
    refine Done.mk ?_
    exact ⟨_, _, _, [], rfl, by unfold numS; repeat first | rw [if_pos (by omega)] | rw [if_neg (by omega)], (H.del 0).sl0 (en := enK) (s := 1) 60 (fun _ => rfl)⟩
  replace c3 := vLt_f (c3)
  refine cF rfl ?_
  refine rLd (H.at 0 rfl) 0 rfl rfl rfl ?_
  refine br_f (vLe_F (by omega)) ?_
  refine cF rfl ?_
  refine rLd (H.at 0 rfl) 0 rfl rfl rfl ?_
  refine br_f (vLe_F (by omega)) ?_
  refine cF rfl ?_
  refine rLd (H.at 0 rfl) 0 rfl rfl rfl ?_
  refine br_f (vLe_F (by omega)) ?_
  refine cF rfl ?_
  refine rLd (H.at 0 rfl) 0 rfl rfl rfl ?_
  refine cF (vEq_F (by omega)) ?_
  refine rLd (H.at 0 rfl) 0 rfl rfl rfl ?_
  refine cF (vEq_F (by omega)) ?_
  refine rLd (H.at 0 rfl) 0 rfl rfl rfl ?_
  refine cF (vEq_F (by omega)) ?_
  refine rLd (H.at 0 rfl) 0 rfl rfl rfl ?_
  refine br_f (vLe_F (by omega)) ?_
  refine cF rfl ?_
  refine Done.mk ?_
  exact ⟨_, _, _, [], rfl, by unfold numS; repeat first | rw [if_pos (by omega)] | rw [if_neg (by omega)], (H.del 0).sl0 (en := enK) (s := 1) 60 (fun _ => rfl)⟩
theorem besides (o : Int) (w : World) : Fc Tryd.prog 160 #[.int .u8 o] w (fun v w' => (∃ r, v = .int .i64 r ∧ r = bsd o) ∧ Sat (froz w) w' []) := by
  refine Fc.of Tryd.func160 rfl (by kernel_rfl) ?_
  have H := Sat.start w
  refine bk ?_
  refine br (fun c1 => ?_) (fun c1 => ?_)
  · replace c1 := vEq_t (c1)
    refine cT rfl ?_
    refine Done.mk ?_
    refine ⟨?_, ?_⟩
    · refine ⟨2, ?_⟩
      refine ⟨?_, ?_⟩
      · refine int_eq ?_
        omega
      (unfold bsd; repeat first | rw [if_pos (by omega)] | rw [if_neg (by omega)] | rw [if_pos (by rw [hn]; assumption)] | rw [if_neg (by rw [hn]; simp; assumption)])
    exact H
  replace c1 := vEq_f (c1)
  refine br (fun c2 => ?_) (fun c2 => ?_)
  · replace c2 := vEq_t (c2)
    refine cT rfl ?_
    refine Done.mk ?_
    refine ⟨?_, ?_⟩
    · refine ⟨2, ?_⟩
      refine ⟨?_, ?_⟩
      · refine int_eq ?_
        omega
      (unfold bsd; repeat first | rw [if_pos (by omega)] | rw [if_neg (by omega)] | rw [if_pos (by rw [hn]; assumption)] | rw [if_neg (by rw [hn]; simp; assumption)])
    exact H
  replace c2 := vEq_f (c2)
  refine cI (fun c3 => ?_) (fun c3 => ?_)
  · replace c3 := vEq_t (c3)
    refine Done.mk ?_
    refine ⟨?_, ?_⟩
    · refine ⟨2, ?_⟩
      refine ⟨?_, ?_⟩
      · refine int_eq ?_
        omega
      (unfold bsd; repeat first | rw [if_pos (by omega)] | rw [if_neg (by omega)] | rw [if_pos (by rw [hn]; assumption)] | rw [if_neg (by rw [hn]; simp; assumption)])
    exact H
  replace c3 := vEq_f (c3)
  refine cI (fun c4 => ?_) (fun c4 => ?_)
  · replace c4 := vEq_t (c4)
    refine cT (vEq_T (by assumption)) ?_
    refine Done.mk ?_
    refine ⟨?_, ?_⟩
    · refine ⟨3, ?_⟩
      refine ⟨?_, ?_⟩
      · refine int_eq ?_
        omega
      (unfold bsd; repeat first | rw [if_pos (by omega)] | rw [if_neg (by omega)] | rw [if_pos (by rw [hn]; assumption)] | rw [if_neg (by rw [hn]; simp; assumption)])
    exact H
  replace c4 := vEq_f (c4)
  refine cI (fun c5 => ?_) (fun c5 => ?_)
  · replace c5 := vEq_t (c5)
    refine cT (vEq_T (by assumption)) ?_
    refine Done.mk ?_
    refine ⟨?_, ?_⟩
    · refine ⟨3, ?_⟩
      refine ⟨?_, ?_⟩
      · refine int_eq ?_
        omega
      (unfold bsd; repeat first | rw [if_pos (by omega)] | rw [if_neg (by omega)] | rw [if_pos (by rw [hn]; assumption)] | rw [if_neg (by rw [hn]; simp; assumption)])
    exact H
  replace c5 := vEq_f (c5)
  refine cI (fun c6 => ?_) (fun c6 => ?_)
  · replace c6 := vEq_t (c6)
    refine cT (vEq_T (by assumption)) ?_
    refine Done.mk ?_
    refine ⟨?_, ?_⟩
    · refine ⟨3, ?_⟩
      refine ⟨?_, ?_⟩
      · refine int_eq ?_
        omega
      (unfold bsd; repeat first | rw [if_pos (by omega)] | rw [if_neg (by omega)] | rw [if_pos (by rw [hn]; assumption)] | rw [if_neg (by rw [hn]; simp; assumption)])
    exact H
  replace c6 := vEq_f (c6)
  refine br (fun c7 => ?_) (fun c7 => ?_)
  · replace c7 := vLe_t (c7)
    refine cI (fun c8 => ?_) (fun c8 => ?_)
    · replace c8 := vLe_t (c8)
      refine Done.mk ?_
      refine ⟨?_, ?_⟩
      · refine ⟨3, ?_⟩
        refine ⟨?_, ?_⟩
        · refine int_eq ?_
          omega
        (unfold bsd; repeat first | rw [if_pos (by omega)] | rw [if_neg (by omega)] | rw [if_pos (by rw [hn]; assumption)] | rw [if_neg (by rw [hn]; simp; assumption)])
      exact H
    replace c8 := vLe_f (c8)
    refine cF (vEq_F (by omega)) ?_
    refine cF (vEq_F (by omega)) ?_
    refine CallP.mk (Fc.imp (Go.Proofs.YtcpniokopahakaaDoor.Ins.width _ _) ?_)
    rintro _ _ ⟨⟨r1, ⟨rfl, h1⟩⟩, rfl⟩
    refine cI (fun c9 => ?_) (fun c9 => ?_)
    · replace c9 := vLt_t (c9)
      refine Done.mk ?_
      refine ⟨?_, ?_⟩
      · refine ⟨6, ?_⟩
        refine ⟨?_, ?_⟩
        · refine int_eq ?_
          omega
        (unfold bsd; repeat first | rw [if_pos (by omega)] | rw [if_neg (by omega)] | rw [if_pos (by rw [hn]; assumption)] | rw [if_neg (by rw [hn]; simp; assumption)])
      exact H
    replace c9 := vLt_f (c9)
    refine cI (fun c10 => ?_) (fun c10 => ?_)
    · replace c10 := vEq_t (c10)
      refine cT (vEq_T (by assumption)) ?_
      refine Done.mk ?_
      refine ⟨?_, ?_⟩
      · refine ⟨7, ?_⟩
        refine ⟨?_, ?_⟩
        · refine int_eq ?_
          omega
        (unfold bsd; repeat first | rw [if_pos (by omega)] | rw [if_neg (by omega)] | rw [if_pos (by rw [hn]; assumption)] | rw [if_neg (by rw [hn]; simp; assumption)])
      exact H
    replace c10 := vEq_f (c10)
    refine cI (fun c11 => ?_) (fun c11 => ?_)
    · replace c11 := vEq_t (c11)
      refine Done.mk ?_
      refine ⟨?_, ?_⟩
      · refine ⟨7, ?_⟩
        refine ⟨?_, ?_⟩
        · refine int_eq ?_
          omega
        (unfold bsd; repeat first | rw [if_pos (by omega)] | rw [if_neg (by omega)] | rw [if_pos (by rw [hn]; assumption)] | rw [if_neg (by rw [hn]; simp; assumption)])
      exact H
    replace c11 := vEq_f (c11)
    refine cI (fun c12 => ?_) (fun c12 => ?_)
    · replace c12 := vEq_t (c12)
      refine Done.mk ?_
      refine ⟨?_, ?_⟩
      · refine ⟨8, ?_⟩
        refine ⟨?_, ?_⟩
        · refine int_eq ?_
          omega
        (unfold bsd; repeat first | rw [if_pos (by omega)] | rw [if_neg (by omega)] | rw [if_pos (by rw [hn]; assumption)] | rw [if_neg (by rw [hn]; simp; assumption)])
      exact H
    replace c12 := vEq_f (c12)
    refine cI (fun c13 => ?_) (fun c13 => ?_)
    · replace c13 := vEq_t (c13)
      refine Done.mk ?_
      refine ⟨?_, ?_⟩
      · refine ⟨9, ?_⟩
        refine ⟨?_, ?_⟩
        · refine int_eq ?_
          omega
        (unfold bsd; repeat first | rw [if_pos (by omega)] | rw [if_neg (by omega)] | rw [if_pos (by rw [hn]; assumption)] | rw [if_neg (by rw [hn]; simp; assumption)])
      exact H
    replace c13 := vEq_f (c13)
    refine cF (vLe_F (by omega)) ?_
    refine cF (vEq_F (by omega)) ?_
    refine cF (vEq_F (by omega)) ?_
    refine cF (vEq_F (by omega)) ?_
    refine cF (vEq_F (by omega)) ?_
    refine cF (vEq_F (by omega)) ?_
    refine CallP.mk (Fc.imp (Go.Proofs.YtcpniokopahakaaDoor.Ins.numeric _ _) ?_)
    rintro _ w1 ⟨u1, ⟨k1, ⟨b1, ⟨xs1, ⟨rfl, ⟨h2, H'⟩⟩⟩⟩⟩⟩
    refine H.mergeK H' ?_
    clear H H'
    intro H
    have hn := congrArg (fun q => q.2.2) h2
    simp only at hn
    refine cI (fun c14 => ?_) (fun c14 => ?_)
    · refine Done.mk ?_
      refine ⟨?_, ?_⟩
      · refine ⟨1, ?_⟩
        refine ⟨?_, ?_⟩
        · refine int_eq ?_
          omega
        (unfold bsd; repeat first | rw [if_pos (by omega)] | rw [if_neg (by omega)] | rw [if_pos (by rw [hn]; assumption)] | rw [if_neg (by rw [hn]; simp; assumption)])
      refine H.firsts 0 ?_
      clear H
      intro H
      exact H
    refine Done.mk ?_
    refine ⟨?_, ?_⟩
    · refine ⟨0, ?_⟩
      refine ⟨?_, ?_⟩
      · refine int_eq ?_
        omega
      (unfold bsd; repeat first | rw [if_pos (by omega)] | rw [if_neg (by omega)] | rw [if_pos (by rw [hn]; assumption)] | rw [if_neg (by rw [hn]; simp; assumption)])
    refine H.firsts 0 ?_
    clear H
    intro H
    exact H
  replace c7 := vLe_f (c7)
  refine cF rfl ?_
  refine cI (fun c8 => ?_) (fun c8 => ?_)
  · replace c8 := vEq_t (c8)
    refine Done.mk ?_
    refine ⟨?_, ?_⟩
    · refine ⟨4, ?_⟩
      refine ⟨?_, ?_⟩
      · refine int_eq ?_
        omega
      (unfold bsd; repeat first | rw [if_pos (by omega)] | rw [if_neg (by omega)] | rw [if_pos (by rw [hn]; assumption)] | rw [if_neg (by rw [hn]; simp; assumption)])
    exact H
  replace c8 := vEq_f (c8)
  refine cI (fun c9 => ?_) (fun c9 => ?_)
  · replace c9 := vEq_t (c9)
    refine Done.mk ?_
    refine ⟨?_, ?_⟩
    · refine ⟨5, ?_⟩
      refine ⟨?_, ?_⟩
      · refine int_eq ?_
        omega
      (unfold bsd; repeat first | rw [if_pos (by omega)] | rw [if_neg (by omega)] | rw [if_pos (by rw [hn]; assumption)] | rw [if_neg (by rw [hn]; simp; assumption)])
    exact H
  replace c9 := vEq_f (c9)
  refine CallP.mk (Fc.imp (Go.Proofs.YtcpniokopahakaaDoor.Ins.width _ _) ?_)
  rintro _ _ ⟨⟨r1, ⟨rfl, h1⟩⟩, rfl⟩
  refine cI (fun c10 => ?_) (fun c10 => ?_)
  · replace c10 := vLt_t (c10)
    refine Done.mk ?_
    refine ⟨?_, ?_⟩
    · refine ⟨6, ?_⟩
      refine ⟨?_, ?_⟩
      · refine int_eq ?_
        omega
      (unfold bsd; repeat first | rw [if_pos (by omega)] | rw [if_neg (by omega)] | rw [if_pos (by rw [hn]; assumption)] | rw [if_neg (by rw [hn]; simp; assumption)])
    exact H
  replace c10 := vLt_f (c10)
  refine cF (vEq_F (by omega)) ?_
  refine cF (vEq_F (by omega)) ?_
  refine cF (vEq_F (by omega)) ?_
  refine cF (vEq_F (by omega)) ?_
  refine cI (fun c11 => ?_) (fun c11 => ?_)
  · replace c11 := vLe_t (c11)
    refine cT (vLe_T (by assumption)) ?_
    refine Done.mk ?_
    refine ⟨?_, ?_⟩
    · refine ⟨1, ?_⟩
      refine ⟨?_, ?_⟩
      · refine int_eq ?_
        omega
      (unfold bsd; repeat first | rw [if_pos (by omega)] | rw [if_neg (by omega)] | rw [if_pos (by rw [hn]; assumption)] | rw [if_neg (by rw [hn]; simp; assumption)])
    exact H
  replace c11 := vLe_f (c11)
  refine cI (fun c12 => ?_) (fun c12 => ?_)
  · replace c12 := vEq_t (c12)
    refine cT (vEq_T (by assumption)) ?_
    refine Done.mk ?_
    refine ⟨?_, ?_⟩
    · refine ⟨1, ?_⟩
      refine ⟨?_, ?_⟩
      · refine int_eq ?_
        omega
      (unfold bsd; repeat first | rw [if_pos (by omega)] | rw [if_neg (by omega)] | rw [if_pos (by rw [hn]; assumption)] | rw [if_neg (by rw [hn]; simp; assumption)])
    exact H
  replace c12 := vEq_f (c12)
  refine cI (fun c13 => ?_) (fun c13 => ?_)
  · replace c13 := vEq_t (c13)
    refine cT (vEq_T (by assumption)) ?_
    refine Done.mk ?_
    refine ⟨?_, ?_⟩
    · refine ⟨1, ?_⟩
      refine ⟨?_, ?_⟩
      · refine int_eq ?_
        omega
      (unfold bsd; repeat first | rw [if_pos (by omega)] | rw [if_neg (by omega)] | rw [if_pos (by rw [hn]; assumption)] | rw [if_neg (by rw [hn]; simp; assumption)])
    exact H
  replace c13 := vEq_f (c13)
  refine cI (fun c14 => ?_) (fun c14 => ?_)
  · replace c14 := vEq_t (c14)
    refine cT (vEq_T (by assumption)) ?_
    refine Done.mk ?_
    refine ⟨?_, ?_⟩
    · refine ⟨1, ?_⟩
      refine ⟨?_, ?_⟩
      · refine int_eq ?_
        omega
      (unfold bsd; repeat first | rw [if_pos (by omega)] | rw [if_neg (by omega)] | rw [if_pos (by rw [hn]; assumption)] | rw [if_neg (by rw [hn]; simp; assumption)])
    exact H
  replace c14 := vEq_f (c14)
  refine cI (fun c15 => ?_) (fun c15 => ?_)
  · replace c15 := vEq_t (c15)
    refine cT (vEq_T (by assumption)) ?_
    refine Done.mk ?_
    refine ⟨?_, ?_⟩
    · refine ⟨1, ?_⟩
      refine ⟨?_, ?_⟩
      · refine int_eq ?_
        omega
      (unfold bsd; repeat first | rw [if_pos (by omega)] | rw [if_neg (by omega)] | rw [if_pos (by rw [hn]; assumption)] | rw [if_neg (by rw [hn]; simp; assumption)])
    exact H
  replace c15 := vEq_f (c15)
  refine cI (fun c16 => ?_) (fun c16 => ?_)
  · replace c16 := vEq_t (c16)
    refine Done.mk ?_
    refine ⟨?_, ?_⟩
    · refine ⟨1, ?_⟩
      refine ⟨?_, ?_⟩
      · refine int_eq ?_
        omega
      (unfold bsd; repeat first | rw [if_pos (by omega)] | rw [if_neg (by omega)] | rw [if_pos (by rw [hn]; assumption)] | rw [if_neg (by rw [hn]; simp; assumption)])
    exact H
  replace c16 := vEq_f (c16)
  refine CallP.mk (Fc.imp (Go.Proofs.YtcpniokopahakaaDoor.Ins.numeric _ _) ?_)
  rintro _ w1 ⟨u1, ⟨k1, ⟨b1, ⟨xs1, ⟨rfl, ⟨h2, H'⟩⟩⟩⟩⟩⟩
  refine H.mergeK H' ?_
  clear H H'
  intro H
  have hn := congrArg (fun q => q.2.2) h2
  simp only at hn
  refine cI (fun c17 => ?_) (fun c17 => ?_)
  · refine Done.mk ?_
    refine ⟨?_, ?_⟩
    · refine ⟨1, ?_⟩
      refine ⟨?_, ?_⟩
      · refine int_eq ?_
        omega
      (unfold bsd; repeat first | rw [if_pos (by omega)] | rw [if_neg (by omega)] | rw [if_pos (by rw [hn]; assumption)] | rw [if_neg (by rw [hn]; simp; assumption)])
    refine H.firsts 0 ?_
    clear H
    intro H
    exact H
  refine Done.mk ?_
  refine ⟨?_, ?_⟩
  · refine ⟨0, ?_⟩
    refine ⟨?_, ?_⟩
    · refine int_eq ?_
      omega
    (unfold bsd; repeat first | rw [if_pos (by omega)] | rw [if_neg (by omega)] | rw [if_pos (by rw [hn]; assumption)] | rw [if_neg (by rw [hn]; simp; assumption)])
  refine H.firsts 0 ?_
  clear H
  intro H
  exact H
theorem isIndex (n : Int) (w : World) : Fc Tryd.prog 161 #[.int .i64 n] w (fun v w' => (∃ b, v = .bool b ∧ (b = true ↔ isIdx n)) ∧ w = w') := by
  refine Fc.of Tryd.func161 rfl (by kernel_rfl) ?_
  have H := Sat.start w
  refine br (fun c1 => ?_) (fun c1 => ?_)
  · replace c1 := vLe_t (c1)
    refine Done.mk ?_
    exact ⟨⟨_, rfl, by unfold isIdx; simp [vLe_iff]; omega⟩, rfl⟩
  replace c1 := vLe_f (c1)
  refine Done.mk ?_
  exact ⟨⟨_, rfl, by unfold isIdx; simp [vLe_iff]; omega⟩, rfl⟩
end Go.Proofs.YtcpniokopahakaaDoor.Ins
/- Package ins: Check. -/
set_option maxRecDepth 100000
set_option maxHeartbeats 4000000
set_option linter.unusedVariables false
set_option linter.unusedSimpArgs false
namespace Go.Proofs.YtcpniokopahakaaDoor.Ins
open Go Go.Proofs.YtcpniokopahakaaDoor.Eng Go.RowKit
def enI (n : Int) : List Value := [.int .i64 n]
def okI (n : Int) : Prop := I64 n
theorem chk_0 {x : InsD} (h : bsd x.op = 0) : chk x = 6 := by unfold chk; rw [if_pos h]
theorem chk_2 {x : InsD} (h : bsd x.op ≠ 0) (h2 : 16 < x.to.length) : chk x = 2 := by unfold chk; rw [if_neg h, if_pos h2]
theorem chk_1 {x : InsD} (h : bsd x.op ≠ 0) (h2 : x.to.length ≤ 16) (h3 : (bsd x.op ≠ 4 ∧ 0 < x.to.length) ∨ (bsd x.op ≠ 6 ∧ x.b ≠ 0)) : chk x = 1 := by unfold chk; rw [if_neg h, if_neg (by omega), if_pos h3]
theorem chk_g {x : InsD} {q : Bool} (h : bsd x.op ≠ 0) (h2 : x.to.length ≤ 16) (h3 : bsd x.op = 4 ∨ x.to.length = 0) (h4 : bsd x.op = 6 ∨ x.b = 0) (hq : q = true ↔ goodK (bsd x.op) x.a x.b ∧ ∀ n ∈ x.to, isIdx n) : chk x = if q then 0 else 1 := by
  unfold chk
  rw [if_neg h, if_neg (by omega), if_neg (by omega)]
  by_cases hg : goodK (bsd x.op) x.a x.b ∧ ∀ n ∈ x.to, isIdx n
  · rw [if_pos hg, if_pos (hq.2 hg)]
  · rw [if_neg hg, if_neg (fun h => hg (hq.1 h))]
theorem all_take {p : Int → Prop} {l : List Int} {k : Nat} {x : Int} (hx : l[k]? = some x) : (∀ n ∈ l.take (k + 1), p n) ↔ (∀ n ∈ l.take k, p n) ∧ p x := by
  rw [List.take_add_one, hx]
  simp only [Option.toList_some, List.mem_append, List.mem_singleton]
  exact ⟨fun h => ⟨fun n hn => h n (.inl hn), h x (.inr rfl)⟩, fun h n hn => hn.elim (h.1 n) (fun e => e ▸ h.2)⟩
theorem allT {P : Prop} {p : Int → Prop} {l : List Int} {k : Nat} {x : Int} {b : Bool} (hx : l[k]? = some x) (h : P ∧ ∀ n ∈ l.take k, p n) (hb : b = true ↔ p x) : b = true ↔ P ∧ ∀ n ∈ l.take (k + 1), p n := by
  rw [all_take hx, hb]
  exact ⟨fun q => ⟨h.1, h.2, q⟩, fun q => q.2.2⟩
theorem allF {P : Prop} {p : Int → Prop} {l : List Int} {k : Nat} {x : Int} (hx : l[k]? = some x) (h : ¬ (P ∧ ∀ n ∈ l.take k, p n)) : false = true ↔ P ∧ ∀ n ∈ l.take (k + 1), p n := by
  rw [all_take hx]
  exact ⟨nofun, fun q => absurd ⟨q.1, q.2.1⟩ h⟩
theorem chk_y {x : InsD} {k : Nat} (h : bsd x.op ≠ 0) (h2 : x.to.length ≤ 16) (h3 : bsd x.op = 4 ∨ x.to.length = 0) (h4 : bsd x.op = 6 ∨ x.b = 0) (hq : goodK (bsd x.op) x.a x.b ∧ ∀ n ∈ x.to.take k, isIdx n) (hk : x.to.length ≤ k) : chk x = 0 := by
  rw [List.take_of_length_le hk] at hq
  rw [chk_g h h2 h3 h4 (q := true) ⟨fun _ => hq, fun _ => rfl⟩]; rfl
theorem chk_n {x : InsD} {k : Nat} (h : bsd x.op ≠ 0) (h2 : x.to.length ≤ 16) (h3 : bsd x.op = 4 ∨ x.to.length = 0) (h4 : bsd x.op = 6 ∨ x.b = 0) (hq : ¬ (goodK (bsd x.op) x.a x.b ∧ ∀ n ∈ x.to.take k, isIdx n)) (hk : x.to.length ≤ k) : chk x = 1 := by
  rw [List.take_of_length_le hk] at hq
  rw [chk_g h h2 h3 h4 (q := false) ⟨nofun, fun h => absurd h hq⟩]; rfl
theorem goodK_17 {k a b : Int} (h : k = 1 ∨ k = 7) : goodK k a b ↔ a = 0 := by unfold goodK; rw [if_pos h]
theorem goodK_2 {k a b : Int} (h : k = 2) : goodK k a b ↔ a = 64 ∨ a = 127 ∨ a = 126 := by subst h; unfold goodK; simp
theorem goodK_8 {k a b : Int} (h : k = 8) : goodK k a b ↔ -2147483648 ≤ a ∧ a ≤ 2147483647 := by subst h; unfold goodK; simp
theorem goodK_6 {k a b : Int} (h : k = 6) : goodK k a b ↔ isIdx a ∧ isIdx b := by subst h; unfold goodK; simp
theorem goodK_345 {k a b : Int} (h : k = 3 ∨ k = 4 ∨ k = 5) : goodK k a b ↔ isIdx a := by unfold goodK; rw [if_neg (by omega), if_neg (by omega), if_neg (by omega), if_neg (by omega), if_pos h]
theorem goodK_9 {k a b : Int} (h : k ≠ 1) (h7 : k ≠ 7) (h2 : k ≠ 2) (h8 : k ≠ 8) (h6 : k ≠ 6) (h3 : k ≠ 3) (h4 : k ≠ 4) (h5 : k ≠ 5) : goodK k a b ↔ True := by unfold goodK; rw [if_neg (by omega), if_neg (by omega), if_neg (by omega), if_neg (by omega), if_neg (by omega)]
theorem fits32 {a : Int} (ha : I64 a) : vEq a (vWrap .i64 (vWrap .i32 a)) = true ↔ -2147483648 ≤ a ∧ a ≤ 2147483647 := by
  have h : -2147483648 ≤ vWrap .i32 a ∧ vWrap .i32 a ≤ 2147483647 ∧ (a = vWrap .i32 a ↔ -2147483648 ≤ a ∧ a ≤ 2147483647) := by
    unfold vWrap IntKind.wrap
    simp [IntKind.bits, IntKind.signed]
    split <;> omega
  rw [wi64 (by omega), vEq_iff]
  simp only [decide_eq_true_eq]
  exact h.2.2
theorem check (o a b : Int) (tv : Value) (to : List Int) (w : World) (ha : I64 a) (hx : Rd enI okI 1 w tv to) : Fc Tryd.prog 123 #[.agg #[.int .u8 o, .int .i64 a, .int .i64 b, tv]] w (fun v w' => (∃ r, v = .int .i64 r ∧ r = chk ⟨o, a, b, to⟩) ∧ Sat (froz w) w' []) := by
  refine Fc.of Tryd.func123 rfl (by kernel_rfl) ?_
  have H := Sat.start w
  have hx := hx.fz
  refine rBoxS H ?_
  clear H
  intro p1 w1 H
  refine rFieldAt rfl ?_
  refine rLd (H.at 0 rfl) 0 rfl rfl rfl ?_
  refine CallP.mk (Fc.imp (Go.Proofs.YtcpniokopahakaaDoor.Ins.besides _ _) ?_)
  rintro _ w2 ⟨⟨r1, ⟨rfl, h1⟩⟩, H'⟩
  refine H.mergeK H' ?_
  clear H H'
  intro H
  refine block_join (α := Unit) (fun x_ => []) (fun x_ w_ => (bsd o ≠ 0) ∧ (to.length ≤ 16) ∧ (bsd o = 4 ∨ to.length = 0) ∧ (bsd o = 6 ∨ b = 0) ∧ Sat (froz w) w_ ([Pt p1 [.int .u8 o, .int .i64 a, .int .i64 b, tv] 28])) ?_ ?_
  · refine cI (fun c1 => ?_) (fun c1 => ?_)
    · replace c1 := vEq_t (c1)
      refine Done.mk ?_
      refine ⟨?_, ?_⟩
      · refine ⟨6, ?_⟩
        refine ⟨?_, ?_⟩
        · refine int_eq ?_
          omega
        exact (chk_0 (by simp only; omega)).symm
      refine H.firsts 0 ?_
      clear H
      intro H
      exact H
    replace c1 := vEq_f (c1)
    refine rFieldAt rfl ?_
    refine rLd (H.at 0 rfl) 3 rfl rfl rfl ?_
    refine rLenF hx rfl ?_
    refine cI (fun c2 => ?_) (fun c2 => ?_)
    · replace c2 := vLt_t (c2)
      refine Done.mk ?_
      refine ⟨?_, ?_⟩
      · refine ⟨2, ?_⟩
        refine ⟨?_, ?_⟩
        · refine int_eq ?_
          omega
        exact (chk_2 (by simp only; omega) (by simp only; omega)).symm
      refine H.firsts 0 ?_
      clear H
      intro H
      exact H
    replace c2 := vLt_f (c2)
    refine br (fun c3 => ?_) (fun c3 => ?_)
    · replace c3 := vNe_t (c3)
      refine rFieldAt rfl ?_
      refine rLd (H.at 0 rfl) 3 rfl rfl rfl ?_
      refine rLenF hx rfl ?_
      refine cI (fun c4 => ?_) (fun c4 => ?_)
      · replace c4 := vLt_t (c4)
        refine cT (vLt_T (by assumption)) ?_
        refine Done.mk ?_
        refine ⟨?_, ?_⟩
        · refine ⟨1, ?_⟩
          refine ⟨?_, ?_⟩
          · refine int_eq ?_
            omega
          exact (chk_1 (by simp only; omega) (by simp only; omega) (by simp only; omega)).symm
        refine H.firsts 0 ?_
        clear H
        intro H
        exact H
      replace c4 := vLt_f (c4)
      refine br (fun c5 => ?_) (fun c5 => ?_)
      · replace c5 := vNe_t (c5)
        refine rFieldAt rfl ?_
        refine rLd (H.at 0 rfl) 2 rfl rfl rfl ?_
        refine cI (fun c6 => ?_) (fun c6 => ?_)
        · replace c6 := vNe_t (c6)
          refine Done.mk ?_
          refine ⟨?_, ?_⟩
          · refine ⟨1, ?_⟩
            refine ⟨?_, ?_⟩
            · refine int_eq ?_
              omega
            exact (chk_1 (by simp only; omega) (by simp only; omega) (by simp only; omega)).symm
          refine H.firsts 0 ?_
          clear H
          intro H
          exact H
        replace c6 := vNe_f (c6)
        refine Jn.mk (()) (mt_nil) ?_
        refine ⟨?_, ?_⟩
        · intro x1
          omega
        refine ⟨?_, ?_⟩
        · omega
        refine ⟨?_, ?_⟩
        · refine (Or.inr ?_)
          omega
        refine ⟨?_, ?_⟩
        · refine (Or.inr ?_)
          assumption
        exact H
      replace c5 := vNe_f (c5)
      refine cF rfl ?_
      refine Jn.mk (()) (mt_nil) ?_
      refine ⟨?_, ?_⟩
      · intro x1
        omega
      refine ⟨?_, ?_⟩
      · omega
      refine ⟨?_, ?_⟩
      · refine (Or.inr ?_)
        omega
      refine ⟨?_, ?_⟩
      · refine (Or.inl ?_)
        omega
      exact H
    replace c3 := vNe_f (c3)
    refine cF rfl ?_
    refine br_t (vNe_T (by omega)) ?_
    refine rFieldAt rfl ?_
    refine rLd (H.at 0 rfl) 2 rfl rfl rfl ?_
    refine cI (fun c4 => ?_) (fun c4 => ?_)
    · replace c4 := vNe_t (c4)
      refine Done.mk ?_
      refine ⟨?_, ?_⟩
      · refine ⟨1, ?_⟩
        refine ⟨?_, ?_⟩
        · refine int_eq ?_
          omega
        exact (chk_1 (by simp only; omega) (by simp only; omega) (by simp only; omega)).symm
      refine H.firsts 0 ?_
      clear H
      intro H
      exact H
    replace c4 := vNe_f (c4)
    refine Jn.mk (()) (mt_nil) ?_
    refine ⟨?_, ?_⟩
    · intro x1
      omega
    refine ⟨?_, ?_⟩
    · omega
    refine ⟨?_, ?_⟩
    · refine (Or.inl ?_)
      omega
    refine ⟨?_, ?_⟩
    · refine (Or.inr ?_)
      assumption
    exact H
  clear H
  rintro _ f_ w_ ⟨h0, h2, h3, h4, H⟩
  try simp only at h0 h2 h3 h4 H ⊢
  
  refine block_join (α := Bool) (fun x_ => [(4, .bool x_)]) (fun x_ w_ => (x_ = true ↔ goodK (bsd o) a b) ∧ Sat (froz w) w_ ([Pt p1 [.int .u8 o, .int .i64 a, .int .i64 b, tv] 28])) ?_ ?_
  · refine cI (fun c1 => ?_) (fun c1 => ?_)
    · replace c1 := vEq_t (c1)
      refine cT (vEq_T (by assumption)) ?_
      refine rFieldAt rfl ?_
      refine rLd (H.at 0 rfl) 1 rfl rfl rfl ?_
      refine Jn.mk (vEq a 0) (mt_cons rfl (mt_nil)) ?_
      refine ⟨?_, ?_⟩
      · exact Iff.trans (by simp [vEq_iff]) (goodK_17 (by omega)).symm
      exact H
    replace c1 := vEq_f (c1)
    refine cI (fun c2 => ?_) (fun c2 => ?_)
    · replace c2 := vEq_t (c2)
      refine rFieldAt rfl ?_
      refine rLd (H.at 0 rfl) 1 rfl rfl rfl ?_
      refine Jn.mk (vEq a 0) (mt_cons rfl (mt_nil)) ?_
      refine ⟨?_, ?_⟩
      · exact Iff.trans (by simp [vEq_iff]) (goodK_17 (by omega)).symm
      exact H
    replace c2 := vEq_f (c2)
    refine cI (fun c3 => ?_) (fun c3 => ?_)
    · replace c3 := vEq_t (c3)
      refine rFieldAt rfl ?_
      refine rLd (H.at 0 rfl) 1 rfl rfl rfl ?_
      refine br (fun c4 => ?_) (fun c4 => ?_)
      · replace c4 := vEq_t (c4)
        refine Jn.mk (true) (mt_cons rfl (mt_nil)) ?_
        refine ⟨?_, ?_⟩
        · exact Iff.trans (by simp; omega) (goodK_2 (by omega)).symm
        exact H
      replace c4 := vEq_f (c4)
      refine rFieldAt rfl ?_
      refine rLd (H.at 0 rfl) 1 rfl rfl rfl ?_
      refine br (fun c5 => ?_) (fun c5 => ?_)
      · replace c5 := vEq_t (c5)
        refine Jn.mk (true) (mt_cons rfl (mt_nil)) ?_
        refine ⟨?_, ?_⟩
        · exact Iff.trans (by simp; omega) (goodK_2 (by omega)).symm
        exact H
      replace c5 := vEq_f (c5)
      refine rFieldAt rfl ?_
      refine rLd (H.at 0 rfl) 1 rfl rfl rfl ?_
      refine Jn.mk (vEq a 126) (mt_cons rfl (mt_nil)) ?_
      refine ⟨?_, ?_⟩
      · exact Iff.trans (by simp [vEq_iff]; omega) (goodK_2 (by omega)).symm
      exact H
    replace c3 := vEq_f (c3)
    refine cI (fun c4 => ?_) (fun c4 => ?_)
    · replace c4 := vEq_t (c4)
      refine rFieldAt rfl ?_
      refine rLd (H.at 0 rfl) 1 rfl rfl rfl ?_
      refine rFieldAt rfl ?_
      refine rLd (H.at 0 rfl) 1 rfl rfl rfl ?_
      refine rConvInt rfl rfl ?_
      refine rConvInt rfl rfl ?_
      refine Jn.mk (vEq a (vWrap IntKind.i64 (vWrap IntKind.i32 a))) (mt_cons rfl (mt_nil)) ?_
      refine ⟨?_, ?_⟩
      · exact Iff.trans (fits32 ha) (goodK_8 (by omega)).symm
      exact H
    replace c4 := vEq_f (c4)
    refine cI (fun c5 => ?_) (fun c5 => ?_)
    · replace c5 := vEq_t (c5)
      refine rFieldAt rfl ?_
      refine rLd (H.at 0 rfl) 1 rfl rfl rfl ?_
      refine CallP.mk (Fc.imp (Go.Proofs.YtcpniokopahakaaDoor.Ins.isIndex _ _) ?_)
      rintro _ _ ⟨⟨b1, ⟨rfl, h5⟩⟩, rfl⟩
      refine br (fun c6 => ?_) (fun c6 => ?_)
      · replace c6 := h5.1 (c6)
        refine rFieldAt rfl ?_
        refine rLd (H.at 0 rfl) 2 rfl rfl rfl ?_
        refine CallP.mk (Fc.imp (Go.Proofs.YtcpniokopahakaaDoor.Ins.isIndex _ _) ?_)
        rintro _ _ ⟨⟨b2, ⟨rfl, h6⟩⟩, rfl⟩
        refine Jn.mk (b2) (mt_cons rfl (mt_nil)) ?_
        refine ⟨?_, ?_⟩
        · exact Iff.trans (by simp [*]) (goodK_6 (by omega)).symm
        exact H
      replace c6 := iff_f h5 (c6)
      refine Jn.mk (false) (mt_cons rfl (mt_nil)) ?_
      refine ⟨?_, ?_⟩
      · exact Iff.trans (by simp [*]) (goodK_6 (by omega)).symm
      exact H
    replace c5 := vEq_f (c5)
    refine cI (fun c6 => ?_) (fun c6 => ?_)
    · replace c6 := vEq_t (c6)
      refine cT (vEq_T (by assumption)) ?_
      refine rFieldAt rfl ?_
      refine rLd (H.at 0 rfl) 1 rfl rfl rfl ?_
      refine CallP.mk (Fc.imp (Go.Proofs.YtcpniokopahakaaDoor.Ins.isIndex _ _) ?_)
      rintro _ _ ⟨⟨b1, ⟨rfl, h5⟩⟩, rfl⟩
      refine Jn.mk (b1) (mt_cons rfl (mt_nil)) ?_
      refine ⟨?_, ?_⟩
      · exact Iff.trans (by assumption) (goodK_345 (by omega)).symm
      exact H
    replace c6 := vEq_f (c6)
    refine cI (fun c7 => ?_) (fun c7 => ?_)
    · replace c7 := vEq_t (c7)
      refine cT (vEq_T (by assumption)) ?_
      refine rFieldAt rfl ?_
      refine rLd (H.at 0 rfl) 1 rfl rfl rfl ?_
      refine CallP.mk (Fc.imp (Go.Proofs.YtcpniokopahakaaDoor.Ins.isIndex _ _) ?_)
      rintro _ _ ⟨⟨b1, ⟨rfl, h5⟩⟩, rfl⟩
      refine Jn.mk (b1) (mt_cons rfl (mt_nil)) ?_
      refine ⟨?_, ?_⟩
      · exact Iff.trans (by assumption) (goodK_345 (by omega)).symm
      exact H
    replace c7 := vEq_f (c7)
    refine cI (fun c8 => ?_) (fun c8 => ?_)
    · replace c8 := vEq_t (c8)
      refine rFieldAt rfl ?_
      refine rLd (H.at 0 rfl) 1 rfl rfl rfl ?_
      refine CallP.mk (Fc.imp (Go.Proofs.YtcpniokopahakaaDoor.Ins.isIndex _ _) ?_)
      rintro _ _ ⟨⟨b1, ⟨rfl, h5⟩⟩, rfl⟩
      refine Jn.mk (b1) (mt_cons rfl (mt_nil)) ?_
      refine ⟨?_, ?_⟩
      · exact Iff.trans (by assumption) (goodK_345 (by omega)).symm
      exact H
    replace c8 := vEq_f (c8)
    refine Jn.mk (true) (mt_cons rfl (mt_nil)) ?_
    refine ⟨?_, ?_⟩
    · exact Iff.trans (by simp) (goodK_9 (by omega) (by omega) (by omega) (by omega) (by omega) (by omega) (by omega) (by omega)).symm
    exact H
  clear H
  rintro q f_ w_ ⟨hq, H⟩
  try simp only at hq H ⊢
  refine rFieldAt rfl ?_
  refine rLd (H.at 0 rfl) 3 rfl rfl rfl ?_
  refine rLenF hx rfl ?_
  refine LoopP.rule (α := Nat × Bool) (0, q) (fun x_ => [(85, .int .i64 x_.1), (4, .bool x_.2)]) (fun x_ w_ => (x_.1 ≤ to.length) ∧ (x_.2 = true ↔ goodK (bsd o) a b ∧ ∀ n ∈ to.take x_.1, isIdx n) ∧ Sat (froz w) w_ ([Pt p1 [.int .u8 o, .int .i64 a, .int .i64 b, tv] 28])) (fun x_ => to.length - x_.1) ?_ ?_ ?_
  · repeat first | exact mt_nil | refine mt_cons rfl ?_ | refine mt_i rfl (by first | omega | (simp only; omega) | (simp; omega) | (simp; done)) ?_
  · try simp only
    refine ⟨?_, ?_⟩
    · omega
    refine ⟨?_, ?_⟩
    · (rw [hq]; simp)
    exact H
  clear H
  rintro ⟨k, u⟩ f_ w_ ⟨hk, hu, H⟩
  try simp only at hk hu H ⊢
  refine cI (fun c1 => ?_) (fun c1 => ?_)
  · replace c1 := vLt_t (c1)
    refine bk ?_
    obtain ⟨x1, hx1⟩ : ∃ x, (to)[(k)]? = some x := ⟨_, List.getElem?_eq_getElem (by omega)⟩
    obtain ⟨b1, o1, E1, F1, hok1⟩ := FSl.elt hx hx1
    refine rIxE E1 rfl rfl rfl ?_
    refine rLd (H.fat F1) 0 rfl rfl rfl ?_
    refine br (fun c2 => ?_) (fun c2 => ?_)
    · replace c2 := hu.1 (c2)
      refine CallP.mk (Fc.imp (Go.Proofs.YtcpniokopahakaaDoor.Ins.isIndex _ _) ?_)
      rintro _ _ ⟨⟨b2, ⟨rfl, h5⟩⟩, rfl⟩
      refine eqI64 (by omega) ?_
      refine Nxt.mk ((k + 1, b2)) (mt_i rfl (by first | omega | (simp only; omega) | (simp; omega)) (mt_cons rfl (mt_nil))) ?_ ?_
      · refine ⟨?_, ?_⟩
        · omega
        refine ⟨?_, ?_⟩
        · exact allT hx1 (by assumption) (by assumption)
        exact H
      omega
    replace c2 := iff_f hu (c2)
    refine eqI64 (by omega) ?_
    refine Nxt.mk ((k + 1, false)) (mt_i rfl (by first | omega | (simp only; omega) | (simp; omega)) (mt_cons rfl (mt_nil))) ?_ ?_
    · refine ⟨?_, ?_⟩
      · omega
      refine ⟨?_, ?_⟩
      · exact allF hx1 (by assumption)
      exact H
    omega
  replace c1 := vLt_f (c1)
  refine cI (fun c2 => ?_) (fun c2 => ?_)
  · replace c2 := iff_f hu (not_t (c2))
    refine Done.mk ?_
    refine ⟨?_, ?_⟩
    · refine ⟨1, ?_⟩
      refine ⟨?_, ?_⟩
      · refine int_eq ?_
        omega
      exact (chk_n (k := k) (by simp only; omega) (by simp only; omega) (by simp only; omega) (by simp only; omega) (by assumption) (by simp only; omega)).symm
    refine H.firsts 0 ?_
    clear H
    intro H
    exact H
  replace c2 := hu.1 (not_f (c2))
  refine Done.mk ?_
  refine ⟨?_, ?_⟩
  · refine ⟨0, ?_⟩
    refine ⟨?_, ?_⟩
    · refine int_eq ?_
      omega
    exact (chk_y (k := k) (by simp only; omega) (by simp only; omega) (by simp only; omega) (by simp only; omega) (by assumption) (by simp only; omega)).symm
  refine H.firsts 0 ?_
  clear H
  intro H
  exact H
end Go.Proofs.YtcpniokopahakaaDoor.Ins
/- Arguments that are instructions, opened. -/
set_option maxRecDepth 100000
set_option linter.unusedVariables false
namespace Go.Proofs.YtcpniokopahakaaDoor.Ins
open Go Go.RowKit Go.Proofs.YtcpniokopahakaaDoor.Eng
/-- An instruction as it lies: its list is told by its slice. -/
structure InsV where
  op : Int
  a : Int
  b : Int
  tv : Value
  to : List Int
def InsV.d (x : InsV) : InsD := ⟨x.op, x.a, x.b, x.to⟩
def enV (x : InsV) : List Value := [.int .u8 x.op, .int .i64 x.a, .int .i64 x.b, x.tv]
def okH (H : Hv) (x : InsV) : Prop := U8 x.op ∧ I64 x.a ∧ I64 x.b ∧ SlR (RE enI okI) 1 H x.tv x.to
/-- An instruction whose list is frozen. -/
structure okV (g : Glob) (x : InsV) : Prop where
  op : U8 x.op
  a : I64 x.a
  b : I64 x.b
  to : FSl g enI okI 1 x.tv x.to
theorem okV.ext {g g' : Glob} {x : InsV} (h : okV g x) (E : Ext g g') : okV g' x := ⟨h.op, h.a, h.b, h.to.ext E⟩
theorem okV.of {g : Glob} {H : Hv} {x : InsV} (h : okH H x) (hh : Hle H (Gh g)) : okV g x := ⟨h.1, h.2.1, h.2.2.1, h.2.2.2.mono (RE.mono' enI okI) hh⟩
section
variable {H : Type} {enc : TypeId × Value → H} {w : World} {sp : Nat → Bool} {held : Bool}
theorem fitsI1 (cs : List Value) (h : fitsL [.int .i64] cs) : ∃ x, cs = enI x ∧ okI x := by
  obtain ⟨_, _, rfl, ⟨a, rfl, ha⟩, rfl⟩ := h
  exact ⟨a, rfl, ha⟩
theorem fitsB1 (cs : List Value) (h : fitsL [.int .u8] cs) : ∃ x, cs = enK x ∧ U8 x := by
  obtain ⟨_, _, rfl, ⟨a, rfl, ha⟩, rfl⟩ := h
  exact ⟨a, rfl, ha⟩
theorem open_i64s : OpT enc Tryd.prog w sp held 26 (fun H cs xs => ∃ v, cs = [v] ∧ SlR (RE enI okI) 1 H v xs) (fun xs => (xs.map (fun x => cellsSz (enI x) + 1)).sum + 1 + 0 * xs.length) :=
  opSl 1 rfl (by decide) Tryd.underlying26 (opFlat 6 rfl fitsI1)
theorem sum_len {α : Type} (f : α → Nat) (xs : List α) : xs.length ≤ (xs.map (fun x => f x + 1)).sum := by
  induction xs with
  | nil => exact Nat.zero_le _
  | cons a r ih => simp only [List.length_cons, List.map_cons, List.sum_cons]; omega
theorem open_ins : OpT enc Tryd.prog w sp held 28 (fun H cs x => cs = enV x ∧ okH H x) (fun x => x.to.length) := by
  refine (open_structN 4 Tryd.underlying28 rfl (openFs_cons rfl (opFlat (en := enK) (ok := U8) 6 rfl fitsB1) (openFs_cons rfl (opFlat (en := enI) (ok := okI) 6 rfl fitsI1) (openFs_cons rfl (opFlat (en := enI) (ok := okI) 6 rfl fitsI1) (openFs_cons rfl open_i64s openFs_nil))))).map ?_
  rintro H cs ⟨o, a, b, to, _⟩ ⟨hl, ⟨h1, h1'⟩, ⟨h2, h2'⟩, ⟨h3, h3'⟩, ⟨v, h4, h5⟩, _⟩
  refine ⟨⟨o, a, b, v, to⟩, ⟨?_, h1', h2', h3', h5⟩, by have := sum_len (fun x => cellsSz (enI x)) to; show to.length ≤ _; dsimp only; omega⟩
  match cs, hl with
  | [c0, c1, c2, c3], _ =>
    have e1 : [c0] = enK o := h1
    have e2 : [c1] = enI a := h2
    have e3 : [c2] = enI b := h3
    have e4 : [c3] = [v] := h4
    simp only [enK, enI, List.cons.injEq, and_true] at e1 e2 e3 e4
    show _ = [_, _, _, _]
    rw [e1, e2, e3, e4]
end
theorem fIns {w : World} {v : Value} {xs : List InsV} (h : SlR (fun H cs x => cs = enV x ∧ okH H x) 4 (Rg w 0 w.heap.size) v xs) : FSl (froz w) enV (okV (froz w)) 4 v xs :=
  h.conv (rg_froz w) fun _ _ h => ⟨h.1, okV.of h.2 (rg_froz w)⟩
end Go.Proofs.YtcpniokopahakaaDoor.Ins
/- Are two instructions the same? -/
set_option maxRecDepth 100000
set_option maxHeartbeats 4000000
set_option linter.unusedVariables false
set_option linter.unusedSimpArgs false
namespace Go.Proofs.YtcpniokopahakaaDoor.Ins
open Go Go.Proofs.YtcpniokopahakaaDoor.Eng Go.RowKit
theorem eq_step {α : Type} {xs ys : List α} {i : Nat} (h : ∀ q, q < i → xs[q]? = ys[q]?) (h1 : xs[i]? = ys[i]?) : ∀ q, q < i + 1 → xs[q]? = ys[q]? := fun q hq => by
  rcases Nat.lt_or_ge q i with h2 | h2
  · exact h q h2
  · rw [show q = i by omega]; exact h1
theorem eq_all {α : Type} {xs ys : List α} {i : Nat} (h1 : xs.length ≤ i) (h2 : ys.length ≤ i) (h : ∀ q, q < i → xs[q]? = ys[q]?) : xs = ys := by
  apply List.ext_getElem?
  intro q
  rcases Nat.lt_or_ge q i with h3 | h3
  · exact h q h3
  · rw [List.getElem?_eq_none (by omega), List.getElem?_eq_none (by omega)]
theorem eq64 (w : World) (u v : Value) (xs ys : List Int) (hx : Rd enI (fun _ => True) 1 w u xs) (hy : Rd enI (fun _ => True) 1 w v ys) :
    Fc Tryd.prog 106 #[u, v] w (fun r w' => ∃ b, r = .bool b ∧ (b = true ↔ xs = ys) ∧ Sat (froz w) w' []) := by
  refine Fc.of Tryd.func106 rfl (by kernel_rfl) ?_
  have H := Sat.start w
  have hx := hx.fz
  have hy := hy.fz
  have hlx := hx.len
  refine rLenF hx rfl ?_
  refine rLenF hy rfl ?_
  refine cI (fun c1 => ?_) (fun c1 => ?_)
  · replace c1 := vNe_t (c1)
    refine Done.mk ?_
    exact ⟨false, rfl, ⟨nofun, fun h => absurd (congrArg List.length h) (by omega)⟩, H⟩
  replace c1 := vNe_f (c1)
  refine rLenF hx rfl ?_
  refine LoopP.rule (α := Nat) (0) (fun x_ => [(14, .int .i64 x_)]) (fun x_ w_ => (x_ ≤ xs.length) ∧ (∀ q, q < x_ → xs[q]? = ys[q]?) ∧ Sat (froz w) w_ ([])) (fun x_ => xs.length - x_) ?_ ?_ ?_
  · repeat first | exact mt_nil | refine mt_cons rfl ?_ | refine mt_i rfl (by first | omega | (simp only; omega) | (simp; omega) | (simp; done)) ?_
  · try simp only
    refine ⟨?_, ?_⟩
    · omega
    refine ⟨?_, ?_⟩
    · (intro q hq; exact absurd hq (Nat.not_lt_zero q))
    exact H
  clear H
  rintro i f_ w_ ⟨hi, he, H⟩
  try simp only at hi he H ⊢
  refine cI (fun c2 => ?_) (fun c2 => ?_)
  · replace c2 := vLt_t (c2)
    refine bk ?_
    obtain ⟨x1, hx1⟩ : ∃ x, (xs)[(i)]? = some x := ⟨_, List.getElem?_eq_getElem (by omega)⟩
    obtain ⟨b1, o1, E1, F1, hok1⟩ := FSl.elt hx hx1
    refine rIxE E1 rfl rfl rfl ?_
    refine rLd (H.fat F1) 0 rfl rfl rfl ?_
    obtain ⟨x2, hx2⟩ : ∃ x, (ys)[(i)]? = some x := ⟨_, List.getElem?_eq_getElem (by omega)⟩
    obtain ⟨b2, o2, E2, F2, hok2⟩ := FSl.elt hy hx2
    refine rIxE E2 rfl rfl rfl ?_
    refine rLd (H.fat F2) 0 rfl rfl rfl ?_
    refine cI (fun c3 => ?_) (fun c3 => ?_)
    · replace c3 := vNe_t (c3)
      refine Done.mk ?_
      refine ⟨false, ?_⟩
      refine ⟨?_, ?_⟩
      · exact congrArg Value.bool (rfl)
      refine ⟨?_, ?_⟩
      · exact ⟨nofun, fun h => absurd (by subst h; exact Option.some.inj (hx1.symm.trans hx2)) (by assumption)⟩
      exact H
    replace c3 := vNe_f (c3)
    refine eqI64 (by omega) ?_
    refine Nxt.mk (i + 1) (mt_i rfl (by first | omega | (simp only; omega) | (simp; omega)) (mt_nil)) ?_ ?_
    · refine ⟨?_, ?_⟩
      · omega
      refine ⟨?_, ?_⟩
      · exact eq_step (by assumption) (by rw [hx1, hx2]; exact congrArg some (by assumption))
      exact H
    omega
  replace c2 := vLt_f (c2)
  refine Done.mk ?_
  exact ⟨true, rfl, ⟨fun _ => eq_all (by omega) (by omega) he, fun _ => rfl⟩, H⟩
theorem sameIns (w : World) (o a b : Int) (tv : Value) (to : List Int) (o' a' b' : Int) (tv' : Value) (to' : List Int) (hx : Rd enI (fun _ => True) 1 w tv to) (hy : Rd enI (fun _ => True) 1 w tv' to') :
    Fc Tryd.prog 80 #[.agg #[.int .u8 o, .int .i64 a, .int .i64 b, tv], .agg #[.int .u8 o', .int .i64 a', .int .i64 b', tv']] w (fun r w' => ∃ q, r = .bool q ∧ (q = true ↔ (⟨o, a, b, to⟩ : InsD) = ⟨o', a', b', to'⟩) ∧ Sat (froz w) w' []) := by
  refine Fc.of Tryd.func80 rfl (by kernel_rfl) ?_
  have H := Sat.start w
  have hx := hx.fz
  have hy := hy.fz
  refine rBoxS H ?_
  clear H
  intro p1 w1 H
  refine rBoxS H ?_
  clear H
  intro p2 w2 H
  clear w1
  refine rFieldAt rfl ?_
  refine rLd (H.at 1 rfl) 0 rfl rfl rfl ?_
  refine rFieldAt rfl ?_
  refine rLd (H.at 0 rfl) 0 rfl rfl rfl ?_
  refine br (fun c1 => ?_) (fun c1 => ?_)
  · replace c1 := vEq_t (c1)
    refine rFieldAt rfl ?_
    refine rLd (H.at 1 rfl) 1 rfl rfl rfl ?_
    refine rFieldAt rfl ?_
    refine rLd (H.at 0 rfl) 1 rfl rfl rfl ?_
    refine br (fun c2 => ?_) (fun c2 => ?_)
    · replace c2 := vEq_t (c2)
      refine rFieldAt rfl ?_
      refine rLd (H.at 1 rfl) 2 rfl rfl rfl ?_
      refine rFieldAt rfl ?_
      refine rLd (H.at 0 rfl) 2 rfl rfl rfl ?_
      refine br (fun c3 => ?_) (fun c3 => ?_)
      · replace c3 := vEq_t (c3)
        refine rFieldAt rfl ?_
        refine rLd (H.at 1 rfl) 3 rfl rfl rfl ?_
        refine rFieldAt rfl ?_
        refine rLd (H.at 0 rfl) 3 rfl rfl rfl ?_
        refine CallP.mk (Fc.imp (Go.Proofs.YtcpniokopahakaaDoor.Ins.eq64 _ _ _ _ _ (H.rd hx) (H.rd hy)) ?_)
        rintro _ w1 ⟨b1, ⟨rfl, ⟨h1, H'⟩⟩⟩
        refine H.mergeK H' ?_
        clear H H'
        intro H
        refine Done.mk ?_
        refine ⟨b1, ?_⟩
        refine ⟨?_, ?_⟩
        · rfl
        refine ⟨?_, ?_⟩
        · (rw [InsD.mk.injEq]; simp [*]; done)
        refine H.firsts 0 ?_
        clear H
        intro H
        exact H
      replace c3 := vEq_f (c3)
      refine Done.mk ?_
      refine ⟨false, ?_⟩
      refine ⟨?_, ?_⟩
      · exact congrArg Value.bool (rfl)
      refine ⟨?_, ?_⟩
      · (rw [InsD.mk.injEq]; simp [*]; done)
      refine H.firsts 0 ?_
      clear H
      intro H
      exact H
    replace c2 := vEq_f (c2)
    refine Done.mk ?_
    refine ⟨false, ?_⟩
    refine ⟨?_, ?_⟩
    · exact congrArg Value.bool (rfl)
    refine ⟨?_, ?_⟩
    · (rw [InsD.mk.injEq]; simp [*]; done)
    refine H.firsts 0 ?_
    clear H
    intro H
    exact H
  replace c1 := vEq_f (c1)
  refine Done.mk ?_
  refine ⟨false, ?_⟩
  refine ⟨?_, ?_⟩
  · exact congrArg Value.bool (rfl)
  refine ⟨?_, ?_⟩
  · (rw [InsD.mk.injEq]; simp [*]; done)
  refine H.firsts 0 ?_
  clear H
  intro H
  exact H
end Go.Proofs.YtcpniokopahakaaDoor.Ins
/- Package nest: the walker. -/
set_option maxRecDepth 100000
set_option maxHeartbeats 4000000
set_option linter.unusedVariables false
set_option linter.unusedSimpArgs false
namespace Go.Proofs.YtcpniokopahakaaDoor.Nest
open Go Go.Proofs.YtcpniokopahakaaDoor.Eng Go.RowKit
open Ins
section
variable {g : Glob} {w : World} {l : List As} {e : TypeId} {s j h : Nat} {α : Type} {en : α → List Value} {v v' : Value} {xs : List α}
/-- A row of which a beginning is kept. -/
theorem _root_.Go.Proofs.YtcpniokopahakaaDoor.Eng.Sat.ofVw (H : Sat g w l) (j : Nat) (hj : l[j]? = some (Sl e s en v xs)) (V : Vw v s xs.length 0 h v') : Sat g w (l.set j (Sl e s en v' (xs.take h))) := by
  obtain ⟨ad, cap, hv, hh, hnc, hcm, ha, rfl⟩ := V
  have ho := H.off j hj
  refine H.slSet (lo := 0) hj ?_ (Gr.same w ?_)
  · rcases ho.1 with ⟨h1, h2⟩ | ⟨gb, o, cap', cur, h1, h2, h3, h4, h5, h6, h7⟩
    · subst h2
      rw [h1] at hv
      injection hv with e1 e2 e3
      subst e1; subst e3
      have : h = 0 := by simpa using hh
      subst this
      exact ⟨.inl ⟨rfl, by simp⟩, ho.2⟩
    · rw [h1] at hv
      injection hv with e1 e2 e3
      subst e1; subst e3
      refine ⟨.inr ⟨gb, o, cap', cur, ?_, h2, h3, h4, by rw [List.length_take]; omega, h6, ?_⟩, ho.2⟩
      · rw [List.length_take, Nat.min_eq_left hh]
        simp [Addr.add_zero']
      · rw [List.length_take, Nat.min_eq_left hh, ← flat_take ho.2 xs h hh, ← h7, List.take_take]
        congr 1
        have := Nat.mul_le_mul_right s hh
        omega
  · rcases ho.1 with ⟨h1, h2⟩ | ⟨gb, o, cap', cur, h1, h2, h3, h4, h5, h6, h7⟩
    · rw [h1] at hv
      injection hv with e1 e2 e3
      subst e1; subst e3
      left; rw [h1]; simp [Value.ownBlock]
    · rw [h1] at hv
      injection hv with e1 e2 e3
      subst e1; subst e3
      left; rw [h1]; simp [Value.ownBlock, Addr.add_zero']
end
theorem begin_ (w : World) : Fc Tryd.prog 122 #[] w (fun v w' => ∃ p vo vl, v = .pointer (some ⟨p, 0, none⟩) ∧ Sat (froz w) w' [Pt p [vo, vl, .bool false] 193, Sl 3 1 enI vo ns0.op, Sl 5 1 enK vl ns0.last]) := by
  refine Fc.of Tryd.func122 rfl (by kernel_rfl) ?_
  have H := Sat.start w
  refine rBuildSliceS H rfl rfl rfl rfl ?_
  clear H
  intro p1 w1 H
  refine rBuildSliceS H rfl rfl rfl rfl ?_
  clear H
  intro p2 w2 H
  clear w1
  refine rBuild rfl rfl rfl ?_
  refine rBoxS H ?_
  clear H
  intro p3 w1 H
  clear w2
  refine H.ptSl (n := 1) (en := enK) (s := 1) 1 rfl [_] rfl rfl (fun _ => rfl) rfl ?_
  clear H
  intro H
  refine H.ptSl (n := 1) (en := enI) (s := 1) 2 rfl [_] rfl rfl (fun _ => rfl) rfl ?_
  clear H
  intro H
  refine Done.mk ?_
  refine ⟨p3, Value.slice (some { block := p1, off := 0 }) 1 1, Value.slice (some { block := p2, off := 0 }) 1 1, ?_⟩
  refine ⟨?_, ?_⟩
  · rfl
  refine H.fronts [1, 2, 2] ?_
  clear H
  intro H
  exact H
section
variable {g : Glob} {w : World} {l : List As}
theorem nx_over {op last : List Int} {o k : Int} : nextS ⟨op, last, true⟩ o k = (⟨op, last, true⟩, -2, 4) := rfl
theorem nx_deep {op last : List Int} {o k : Int} (ho : o = 2 ∨ o = 3 ∨ o = 4) (h : 12 ≤ op.length - 1) : nextS ⟨op, last, false⟩ o k = (⟨op, last, false⟩, -2, 7) := by
  unfold nextS; rw [if_neg (by simp), if_pos ho, if_pos h]
theorem nx_open {op last : List Int} {o k : Int} (ho : o = 2 ∨ o = 3 ∨ o = 4) (h : op.length - 1 < 12) : nextS ⟨op, last, false⟩ o k = (⟨op ++ [k], last ++ [o], false⟩, -2, 0) := by
  unfold nextS; rw [if_neg (by simp), if_pos ho, if_neg (by simp only; omega)]
theorem nx_else_no {op last : List Int} {o k x : Int} (ho : o = 5) (hx : last[op.length - 1]? = some x) (h : x ≠ 4) : nextS ⟨op, last, false⟩ o k = (⟨op, last, false⟩, -2, 4) := by
  unfold nextS; rw [if_neg (by simp), if_neg (by omega), if_pos ho, if_pos (by simp only [List.getD_eq_getElem?_getD, hx]; exact h)]
theorem nx_else {op last : List Int} {o k x y : Int} (ho : o = 5) (hx : last[op.length - 1]? = some x) (h : x = 4) (hy : op[op.length - 1]? = some y) : nextS ⟨op, last, false⟩ o k = (⟨op, last.set (op.length - 1) 5, false⟩, y, 0) := by
  unfold nextS; rw [if_neg (by simp), if_neg (by omega), if_pos ho, if_neg (by simp only [List.getD_eq_getElem?_getD, hx]; simpa using h)]
  simp only [List.getD_eq_getElem?_getD, hy]; rfl
theorem nx_end {op last : List Int} {o k y : Int} (ho : o = 11) (hy : op[op.length - 1]? = some y) : nextS ⟨op, last, false⟩ o k = (⟨op.take (op.length - 1), last.take (op.length - 1), decide (op.length - 1 = 0)⟩, y, 0) := by
  unfold nextS; rw [if_neg (by simp), if_neg (by omega), if_neg (by omega), if_pos ho]
  simp only [List.getD_eq_getElem?_getD, hy]; rfl
theorem nx_end' {op last : List Int} {o k y : Int} (ho : o = 11) (hy : op[op.length - 1]? = some y) (hp : 0 < op.length) : nextS ⟨op, last, false⟩ o k = (⟨op.take (op.length - 1), last.take (op.length - 1), vEq ((op.length : Int) - 1) 0⟩, y, 0) := by
  rw [nx_end ho hy, vEq_iff, show decide ((op.length : Int) - 1 = 0) = decide (op.length - 1 = 0) from decide_eq_decide.2 (by omega)]
theorem nx_else_ {op last : List Int} {o k : Int} (h2 : o ≠ 2) (h3 : o ≠ 3) (h4 : o ≠ 4) (h5 : o ≠ 5) (h11 : o ≠ 11) : nextS ⟨op, last, false⟩ o k = (⟨op, last, false⟩, -2, 0) := by
  unfold nextS; rw [if_neg (by simp), if_neg (by omega), if_neg h5, if_neg h11]
theorem next {p : Nat} {vo vl : Value} (st : NS) (hst : NOk st) (H : Sat g w (Pt p [vo, vl, .bool st.over] 193 :: Sl 3 1 enI vo st.op :: Sl 5 1 enK vl st.last :: l)) (o a b k : Int) (tv : Value) :
    Fc Tryd.prog 124 #[.pointer (some ⟨p, 0, none⟩), .agg #[.int .u8 o, .int .i64 a, .int .i64 b, tv], .int .i64 k] w
    (fun v w' => ∃ (op' last' : List Int) (ov' : Bool) (vo' vl' : Value) (is e : Int), v = .tuple #[.int .i64 is, .int .i64 e] ∧ nextS st o k = (⟨op', last', ov'⟩, is, e) ∧ Sat g w' (Pt p [vo', vl', .bool ov'] 193 :: Sl 3 1 enI vo' op' :: Sl 5 1 enK vl' last' :: l)) := by
  refine Fc.of Tryd.func124 rfl (by kernel_rfl) ?_
  obtain ⟨hs1, hs2, hs3⟩ := hst
  obtain ⟨op, last, ov⟩ := st
  simp only at hs1 hs2 hs3 H
  cases ov
  · have hs4 := hs2 rfl
    clear hs2
    refine rBoxS H ?_
    clear H
    intro p1 w1 H
    refine rFieldAt rfl ?_
    refine rLd (H.at 1 rfl) 0 rfl rfl rfl ?_
    refine rLenS H 2 rfl rfl ?_
    refine eqI64 (by omega) ?_
    refine bk ?_
    refine rFieldAt rfl ?_
    refine rLd (H.at 1 rfl) 2 rfl rfl rfl ?_
    refine cF rfl ?_
    refine rFieldAt rfl ?_
    refine rLd (H.at 0 rfl) 0 rfl rfl rfl ?_
    refine cI (fun c1 => ?_) (fun c1 => ?_)
    · replace c1 := vEq_t (c1)
      refine cT (vEq_T (by assumption)) ?_
      refine cI (fun c2 => ?_) (fun c2 => ?_)
      · replace c2 := vLe_t (c2)
        refine Done.mk ?_
        refine ⟨op, last, false, vo, vl, -2, 7, ?_⟩
        refine ⟨?_, ?_⟩
        · rfl
        refine ⟨?_, ?_⟩
        · exact nx_deep (by omega) (by omega)
        refine H.fronts [3, 3, 3] ?_
        clear H
        intro H
        refine H.drop 3 ?_
        clear H
        intro H
        exact H
      replace c2 := vLe_f (c2)
      refine rFieldAt rfl ?_
      refine rLd (H.at 1 rfl) 0 rfl rfl rfl ?_
      refine rBuildSliceS H rfl rfl rfl rfl ?_
      clear H
      intro p2 w2 H
      clear w1
      refine rApS (ys := [_]) 8 H 3 rfl (H.at 0 rfl) rfl (fun y _ => rfl) rfl rfl rfl (by omega) (by omega) ?_
      intro v1
      clear H
      intro w1 H
      clear w2
      refine rFieldAt rfl ?_
      refine rStS H 2 rfl rfl rfl (H.one 3 rfl) ?_
      clear H
      intro w2 H
      clear w1
      refine drawzS H [] [(0, .pure), (1, .pure), (2, .pure), (3, .pure), (4, .held), (5, .pure), (6, .held), (7, .forced), (8, .free), (9, .pure), (10, .pure), (11, .free)] mixed (by kernel_rfl) (by kernel_rfl) ?_
      clear H
      intro w1 H
      clear w2
      refine tk (fun wx HS => rFieldAt rfl ⟨rfl, rfl⟩) ?_
      refine tk (fun wx HS => rLd (HS.at 2 rfl) 1 rfl rfl rfl ⟨rfl, rfl⟩) ?_
      refine tk (fun wx HS => rFieldAt rfl ⟨rfl, rfl⟩) ?_
      refine tk (fun wx HS => rLd (HS.at 1 rfl) 0 rfl rfl rfl ⟨rfl, rfl⟩) ?_
      refine rBuildSliceS H rfl rfl rfl rfl ?_
      clear H
      intro p3 w2 H
      clear w1
      refine KeepP.mk (H.drop 0 (fun H => H)) ?_
      refine rApS (ys := [_]) 1 H 5 rfl (H.at 0 rfl) rfl (fun y _ => rfl) rfl rfl rfl (by omega) (by omega) ?_
      intro v2
      clear H
      intro w1 H
      clear w2
      refine tk (fun wx HS => rFieldAt rfl ⟨rfl, rfl⟩) ?_
      refine rStS H 3 rfl rfl rfl (H.one 5 rfl) ?_
      clear H
      intro w2 H
      clear w1
      refine Done.mk ?_
      refine ⟨op ++ [k], last ++ [o], false, v1, v2, -2, 0, ?_⟩
      refine ⟨?_, ?_⟩
      · rfl
      refine ⟨?_, ?_⟩
      · exact nx_open (by omega) (by omega)
      refine H.fronts [5, 5, 5] ?_
      clear H
      intro H
      refine H.drop 5 ?_
      clear H
      intro H
      refine H.drop 4 ?_
      clear H
      intro H
      refine H.drop 3 ?_
      clear H
      intro H
      exact H
    replace c1 := vEq_f (c1)
    refine rFieldAt rfl ?_
    refine rLd (H.at 0 rfl) 0 rfl rfl rfl ?_
    refine cI (fun c2 => ?_) (fun c2 => ?_)
    · replace c2 := vEq_t (c2)
      refine cT (vEq_T (by assumption)) ?_
      refine cI (fun c3 => ?_) (fun c3 => ?_)
      · replace c3 := vLe_t (c3)
        refine Done.mk ?_
        refine ⟨op, last, false, vo, vl, -2, 7, ?_⟩
        refine ⟨?_, ?_⟩
        · rfl
        refine ⟨?_, ?_⟩
        · exact nx_deep (by omega) (by omega)
        refine H.fronts [3, 3, 3] ?_
        clear H
        intro H
        refine H.drop 3 ?_
        clear H
        intro H
        exact H
      replace c3 := vLe_f (c3)
      refine rFieldAt rfl ?_
      refine rLd (H.at 1 rfl) 0 rfl rfl rfl ?_
      refine rBuildSliceS H rfl rfl rfl rfl ?_
      clear H
      intro p2 w2 H
      clear w1
      refine rApS (ys := [_]) 8 H 3 rfl (H.at 0 rfl) rfl (fun y _ => rfl) rfl rfl rfl (by omega) (by omega) ?_
      intro v1
      clear H
      intro w1 H
      clear w2
      refine rFieldAt rfl ?_
      refine rStS H 2 rfl rfl rfl (H.one 3 rfl) ?_
      clear H
      intro w2 H
      clear w1
      refine drawzS H [] [(0, .pure), (1, .pure), (2, .pure), (3, .pure), (4, .held), (5, .pure), (6, .held), (7, .forced), (8, .free), (9, .pure), (10, .pure), (11, .free)] mixed (by kernel_rfl) (by kernel_rfl) ?_
      clear H
      intro w1 H
      clear w2
      refine tk (fun wx HS => rFieldAt rfl ⟨rfl, rfl⟩) ?_
      refine tk (fun wx HS => rLd (HS.at 2 rfl) 1 rfl rfl rfl ⟨rfl, rfl⟩) ?_
      refine tk (fun wx HS => rFieldAt rfl ⟨rfl, rfl⟩) ?_
      refine tk (fun wx HS => rLd (HS.at 1 rfl) 0 rfl rfl rfl ⟨rfl, rfl⟩) ?_
      refine rBuildSliceS H rfl rfl rfl rfl ?_
      clear H
      intro p3 w2 H
      clear w1
      refine KeepP.mk (H.drop 0 (fun H => H)) ?_
      refine rApS (ys := [_]) 1 H 5 rfl (H.at 0 rfl) rfl (fun y _ => rfl) rfl rfl rfl (by omega) (by omega) ?_
      intro v2
      clear H
      intro w1 H
      clear w2
      refine tk (fun wx HS => rFieldAt rfl ⟨rfl, rfl⟩) ?_
      refine rStS H 3 rfl rfl rfl (H.one 5 rfl) ?_
      clear H
      intro w2 H
      clear w1
      refine Done.mk ?_
      refine ⟨op ++ [k], last ++ [o], false, v1, v2, -2, 0, ?_⟩
      refine ⟨?_, ?_⟩
      · rfl
      refine ⟨?_, ?_⟩
      · exact nx_open (by omega) (by omega)
      refine H.fronts [5, 5, 5] ?_
      clear H
      intro H
      refine H.drop 5 ?_
      clear H
      intro H
      refine H.drop 4 ?_
      clear H
      intro H
      refine H.drop 3 ?_
      clear H
      intro H
      exact H
    replace c2 := vEq_f (c2)
    refine rFieldAt rfl ?_
    refine rLd (H.at 0 rfl) 0 rfl rfl rfl ?_
    refine cI (fun c3 => ?_) (fun c3 => ?_)
    · replace c3 := vEq_t (c3)
      refine cI (fun c4 => ?_) (fun c4 => ?_)
      · replace c4 := vLe_t (c4)
        refine Done.mk ?_
        refine ⟨op, last, false, vo, vl, -2, 7, ?_⟩
        refine ⟨?_, ?_⟩
        · rfl
        refine ⟨?_, ?_⟩
        · exact nx_deep (by omega) (by omega)
        refine H.fronts [3, 3, 3] ?_
        clear H
        intro H
        refine H.drop 3 ?_
        clear H
        intro H
        exact H
      replace c4 := vLe_f (c4)
      refine rFieldAt rfl ?_
      refine rLd (H.at 1 rfl) 0 rfl rfl rfl ?_
      refine rBuildSliceS H rfl rfl rfl rfl ?_
      clear H
      intro p2 w2 H
      clear w1
      refine rApS (ys := [_]) 8 H 3 rfl (H.at 0 rfl) rfl (fun y _ => rfl) rfl rfl rfl (by omega) (by omega) ?_
      intro v1
      clear H
      intro w1 H
      clear w2
      refine rFieldAt rfl ?_
      refine rStS H 2 rfl rfl rfl (H.one 3 rfl) ?_
      clear H
      intro w2 H
      clear w1
      refine drawzS H [] [(0, .pure), (1, .pure), (2, .pure), (3, .pure), (4, .held), (5, .pure), (6, .held), (7, .forced), (8, .free), (9, .pure), (10, .pure), (11, .free)] mixed (by kernel_rfl) (by kernel_rfl) ?_
      clear H
      intro w1 H
      clear w2
      refine tk (fun wx HS => rFieldAt rfl ⟨rfl, rfl⟩) ?_
      refine tk (fun wx HS => rLd (HS.at 2 rfl) 1 rfl rfl rfl ⟨rfl, rfl⟩) ?_
      refine tk (fun wx HS => rFieldAt rfl ⟨rfl, rfl⟩) ?_
      refine tk (fun wx HS => rLd (HS.at 1 rfl) 0 rfl rfl rfl ⟨rfl, rfl⟩) ?_
      refine rBuildSliceS H rfl rfl rfl rfl ?_
      clear H
      intro p3 w2 H
      clear w1
      refine KeepP.mk (H.drop 0 (fun H => H)) ?_
      refine rApS (ys := [_]) 1 H 5 rfl (H.at 0 rfl) rfl (fun y _ => rfl) rfl rfl rfl (by omega) (by omega) ?_
      intro v2
      clear H
      intro w1 H
      clear w2
      refine tk (fun wx HS => rFieldAt rfl ⟨rfl, rfl⟩) ?_
      refine rStS H 3 rfl rfl rfl (H.one 5 rfl) ?_
      clear H
      intro w2 H
      clear w1
      refine Done.mk ?_
      refine ⟨op ++ [k], last ++ [o], false, v1, v2, -2, 0, ?_⟩
      refine ⟨?_, ?_⟩
      · rfl
      refine ⟨?_, ?_⟩
      · exact nx_open (by omega) (by omega)
      refine H.fronts [5, 5, 5] ?_
      clear H
      intro H
      refine H.drop 5 ?_
      clear H
      intro H
      refine H.drop 4 ?_
      clear H
      intro H
      refine H.drop 3 ?_
      clear H
      intro H
      exact H
    replace c3 := vEq_f (c3)
    refine rFieldAt rfl ?_
    refine rLd (H.at 0 rfl) 0 rfl rfl rfl ?_
    refine cI (fun c4 => ?_) (fun c4 => ?_)
    · replace c4 := vEq_t (c4)
      refine rFieldAt rfl ?_
      refine rLd (H.at 1 rfl) 1 rfl rfl rfl ?_
      obtain ⟨x1, hx1⟩ : ∃ x, (last)[((op.length) - 1)]? = some x := ⟨_, List.getElem?_eq_getElem (by omega)⟩
      obtain ⟨b1, o1, E1⟩ := H.elt 3 rfl ((op.length) - 1) (by omega)
      refine rIxE E1 (by omega) rfl rfl ?_
      refine rLd (H.el 3 rfl E1 hx1) 0 rfl rfl rfl ?_
      refine cI (fun c5 => ?_) (fun c5 => ?_)
      · replace c5 := vNe_t (c5)
        refine Done.mk ?_
        refine ⟨op, last, false, vo, vl, -2, 4, ?_⟩
        refine ⟨?_, ?_⟩
        · rfl
        refine ⟨?_, ?_⟩
        · exact nx_else_no (by omega) hx1 (by assumption)
        refine H.fronts [3, 3, 3] ?_
        clear H
        intro H
        refine H.drop 3 ?_
        clear H
        intro H
        exact H
      replace c5 := vNe_f (c5)
      refine rFieldAt rfl ?_
      refine rLd (H.at 1 rfl) 1 rfl rfl rfl ?_
      refine rIxE E1 (by omega) rfl rfl ?_
      refine rStE H 3 rfl E1 hx1 0 (5) rfl rfl rfl rfl ?_
      clear H
      intro w2 H
      clear w1
      refine rFieldAt rfl ?_
      refine rLd (H.at 1 rfl) 0 rfl rfl rfl ?_
      obtain ⟨x2, hx2⟩ : ∃ x, (op)[((op.length) - 1)]? = some x := ⟨_, List.getElem?_eq_getElem (by omega)⟩
      obtain ⟨b2, o2, E2⟩ := H.elt 2 rfl ((op.length) - 1) (by omega)
      refine rIxE E2 (by omega) rfl rfl ?_
      refine rLd (H.el 2 rfl E2 hx2) 0 rfl rfl rfl ?_
      refine Done.mk ?_
      refine ⟨op, last.set (op.length - 1) 5, false, vo, vl, x2, 0, ?_⟩
      refine ⟨?_, ?_⟩
      · rfl
      refine ⟨?_, ?_⟩
      · exact nx_else (by omega) hx1 (by assumption) (by assumption)
      refine H.fronts [3, 3, 3] ?_
      clear H
      intro H
      refine H.drop 3 ?_
      clear H
      intro H
      exact H
    replace c4 := vEq_f (c4)
    refine rFieldAt rfl ?_
    refine rLd (H.at 0 rfl) 0 rfl rfl rfl ?_
    refine cI (fun c5 => ?_) (fun c5 => ?_)
    · replace c5 := vEq_t (c5)
      refine rFieldAt rfl ?_
      refine rLd (H.at 1 rfl) 0 rfl rfl rfl ?_
      obtain ⟨x1, hx1⟩ : ∃ x, (op)[((op.length) - 1)]? = some x := ⟨_, List.getElem?_eq_getElem (by omega)⟩
      obtain ⟨b1, o1, E1⟩ := H.elt 2 rfl ((op.length) - 1) (by omega)
      refine rIxE E1 (by omega) rfl rfl ?_
      refine rLd (H.el 2 rfl E1 hx1) 0 rfl rfl rfl ?_
      refine drawzS H [] [(0, .pure), (1, .pure), (2, .pure), (3, .pure), (4, .pure), (5, .held), (6, .pure), (7, .pure), (8, .pure), (9, .pure), (10, .pure), (11, .held), (12, .pure), (13, .pure), (14, .pure), (15, .pure), (16, .free), (17, .pure), (18, .pure), (19, .free)] mixed (by kernel_rfl) (by kernel_rfl) ?_
      clear H
      intro w2 H
      clear w1
      refine tk (fun wx HS => rFieldAt rfl ⟨rfl, rfl⟩) ?_
      refine tk (fun wx HS => rLd (HS.at 1 rfl) 0 rfl rfl rfl ⟨rfl, rfl⟩) ?_
      obtain ⟨v1, V1⟩ := H.vw 2 rfl (0) (((op.length) - 1)) (by omega) (by omega)
      refine tk (fun wx HS => rSlVw V1 rfl rfl (.inl ⟨rfl, rfl⟩) (.inr ⟨_, by first | rfl | (congr 2; omega)⟩) ⟨rfl, rfl⟩) ?_
      refine tk (fun wx HS => rFieldAt rfl ⟨rfl, rfl⟩) ?_
      refine tk (fun wx HS => rLd (HS.at 1 rfl) 1 rfl rfl rfl ⟨rfl, rfl⟩) ?_
      obtain ⟨v2, V2⟩ := H.vw 3 rfl (0) (((op.length) - 1)) (by omega) (by omega)
      refine tk (fun wx HS => rSlVw V2 rfl rfl (.inl ⟨rfl, rfl⟩) (.inr ⟨_, by first | rfl | (congr 2; omega)⟩) ⟨rfl, rfl⟩) ?_
      refine tk (fun wx HS => rFieldAt rfl ⟨rfl, rfl⟩) ?_
      refine rStS H 1 rfl rfl rfl (by simp only [Bool.and_true, H.one 2 rfl, H.one 3 rfl, Vw.one V2, Vw.one V1]) ?_
      clear H
      intro w1 H
      clear w2
      refine tk (fun wx HS => rFieldAt rfl ⟨rfl, rfl⟩) ?_
      refine rStS H 1 rfl rfl rfl (by simp only [Bool.and_true, H.one 2 rfl, H.one 3 rfl, Vw.one V2, Vw.one V1]) ?_
      clear H
      intro w2 H
      clear w1
      refine rFieldAt rfl ?_
      refine rStS H 1 rfl rfl rfl rfl ?_
      clear H
      intro w1 H
      clear w2
      refine Done.mk ?_
      exact ⟨_, _, _, v1, v2, _, _, rfl, nx_end' (by omega) hx1 hs4, ((H.ofVw 2 rfl V1).ofVw 3 rfl V2).del 0⟩
    replace c5 := vEq_f (c5)
    refine Done.mk ?_
    refine ⟨op, last, false, vo, vl, -2, 0, ?_⟩
    refine ⟨?_, ?_⟩
    · rfl
    refine ⟨?_, ?_⟩
    · exact nx_else_ (by omega) (by omega) (by omega) (by omega) (by omega)
    refine H.fronts [3, 3, 3] ?_
    clear H
    intro H
    refine H.drop 3 ?_
    clear H
    intro H
    exact H
  · refine rBoxS H ?_
    clear H
    intro p1 w1 H
    refine rFieldAt rfl ?_
    refine rLd (H.at 1 rfl) 0 rfl rfl rfl ?_
    refine rLenS H 2 rfl rfl ?_
    refine eqI64 (by omega) ?_
    refine bk ?_
    refine rFieldAt rfl ?_
    refine rLd (H.at 1 rfl) 2 rfl rfl rfl ?_
    refine cT rfl ?_
    refine Done.mk ?_
    refine ⟨op, last, true, vo, vl, -2, 4, ?_⟩
    refine ⟨?_, ?_⟩
    · rfl
    refine ⟨?_, ?_⟩
    · rfl
    refine H.fronts [3, 3, 3] ?_
    clear H
    intro H
    refine H.drop 3 ?_
    clear H
    intro H
    exact H
end
end Go.Proofs.YtcpniokopahakaaDoor.Nest
/- Package nest: Check alone. -/
set_option maxRecDepth 100000
set_option maxHeartbeats 4000000
set_option linter.unusedVariables false
set_option linter.unusedSimpArgs false
namespace Go.Proofs.YtcpniokopahakaaDoor.Nest
open Go Go.Proofs.YtcpniokopahakaaDoor.Eng Go.RowKit
open Ins
section
variable {g : Glob} {w : World} {l : List As}
theorem map_get {xs : List InsV} {k : Nat} {x : InsV} (h : xs[k]? = some x) : (xs.map InsV.d)[k]? = some x.d := by rw [List.getElem?_map, h]; rfl
theorem dd (x : InsV) : (⟨x.op, x.a, x.b, x.to⟩ : InsD) = x.d := rfl
section
variable {xs : List InsV} {k : Nat} {x : InsV} {r is e : Int} {st st' : NS}
theorem ck1 (hl : xs.length ≤ 200) (hF : SoFar (xs.map InsV.d) k) (hx : xs[k]? = some x) (h : r = chk ⟨x.op, x.a, x.b, x.to⟩) (hr : r ≠ 0) : r = chkB (xs.map InsV.d) := by
  rw [dd] at h
  rw [chkB_chk (by simpa using hl) hF (map_get hx) (h ▸ hr), h]
theorem ck2 (hl : xs.length ≤ 200) (hF : SoFar (xs.map InsV.d) k) (hx : xs[k]? = some x) (h : r = chk ⟨x.op, x.a, x.b, x.to⟩) (hr : r = 0) (hst : stB (xs.map InsV.d) k = st) (hn : nextS st x.op k = (st', is, e)) (he : e ≠ 0) : e = chkB (xs.map InsV.d) := by
  rw [dd, hr] at h
  have hn' : nextS (stB (xs.map InsV.d) k) x.d.op k = (st', is, e) := by rw [hst]; exact hn
  rw [chkB_next (by simpa using hl) hF (map_get hx) h.symm (by rw [hn']; exact he), hn']
theorem ck3 (hx : xs[k]? = some x) (hst : stB (xs.map InsV.d) k = st) (hn : nextS st x.op k = (st', is, e)) : stB (xs.map InsV.d) (k + 1) = st' := by
  rw [stB_succ (map_get hx), hst]; show (nextS st x.op k).1 = _; rw [hn]
theorem ck4 (hF : SoFar (xs.map InsV.d) k) (hx : xs[k]? = some x) (h : r = chk ⟨x.op, x.a, x.b, x.to⟩) (hr : r = 0) (hst : stB (xs.map InsV.d) k = st) (hn : nextS st x.op k = (st', is, e)) (he : e = 0) : SoFar (xs.map InsV.d) (k + 1) := by
  rw [dd, hr] at h
  exact hF.succ (map_get hx) h.symm (by rw [hst]; show (nextS st x.op k).2.2 = 0; rw [hn]; exact he)
theorem ck5 {op last : List Int} {ov : Bool} (hl : xs.length ≤ 200) (hF : SoFar (xs.map InsV.d) k) (hk : k = xs.length) (hst : stB (xs.map InsV.d) k = ⟨op, last, ov⟩) (ho : ov = false) : 3 = chkB (xs.map InsV.d) := by
  rw [chkB_end (by simpa using hl) hF (by simpa using hk), hst, ho]; rfl
theorem ck6 {op last : List Int} {ov : Bool} (hl : xs.length ≤ 200) (hF : SoFar (xs.map InsV.d) k) (hk : k = xs.length) (hst : stB (xs.map InsV.d) k = ⟨op, last, ov⟩) (ho : ov = true) : 0 = chkB (xs.map InsV.d) := by
  rw [chkB_end (by simpa using hl) hF (by simpa using hk), hst, ho]; rfl
end
theorem check (H : Sat g w l) (v : Value) (xs : List InsV) (hx : FSl g enV (okV g) 4 v xs) : Fc Tryd.prog 74 #[v] w (fun r w' => (∃ e, r = .int .i64 e ∧ e = chkB (xs.map InsV.d)) ∧ Sat g w' l) := by
  refine Fc.of Tryd.func74 rfl (by kernel_rfl) ?_
  have hml : (xs.map InsV.d).length = xs.length := List.length_map ..
  refine rLenF hx rfl ?_
  refine cI (fun c1 => ?_) (fun c1 => ?_)
  · replace c1 := vLt_t (c1)
    refine Done.mk ?_
    refine ⟨?_, ?_⟩
    · refine ⟨2, ?_⟩
      refine ⟨?_, ?_⟩
      · refine int_eq ?_
        omega
      exact (chkB_large (by omega)).symm
    exact H
  replace c1 := vLt_f (c1)
  refine CallP.mk (Fc.imp (Go.Proofs.YtcpniokopahakaaDoor.Nest.begin_ _) ?_)
  rintro _ w1 ⟨p1, ⟨vo1, ⟨vl1, ⟨rfl, H'⟩⟩⟩⟩
  refine H.mergeK H' ?_
  clear H H'
  intro H
  refine rLenF hx rfl ?_
  refine LoopP.rule (α := Nat × List Int × List Int × Bool × Value × Value) (0, ns0.op, ns0.last, ns0.over, vo1, vl1) (fun x_ => [(15, .int .i64 x_.1)]) (fun x_ w_ => (x_.1 ≤ xs.length) ∧ (stB (xs.map InsV.d) x_.1 = ⟨x_.2.1, x_.2.2.1, x_.2.2.2.1⟩) ∧ (SoFar (xs.map InsV.d) x_.1) ∧ Sat g w_ ((Pt p1 [x_.2.2.2.2.1, x_.2.2.2.2.2, .bool x_.2.2.2.1] 193 :: Sl 3 1 enI x_.2.2.2.2.1 x_.2.1 :: Sl 5 1 enK x_.2.2.2.2.2 x_.2.2.1 :: l))) (fun x_ => xs.length - x_.1) ?_ ?_ ?_
  · repeat first | exact mt_nil | refine mt_cons rfl ?_ | refine mt_i rfl (by first | omega | (simp only; omega) | (simp; omega) | (simp; done)) ?_
  · try simp only
    refine ⟨?_, ?_⟩
    · omega
    refine ⟨?_, ?_⟩
    · rfl
    refine ⟨?_, ?_⟩
    · exact SoFar.zero _
    exact H
  clear H
  rintro ⟨k, op, last, ov, vo, vl⟩ f_ w_ ⟨hk, hst, hF, H⟩
  try simp only at hk hst hF H ⊢
  have hok := stB_ok (xs.map InsV.d) k
  rw [hst] at hok
  refine cI (fun c2 => ?_) (fun c2 => ?_)
  · replace c2 := vLt_t (c2)
    refine bk ?_
    obtain ⟨x1, hx1⟩ : ∃ x, (xs)[(k)]? = some x := ⟨_, List.getElem?_eq_getElem (by omega)⟩
    obtain ⟨b1, o1, E1, F1, hok1⟩ := FSl.elt hx hx1
    have hok1_op := hok1.op
    have hok1_a := hok1.a
    have hok1_b := hok1.b
    have hok1_to := hok1.to
    refine rIxE E1 rfl rfl rfl ?_
    refine rLdA (H.fat F1) 0 rfl rfl rfl ?_
    refine rAllocS H rfl ?_
    clear H
    intro p2 w2 H
    clear w_
    refine rStAS H 0 rfl rfl rfl (by simp only [List.all_cons, List.all_nil, H.one 2 rfl, H.one 3 rfl, FSl.one hok1_to, FSl.one hx]; rfl) ?_
    clear H
    intro w3 H
    clear w2
    refine rLdA (H.at 0 rfl) 0 rfl rfl rfl ?_
    refine CallP.mk (Fc.imp (Go.Proofs.YtcpniokopahakaaDoor.Ins.check _ _ _ _ _ _ ?_ (H.rd hok1_to)) ?_)
    · assumption
    rintro _ w2 ⟨⟨r1, ⟨rfl, h1⟩⟩, H'⟩
    refine H.mergeK H' ?_
    clear H H'
    intro H
    refine cI (fun c3 => ?_) (fun c3 => ?_)
    · replace c3 := vNe_t (c3)
      refine Done.mk ?_
      refine ⟨?_, ?_⟩
      · refine ⟨r1, ?_⟩
        refine ⟨?_, ?_⟩
        · refine int_eq ?_
          omega
        exact ck1 (by omega) hF hx1 h1 (by assumption)
      refine H.drop 3 ?_
      clear H
      intro H
      refine H.drop 2 ?_
      clear H
      intro H
      refine H.drop 1 ?_
      clear H
      intro H
      refine H.drop 0 ?_
      clear H
      intro H
      exact H
    replace c3 := vNe_f (c3)
    refine rLdA (H.at 0 rfl) 0 rfl rfl rfl ?_
    refine H.fronts [3, 3, 3] ?_
    clear H
    intro H
    refine CallP.mk (Fc.imp (Go.Proofs.YtcpniokopahakaaDoor.Nest.next _ hok H _ _ _ _ _) ?_)
    clear H
    rintro _ w4 ⟨op'1, ⟨last'1, ⟨ov'1, ⟨vo'1, ⟨vl'1, ⟨is1, ⟨e1, ⟨rfl, ⟨h2, H⟩⟩⟩⟩⟩⟩⟩⟩⟩
    refine cI (fun c4 => ?_) (fun c4 => ?_)
    · replace c4 := vNe_t (c4)
      refine Done.mk ?_
      refine ⟨?_, ?_⟩
      · refine ⟨e1, ?_⟩
        refine ⟨?_, ?_⟩
        · refine int_eq ?_
          omega
        exact ck2 (by omega) hF hx1 h1 (by assumption) hst h2 (by assumption)
      refine H.drop 3 ?_
      clear H
      intro H
      refine H.drop 2 ?_
      clear H
      intro H
      refine H.drop 1 ?_
      clear H
      intro H
      refine H.drop 0 ?_
      clear H
      intro H
      exact H
    replace c4 := vNe_f (c4)
    refine eqI64 (by omega) ?_
    refine Nxt.mk ((k + 1, op'1, last'1, ov'1, vo'1, vl'1)) (mt_i rfl (by first | omega | (simp only; omega) | (simp; omega)) (mt_nil)) ?_ ?_
    · refine ⟨?_, ?_⟩
      · omega
      refine ⟨?_, ?_⟩
      · exact ck3 hx1 hst h2
      refine ⟨?_, ?_⟩
      · exact ck4 hF hx1 h1 (by assumption) hst h2 (by assumption)
      refine H.drop 3 ?_
      clear H
      intro H
      exact H
    omega
  replace c2 := vLt_f (c2)
  refine rFieldAt rfl ?_
  refine rLd (H.at 0 rfl) 2 rfl rfl rfl ?_
  refine cI (fun c3 => ?_) (fun c3 => ?_)
  · replace c3 := not_t (c3)
    refine Done.mk ?_
    refine ⟨?_, ?_⟩
    · refine ⟨3, ?_⟩
      refine ⟨?_, ?_⟩
      · refine int_eq ?_
        omega
      exact ck5 (by omega) hF (by omega) hst (by assumption)
    refine H.drop 2 ?_
    clear H
    intro H
    refine H.drop 1 ?_
    clear H
    intro H
    refine H.drop 0 ?_
    clear H
    intro H
    exact H
  replace c3 := not_f (c3)
  refine Done.mk ?_
  refine ⟨?_, ?_⟩
  · refine ⟨0, ?_⟩
    refine ⟨?_, ?_⟩
    · refine int_eq ?_
      omega
    exact ck6 (by omega) hF (by omega) hst (by assumption)
  refine H.drop 2 ?_
  clear H
  intro H
  refine H.drop 1 ?_
  clear H
  intro H
  refine H.drop 0 ?_
  clear H
  intro H
  exact H
end
end Go.Proofs.YtcpniokopahakaaDoor.Nest
/- What package num computes, in plain Lean. -/
set_option linter.unusedVariables false
namespace Go.Proofs.YtcpniokopahakaaDoor.Num
open Go Go.Proofs.YtcpniokopahakaaDoor.Eng
def rkS (u : IntKind) (M : Int) (which a b : Int) : Int :=
  if which = 0 then vWrap u (a + b) else if which = 1 then vWrap u (a - b) else if which = 2 then vWrap u (a * b)
  else if which = 7 then vAnd u a b else if which = 8 then vOr u a b else if which = 9 then vXor u a b
  else if which = 10 then vShl u a (b % M)
  else if which = 11 then if 0 < b % M ∧ vShr u a (M - 1) ≠ 0 then vOr u (vShr u a (b % M)) (vShl u u.max (M - b % M)) else vShr u a (b % M)
  else if which = 12 then vShr u a (b % M)
  else if which = 13 then vOr u (vShl u a (b % M)) (vShr u a (M - b % M))
  else vOr u (vShr u a (b % M)) (vShl u a (M - b % M))
def b2i (b : Bool) : Int := if b then 1 else 0
def cmpS (which a b ua ub : Int) : Int :=
  if which = 0 then b2i (decide (a = b)) else if which = 1 then b2i (!decide (a = b)) else if which = 2 then b2i (decide (a < b)) else if which = 3 then b2i (decide (ua < ub))
  else if which = 4 then b2i (decide (b < a)) else if which = 5 then b2i (decide (ub < ua)) else if which = 6 then b2i (decide (a ≤ b)) else if which = 7 then b2i (decide (ua ≤ ub))
  else if which = 8 then b2i (decide (b ≤ a)) else b2i (decide (ub ≤ ua))
/-- The signed kind k, as a quotient's value. -/
def divS (k : IntKind) (which a b ua ub : Int) : Int × Int :=
  if b = 0 then (0, 21)
  else if which = 0 then if b = -1 ∧ a ≠ 0 ∧ a = vWrap k (0 - a) then (0, 22) else (vWrap .i64 (vQuo k a b), 0)
  else if which = 1 then (vWrap .i64 (vQuo (if k = .i32 then .u32 else .u64) ua ub), 0)
  else if which = 2 then if b = -1 then (0, 0) else (vWrap .i64 (vRem a b), 0)
  else (vWrap .i64 (vRem ua ub), 0)
def twoS (op a b : Int) : Int × Int :=
  if 70 ≤ op ∧ op ≤ 79 then (cmpS (op - 70) (vWrap .i32 a) (vWrap .i32 b) (vWrap .u32 a) (vWrap .u32 b), 0)
  else if 81 ≤ op ∧ op ≤ 90 then (cmpS (op - 81) a b (vWrap .u64 a) (vWrap .u64 b), 0)
  else if 109 ≤ op ∧ op ≤ 112 then (vWrap .i64 (vWrap .i32 (divS .i32 (op - 109) (vWrap .i32 a) (vWrap .i32 b) (vWrap .u32 a) (vWrap .u32 b)).1), (divS .i32 (op - 109) (vWrap .i32 a) (vWrap .i32 b) (vWrap .u32 a) (vWrap .u32 b)).2)
  else if 127 ≤ op ∧ op ≤ 130 then divS .i64 (op - 127) a b (vWrap .u64 a) (vWrap .u64 b)
  else if 106 ≤ op ∧ op ≤ 120 then (vWrap .i64 (vWrap .i32 (rkS .u32 32 (op - 106) (vWrap .u32 a) (vWrap .u32 b))), 0)
  else if 124 ≤ op ∧ op ≤ 138 then (vWrap .i64 (rkS .u64 64 (op - 124) (vWrap .u64 a) (vWrap .u64 b)), 0)
  else (0, 6)
def widthS (op : Int) (wide : Bool) : Int := if wide then (if op < 80 then op + 11 else op + 18) else op
def fitS (wide : Bool) (x : Int) : Int := if wide then x else vWrap .i64 (vWrap .i32 x)
theorem wz32 {b : Int} (hb : -2147483648 ≤ b ∧ b ≤ 2147483647) (hz : b ≠ 0) : vWrap .u32 b ≠ 0 := by
  unfold vWrap; simp [IntKind.wrap, IntKind.bits, IntKind.signed]; omega
theorem wz64 {b : Int} (hb : -9223372036854775808 ≤ b ∧ b ≤ 9223372036854775807) (hz : b ≠ 0) : vWrap .u64 b ≠ 0 := by
  unfold vWrap; simp [IntKind.wrap, IntKind.bits, IntKind.signed]; omega
theorem ww32 (b : Int) : vWrap .u32 b = vWrap .u32 (vWrap .i32 b) := by
  unfold vWrap; simp [IntKind.wrap, IntKind.bits, IntKind.signed]; omega
theorem vQuo64 (a b : Int) : -9223372036854775808 ≤ vQuo .i64 a b ∧ vQuo .i64 a b ≤ 9223372036854775807 := by
  have := vWrap_range .i64 (a.tdiv b); unfold vWrap at this; unfold vQuo; exact this
theorem vRem64 {a b : Int} (ha : -9223372036854775808 ≤ a ∧ a ≤ 9223372036854775807) : -9223372036854775808 ≤ vRem a b ∧ vRem a b ≤ 9223372036854775807 := by
  unfold vRem
  have h1 := Int.natAbs_tmod a b
  have h2 : a.natAbs % b.natAbs ≤ a.natAbs := Nat.mod_le _ _
  rcases Int.lt_or_le a 0 with h | h
  · have h3 := Int.tmod_nonneg b (show 0 ≤ -a by omega)
    rw [Int.neg_tmod] at h3
    omega
  · have := Int.tmod_nonneg b h
    omega
end Go.Proofs.YtcpniokopahakaaDoor.Num
/- Slices of frozen slices in a region. -/
set_option maxRecDepth 100000
set_option linter.unusedVariables false
namespace Go.Proofs.YtcpniokopahakaaDoor.Eng
open Go Go.RowKit
section
variable {P : Program} {g : Glob} {α : Type} {en : α → List Value} {ok : α → Prop} {s : Nat} {t e : TypeId} {v : Value} {xs : List α} {K : Value → Prop} {S : World → Prop}
theorem tkSlF {lo hi : Option Value} (hs : FSl g en ok s v xs) (a h : Nat) (ht : P.underlying t = some (.slice e)) (hsz : (P.info? e).map (fun i => i.size) = some s) (ha : a ≤ h) (hh : h ≤ xs.length)
    (hlo : lo = none ∧ a = 0 ∨ ∃ k, lo = some (.int k a)) (hhi : hi = none ∧ h = xs.length ∨ ∃ k, hi = some (.int k h)) (k : ∀ v', FSl g en ok s v' ((xs.take h).drop a) → K v') : TkP P S (Instr.sliceAt t v lo hi none) K := by
  obtain ⟨ad, cap, rfl, h2, h3, h4⟩ := hs
  refine TkP.of _ (fun w _ => ?_) (k _ (slr_part (sz := s) ⟨ad, cap, rfl, h2, h3, h4⟩ ha hh))
  refine rSlB (cap := cap) (l := a) (h := h) (m := cap) ht hsz ?_ ⟨rfl, rfl⟩
  unfold Instr.sliceBounds
  rcases hlo with ⟨rfl, rfl⟩ | ⟨kl, rfl⟩ <;> rcases hhi with ⟨rfl, rfl⟩ | ⟨kh, rfl⟩
  · simp
  · simp [run_sliceBound (P := P) w kh (h : Int) cap _ (by omega) (by omega)]
  · simp [run_sliceBound (P := P) w kl (a : Int) xs.length _ (by omega) (by omega)]
  · simp [run_sliceBound (P := P) w kh (h : Int) cap _ (by omega) (by omega), run_sliceBound (P := P) w kl (a : Int) h _ (by omega) (by omega)]
end
end Go.Proofs.YtcpniokopahakaaDoor.Eng
