/- Bits of numbers that are not negative, and conversions that cut. -/
import Derived.Test.YtcpniokopahakaaDoorSepStr
import Derived.Test.YtcpniokopahakaaDoorBits
set_option linter.unusedVariables false
set_option linter.unusedSimpArgs false
namespace Go.Proofs.YtcpniokopahakaaDoor.Eng
open Go Go.RowKit
section
variable {P : Program} {w : World} {K : Int → Prop} {KV : Value → World → Prop}
theorem ofInt_small (k : IntKind) {a : Nat} (h : (a : Int) ≤ k.max) : (BitVec.ofInt k.bits (a : Int)).toNat = a := by
  have hmax : k.max < 2 ^ k.bits := by cases k <;> decide
  have := ofInt_toNat k.bits a
  rw [Int.emod_eq_of_lt (by omega) (by omega)] at this
  omega
theorem wrap_small (k : IntKind) {a : Nat} (h : (a : Int) ≤ k.max) : k.wrap (a : Int) = a := by
  have := vWrap_id (k := k) (n := (a : Int)) (by
    have : k.min ≤ 0 := by cases k <;> decide
    omega) h
  unfold vWrap at this
  exact this
theorem wrap_small' (k : IntKind) {a : Nat} (h : (a : Int) ≤ k.max) : vWrap k (a : Int) = a := by
  unfold vWrap; exact wrap_small k h
theorem xorN (k : IntKind) (m : Nat) (hm : k.max = 2 ^ m - 1) {a b : Nat} (ha : (a : Int) ≤ k.max) (hb : (b : Int) ≤ k.max) : vXor k a b = ((a ^^^ b : Nat) : Int) ∧ ((a ^^^ b : Nat) : Int) ≤ k.max := by
  have p : ((2 ^ m : Nat) : Int) = 2 ^ m := by norm_cast
  have h1 : a < 2 ^ m := by omega
  have h2 : b < 2 ^ m := by omega
  have h3 := Nat.xor_lt_two_pow h1 h2
  have h4 : ((a ^^^ b : Nat) : Int) ≤ k.max := by omega
  refine ⟨?_, h4⟩
  unfold vXor
  rw [BitVec.toNat_xor, ofInt_small k ha, ofInt_small k hb, wrap_small k h4]
theorem orN (k : IntKind) (m : Nat) (hm : k.max = 2 ^ m - 1) {a b : Nat} (ha : (a : Int) ≤ k.max) (hb : (b : Int) ≤ k.max) : vOr k a b = ((a ||| b : Nat) : Int) ∧ ((a ||| b : Nat) : Int) ≤ k.max := by
  have p : ((2 ^ m : Nat) : Int) = 2 ^ m := by norm_cast
  have h1 : a < 2 ^ m := by omega
  have h2 : b < 2 ^ m := by omega
  have h3 := Nat.or_lt_two_pow h1 h2
  have h4 : ((a ||| b : Nat) : Int) ≤ k.max := by omega
  refine ⟨?_, h4⟩
  unfold vOr
  rw [BitVec.toNat_or, ofInt_small k ha, ofInt_small k hb, wrap_small k h4]
theorem andN (k : IntKind) {a b : Nat} (ha : (a : Int) ≤ k.max) (hb : (b : Int) ≤ k.max) : vAnd k a b = ((a &&& b : Nat) : Int) := by
  have h3 : a &&& b ≤ a := Nat.and_le_left
  have h4 : ((a &&& b : Nat) : Int) ≤ k.max := by omega
  unfold vAnd
  rw [BitVec.toNat_and, ofInt_small k ha, ofInt_small k hb, wrap_small k h4]
theorem xor_ones (n : Nat) {a : Nat} (h : a < 2 ^ n) : (2 ^ n - 1) ^^^ a = 2 ^ n - 1 - a := by
  apply Nat.eq_of_testBit_eq
  intro i
  rw [Nat.testBit_xor, Nat.testBit_two_pow_sub_one, show 2 ^ n - 1 - a = 2 ^ n - (a + 1) by omega, Nat.testBit_two_pow_sub_succ h]
  by_cases hi : i < n
  · simp [hi]
  · have : a.testBit i = false := Nat.testBit_lt_two_pow (Nat.lt_of_lt_of_le h (Nat.pow_le_pow_right (by decide) (by omega)))
    simp [hi, this]
theorem byteIs {x : Int} {n : Nat} (h : x = (n : Int) % 256) : x = ((UInt8.ofNat n).toNat : Int) := by
  rw [UInt8.toNat_ofNat', h]; exact (Int.natCast_emod n 256).symm
/-- a mask of the lowest n bits -/
theorem eqAndMask {k : IntKind} {x y : Int} (n : Nat) (M : Int) (hM : M = 2 ^ n) (hy : y = M - 1) (hn : n < k.bits) (h : K (x % M)) : EqP (vAnd k x y) K := ⟨_, by rw [hy, hM]; exact vAnd_mask k x n hn, hM ▸ h⟩
theorem eqShrL {k : IntKind} {x y : Int} (n : Nat) (M : Int) (hM : M = 2 ^ n) (hy : y = n) (hn : n ≤ k.bits) (h : K (x / M)) : EqP (vShr k x y) K := ⟨_, by rw [hy]; exact vShr_eq k x n hn, hM ▸ h⟩
theorem eqShrN {k : IntKind} {x y : Int} (a n : Nat) (hx : x = a) (hy : y = n) (hn : n ≤ k.bits) (h : K ((a / 2 ^ n : Nat) : Int)) : EqP (vShr k x y) K := ⟨_, by rw [hx, hy, vShr_eq k a n hn]; norm_cast, h⟩
theorem toNat_shl (k : IntKind) (x : Int) (n : Nat) : vShl k x n = vWrap k (x * 2 ^ min n k.bits) := by unfold vShl vWrap; rw [Int.toNat_natCast]

theorem eqXorU8 {x y : Int} (a b : Nat) (hx : x = a) (hy : y = b) (ha : a ≤ 255) (hb : b ≤ 255) (h : a ^^^ b ≤ 255 → K ((a ^^^ b : Nat) : Int)) : EqP (vXor .u8 x y) K := by
  obtain ⟨e, hl⟩ := xorN .u8 8 rfl (a := a) (b := b) (by show (a : Int) ≤ 255; omega) (by show (b : Int) ≤ 255; omega)
  have hl : ((a ^^^ b : Nat) : Int) ≤ 255 := hl
  exact ⟨_, by rw [hx, hy, e], h (by omega)⟩
theorem eqOrU8 {x y : Int} (a b : Nat) (hx : x = a) (hy : y = b) (ha : a ≤ 255) (hb : b ≤ 255) (h : a ||| b ≤ 255 → K ((a ||| b : Nat) : Int)) : EqP (vOr .u8 x y) K := by
  obtain ⟨e, hl⟩ := orN .u8 8 rfl (a := a) (b := b) (by show (a : Int) ≤ 255; omega) (by show (b : Int) ≤ 255; omega)
  have hl : ((a ||| b : Nat) : Int) ≤ 255 := hl
  exact ⟨_, by rw [hx, hy, e], h (by omega)⟩
theorem eqAndU8 {x y : Int} (a b : Nat) (hx : x = a) (hy : y = b) (ha : a ≤ 255) (hb : b ≤ 255) (h : a &&& b ≤ a → a &&& b ≤ b → K ((a &&& b : Nat) : Int)) : EqP (vAnd .u8 x y) K :=
  ⟨_, by rw [hx, hy, andN .u8 (by show (a : Int) ≤ 255; omega) (by show (b : Int) ≤ 255; omega)], h Nat.and_le_left Nat.and_le_right⟩
theorem eqShlU8 {x y : Int} (n : Nat) (M : Int) (hM : M = 2 ^ n) (hy : y = n) (hn : n ≤ 8) (h0 : 0 ≤ x) (h1 : x * M ≤ 255) (h : K (x * M)) : EqP (vShl .u8 x y) K := by
  refine ⟨_, ?_, h⟩
  have hp : (0 : Int) ≤ M := by rw [hM]; exact_mod_cast Nat.zero_le (2 ^ n)
  rw [hy, toNat_shl, Nat.min_eq_left (show n ≤ IntKind.bits .u8 from hn), ← hM, vWrap_id (by have := Int.mul_nonneg h0 hp; show _ ≤ _; exact Int.le_trans (by decide) this) (by exact h1)]
theorem eqShlNU8 {x y : Int} (a n : Nat) (hx : x = a) (hy : y = n) (hn : n ≤ 8) (h1 : a * 2 ^ n ≤ 255) (h : K ((a * 2 ^ n : Nat) : Int)) : EqP (vShl .u8 x y) K := by
  refine ⟨_, ?_, h⟩
  have e : ((a * 2 ^ n : Nat) : Int) = (a : Int) * 2 ^ n := by push_cast; rfl
  rw [hx, hy, toNat_shl, Nat.min_eq_left (show n ≤ IntKind.bits .u8 from hn), ← e]
  exact wrap_small' .u8 (Int.ofNat_le.2 h1)
theorem eqXorU32 {x y : Int} (a b : Nat) (hx : x = a) (hy : y = b) (ha : a ≤ 4294967295) (hb : b ≤ 4294967295) (h : a ^^^ b ≤ 4294967295 → K ((a ^^^ b : Nat) : Int)) : EqP (vXor .u32 x y) K := by
  obtain ⟨e, hl⟩ := xorN .u32 32 rfl (a := a) (b := b) (by show (a : Int) ≤ 4294967295; omega) (by show (b : Int) ≤ 4294967295; omega)
  have hl : ((a ^^^ b : Nat) : Int) ≤ 4294967295 := hl
  exact ⟨_, by rw [hx, hy, e], h (by omega)⟩
theorem eqOrU32 {x y : Int} (a b : Nat) (hx : x = a) (hy : y = b) (ha : a ≤ 4294967295) (hb : b ≤ 4294967295) (h : a ||| b ≤ 4294967295 → K ((a ||| b : Nat) : Int)) : EqP (vOr .u32 x y) K := by
  obtain ⟨e, hl⟩ := orN .u32 32 rfl (a := a) (b := b) (by show (a : Int) ≤ 4294967295; omega) (by show (b : Int) ≤ 4294967295; omega)
  have hl : ((a ||| b : Nat) : Int) ≤ 4294967295 := hl
  exact ⟨_, by rw [hx, hy, e], h (by omega)⟩
theorem eqAndU32 {x y : Int} (a b : Nat) (hx : x = a) (hy : y = b) (ha : a ≤ 4294967295) (hb : b ≤ 4294967295) (h : a &&& b ≤ a → a &&& b ≤ b → K ((a &&& b : Nat) : Int)) : EqP (vAnd .u32 x y) K :=
  ⟨_, by rw [hx, hy, andN .u32 (by show (a : Int) ≤ 4294967295; omega) (by show (b : Int) ≤ 4294967295; omega)], h Nat.and_le_left Nat.and_le_right⟩
theorem eqShlU32 {x y : Int} (n : Nat) (M : Int) (hM : M = 2 ^ n) (hy : y = n) (hn : n ≤ 32) (h0 : 0 ≤ x) (h1 : x * M ≤ 4294967295) (h : K (x * M)) : EqP (vShl .u32 x y) K := by
  refine ⟨_, ?_, h⟩
  have hp : (0 : Int) ≤ M := by rw [hM]; exact_mod_cast Nat.zero_le (2 ^ n)
  rw [hy, toNat_shl, Nat.min_eq_left (show n ≤ IntKind.bits .u32 from hn), ← hM, vWrap_id (by have := Int.mul_nonneg h0 hp; show _ ≤ _; exact Int.le_trans (by decide) this) (by exact h1)]
theorem eqShlNU32 {x y : Int} (a n : Nat) (hx : x = a) (hy : y = n) (hn : n ≤ 32) (h1 : a * 2 ^ n ≤ 4294967295) (h : K ((a * 2 ^ n : Nat) : Int)) : EqP (vShl .u32 x y) K := by
  refine ⟨_, ?_, h⟩
  have e : ((a * 2 ^ n : Nat) : Int) = (a : Int) * 2 ^ n := by push_cast; rfl
  rw [hx, hy, toNat_shl, Nat.min_eq_left (show n ≤ IntKind.bits .u32 from hn), ← e]
  exact wrap_small' .u32 (Int.ofNat_le.2 h1)
theorem eqXorU64 {x y : Int} (a b : Nat) (hx : x = a) (hy : y = b) (ha : a ≤ 18446744073709551615) (hb : b ≤ 18446744073709551615) (h : a ^^^ b ≤ 18446744073709551615 → K ((a ^^^ b : Nat) : Int)) : EqP (vXor .u64 x y) K := by
  obtain ⟨e, hl⟩ := xorN .u64 64 rfl (a := a) (b := b) (by show (a : Int) ≤ 18446744073709551615; omega) (by show (b : Int) ≤ 18446744073709551615; omega)
  have hl : ((a ^^^ b : Nat) : Int) ≤ 18446744073709551615 := hl
  exact ⟨_, by rw [hx, hy, e], h (by omega)⟩
theorem eqOrU64 {x y : Int} (a b : Nat) (hx : x = a) (hy : y = b) (ha : a ≤ 18446744073709551615) (hb : b ≤ 18446744073709551615) (h : a ||| b ≤ 18446744073709551615 → K ((a ||| b : Nat) : Int)) : EqP (vOr .u64 x y) K := by
  obtain ⟨e, hl⟩ := orN .u64 64 rfl (a := a) (b := b) (by show (a : Int) ≤ 18446744073709551615; omega) (by show (b : Int) ≤ 18446744073709551615; omega)
  have hl : ((a ||| b : Nat) : Int) ≤ 18446744073709551615 := hl
  exact ⟨_, by rw [hx, hy, e], h (by omega)⟩
theorem eqAndU64 {x y : Int} (a b : Nat) (hx : x = a) (hy : y = b) (ha : a ≤ 18446744073709551615) (hb : b ≤ 18446744073709551615) (h : a &&& b ≤ a → a &&& b ≤ b → K ((a &&& b : Nat) : Int)) : EqP (vAnd .u64 x y) K :=
  ⟨_, by rw [hx, hy, andN .u64 (by show (a : Int) ≤ 18446744073709551615; omega) (by show (b : Int) ≤ 18446744073709551615; omega)], h Nat.and_le_left Nat.and_le_right⟩
theorem eqShlU64 {x y : Int} (n : Nat) (M : Int) (hM : M = 2 ^ n) (hy : y = n) (hn : n ≤ 64) (h0 : 0 ≤ x) (h1 : x * M ≤ 18446744073709551615) (h : K (x * M)) : EqP (vShl .u64 x y) K := by
  refine ⟨_, ?_, h⟩
  have hp : (0 : Int) ≤ M := by rw [hM]; exact_mod_cast Nat.zero_le (2 ^ n)
  rw [hy, toNat_shl, Nat.min_eq_left (show n ≤ IntKind.bits .u64 from hn), ← hM, vWrap_id (by have := Int.mul_nonneg h0 hp; show _ ≤ _; exact Int.le_trans (by decide) this) (by exact h1)]
theorem eqShlNU64 {x y : Int} (a n : Nat) (hx : x = a) (hy : y = n) (hn : n ≤ 64) (h1 : a * 2 ^ n ≤ 18446744073709551615) (h : K ((a * 2 ^ n : Nat) : Int)) : EqP (vShl .u64 x y) K := by
  refine ⟨_, ?_, h⟩
  have e : ((a * 2 ^ n : Nat) : Int) = (a : Int) * 2 ^ n := by push_cast; rfl
  rw [hx, hy, toNat_shl, Nat.min_eq_left (show n ≤ IntKind.bits .u64 from hn), ← e]
  exact wrap_small' .u64 (Int.ofNat_le.2 h1)
theorem eqXorI64 {x y : Int} (a b : Nat) (hx : x = a) (hy : y = b) (ha : a ≤ 9223372036854775807) (hb : b ≤ 9223372036854775807) (h : a ^^^ b ≤ 9223372036854775807 → K ((a ^^^ b : Nat) : Int)) : EqP (vXor .i64 x y) K := by
  obtain ⟨e, hl⟩ := xorN .i64 63 rfl (a := a) (b := b) (by show (a : Int) ≤ 9223372036854775807; omega) (by show (b : Int) ≤ 9223372036854775807; omega)
  have hl : ((a ^^^ b : Nat) : Int) ≤ 9223372036854775807 := hl
  exact ⟨_, by rw [hx, hy, e], h (by omega)⟩
theorem eqOrI64 {x y : Int} (a b : Nat) (hx : x = a) (hy : y = b) (ha : a ≤ 9223372036854775807) (hb : b ≤ 9223372036854775807) (h : a ||| b ≤ 9223372036854775807 → K ((a ||| b : Nat) : Int)) : EqP (vOr .i64 x y) K := by
  obtain ⟨e, hl⟩ := orN .i64 63 rfl (a := a) (b := b) (by show (a : Int) ≤ 9223372036854775807; omega) (by show (b : Int) ≤ 9223372036854775807; omega)
  have hl : ((a ||| b : Nat) : Int) ≤ 9223372036854775807 := hl
  exact ⟨_, by rw [hx, hy, e], h (by omega)⟩
theorem eqAndI64 {x y : Int} (a b : Nat) (hx : x = a) (hy : y = b) (ha : a ≤ 9223372036854775807) (hb : b ≤ 9223372036854775807) (h : a &&& b ≤ a → a &&& b ≤ b → K ((a &&& b : Nat) : Int)) : EqP (vAnd .i64 x y) K :=
  ⟨_, by rw [hx, hy, andN .i64 (by show (a : Int) ≤ 9223372036854775807; omega) (by show (b : Int) ≤ 9223372036854775807; omega)], h Nat.and_le_left Nat.and_le_right⟩
theorem eqShlI64 {x y : Int} (n : Nat) (M : Int) (hM : M = 2 ^ n) (hy : y = n) (hn : n ≤ 64) (h0 : 0 ≤ x) (h1 : x * M ≤ 9223372036854775807) (h : K (x * M)) : EqP (vShl .i64 x y) K := by
  refine ⟨_, ?_, h⟩
  have hp : (0 : Int) ≤ M := by rw [hM]; exact_mod_cast Nat.zero_le (2 ^ n)
  rw [hy, toNat_shl, Nat.min_eq_left (show n ≤ IntKind.bits .i64 from hn), ← hM, vWrap_id (by have := Int.mul_nonneg h0 hp; show _ ≤ _; exact Int.le_trans (by decide) this) (by exact h1)]
theorem eqShlNI64 {x y : Int} (a n : Nat) (hx : x = a) (hy : y = n) (hn : n ≤ 64) (h1 : a * 2 ^ n ≤ 9223372036854775807) (h : K ((a * 2 ^ n : Nat) : Int)) : EqP (vShl .i64 x y) K := by
  refine ⟨_, ?_, h⟩
  have e : ((a * 2 ^ n : Nat) : Int) = (a : Int) * 2 ^ n := by push_cast; rfl
  rw [hx, hy, toNat_shl, Nat.min_eq_left (show n ≤ IntKind.bits .i64 from hn), ← e]
  exact wrap_small' .i64 (Int.ofNat_le.2 h1)
theorem eqXorI32 {x y : Int} (a b : Nat) (hx : x = a) (hy : y = b) (ha : a ≤ 2147483647) (hb : b ≤ 2147483647) (h : a ^^^ b ≤ 2147483647 → K ((a ^^^ b : Nat) : Int)) : EqP (vXor .i32 x y) K := by
  obtain ⟨e, hl⟩ := xorN .i32 31 rfl (a := a) (b := b) (by show (a : Int) ≤ 2147483647; omega) (by show (b : Int) ≤ 2147483647; omega)
  have hl : ((a ^^^ b : Nat) : Int) ≤ 2147483647 := hl
  exact ⟨_, by rw [hx, hy, e], h (by omega)⟩
theorem eqOrI32 {x y : Int} (a b : Nat) (hx : x = a) (hy : y = b) (ha : a ≤ 2147483647) (hb : b ≤ 2147483647) (h : a ||| b ≤ 2147483647 → K ((a ||| b : Nat) : Int)) : EqP (vOr .i32 x y) K := by
  obtain ⟨e, hl⟩ := orN .i32 31 rfl (a := a) (b := b) (by show (a : Int) ≤ 2147483647; omega) (by show (b : Int) ≤ 2147483647; omega)
  have hl : ((a ||| b : Nat) : Int) ≤ 2147483647 := hl
  exact ⟨_, by rw [hx, hy, e], h (by omega)⟩
theorem eqAndI32 {x y : Int} (a b : Nat) (hx : x = a) (hy : y = b) (ha : a ≤ 2147483647) (hb : b ≤ 2147483647) (h : a &&& b ≤ a → a &&& b ≤ b → K ((a &&& b : Nat) : Int)) : EqP (vAnd .i32 x y) K :=
  ⟨_, by rw [hx, hy, andN .i32 (by show (a : Int) ≤ 2147483647; omega) (by show (b : Int) ≤ 2147483647; omega)], h Nat.and_le_left Nat.and_le_right⟩
theorem eqShlI32 {x y : Int} (n : Nat) (M : Int) (hM : M = 2 ^ n) (hy : y = n) (hn : n ≤ 32) (h0 : 0 ≤ x) (h1 : x * M ≤ 2147483647) (h : K (x * M)) : EqP (vShl .i32 x y) K := by
  refine ⟨_, ?_, h⟩
  have hp : (0 : Int) ≤ M := by rw [hM]; exact_mod_cast Nat.zero_le (2 ^ n)
  rw [hy, toNat_shl, Nat.min_eq_left (show n ≤ IntKind.bits .i32 from hn), ← hM, vWrap_id (by have := Int.mul_nonneg h0 hp; show _ ≤ _; exact Int.le_trans (by decide) this) (by exact h1)]
theorem eqShlNI32 {x y : Int} (a n : Nat) (hx : x = a) (hy : y = n) (hn : n ≤ 32) (h1 : a * 2 ^ n ≤ 2147483647) (h : K ((a * 2 ^ n : Nat) : Int)) : EqP (vShl .i32 x y) K := by
  refine ⟨_, ?_, h⟩
  have e : ((a * 2 ^ n : Nat) : Int) = (a : Int) * 2 ^ n := by push_cast; rfl
  rw [hx, hy, toNat_shl, Nat.min_eq_left (show n ≤ IntKind.bits .i32 from hn), ← e]
  exact wrap_small' .i32 (Int.ofNat_le.2 h1)
theorem wrapMU8 (x : Int) : vWrap .u8 x = x % 256 := by unfold vWrap; simp [IntKind.wrap, IntKind.bits, IntKind.signed]
theorem eqWrapMU8 {x : Int} (h : K (x % 256)) : EqP (vWrap .u8 x) K := ⟨_, wrapMU8 x, h⟩
theorem rConvU8M {s d : TypeId} {k0 : IntKind} {n : Int} (hs : (P.underlying s).isSome = true) (hd : P.underlying d = some (.int .u8)) (k : KV (.int .u8 (n % 256)) w) : RunP P (convert s d (.int k0 n)) w KV := rConvIntE (n % 256) (wrapMU8 n) hs hd k
theorem rNotU8 {x : Int} (h0 : 0 ≤ x) (h1 : x ≤ 255) (k : KV (.int .u8 (255 - x)) w) : RunP P (Op.unary .xor (.int .u8 x)) w KV := by
  refine ⟨_, w, ?_, k⟩
  obtain ⟨a, rfl⟩ : ∃ a : Nat, x = a := ⟨x.toNat, by omega⟩
  have h2 := (xorN .u8 8 rfl (a := 2 ^ 8 - 1) (b := a) (by decide) (show (a : Int) ≤ 255 from h1)).1
  rw [xor_ones 8 (by omega)] at h2
  have h3 : (255 - (a : Int)) = ((2 ^ 8 - 1 - a : Nat) : Int) := by omega
  rw [h3, ← h2]
  unfold vXor
  rfl
theorem wrapMU32 (x : Int) : vWrap .u32 x = x % 4294967296 := by unfold vWrap; simp [IntKind.wrap, IntKind.bits, IntKind.signed]
theorem eqWrapMU32 {x : Int} (h : K (x % 4294967296)) : EqP (vWrap .u32 x) K := ⟨_, wrapMU32 x, h⟩
theorem rConvU32M {s d : TypeId} {k0 : IntKind} {n : Int} (hs : (P.underlying s).isSome = true) (hd : P.underlying d = some (.int .u32)) (k : KV (.int .u32 (n % 4294967296)) w) : RunP P (convert s d (.int k0 n)) w KV := rConvIntE (n % 4294967296) (wrapMU32 n) hs hd k
theorem rNotU32 {x : Int} (h0 : 0 ≤ x) (h1 : x ≤ 4294967295) (k : KV (.int .u32 (4294967295 - x)) w) : RunP P (Op.unary .xor (.int .u32 x)) w KV := by
  refine ⟨_, w, ?_, k⟩
  obtain ⟨a, rfl⟩ : ∃ a : Nat, x = a := ⟨x.toNat, by omega⟩
  have h2 := (xorN .u32 32 rfl (a := 2 ^ 32 - 1) (b := a) (by decide) (show (a : Int) ≤ 4294967295 from h1)).1
  rw [xor_ones 32 (by omega)] at h2
  have h3 : (4294967295 - (a : Int)) = ((2 ^ 32 - 1 - a : Nat) : Int) := by omega
  rw [h3, ← h2]
  unfold vXor
  rfl
theorem wrapMU64 (x : Int) : vWrap .u64 x = x % 18446744073709551616 := by unfold vWrap; simp [IntKind.wrap, IntKind.bits, IntKind.signed]
theorem eqWrapMU64 {x : Int} (h : K (x % 18446744073709551616)) : EqP (vWrap .u64 x) K := ⟨_, wrapMU64 x, h⟩
theorem rConvU64M {s d : TypeId} {k0 : IntKind} {n : Int} (hs : (P.underlying s).isSome = true) (hd : P.underlying d = some (.int .u64)) (k : KV (.int .u64 (n % 18446744073709551616)) w) : RunP P (convert s d (.int k0 n)) w KV := rConvIntE (n % 18446744073709551616) (wrapMU64 n) hs hd k
theorem rNotU64 {x : Int} (h0 : 0 ≤ x) (h1 : x ≤ 18446744073709551615) (k : KV (.int .u64 (18446744073709551615 - x)) w) : RunP P (Op.unary .xor (.int .u64 x)) w KV := by
  refine ⟨_, w, ?_, k⟩
  obtain ⟨a, rfl⟩ : ∃ a : Nat, x = a := ⟨x.toNat, by omega⟩
  have h2 := (xorN .u64 64 rfl (a := 2 ^ 64 - 1) (b := a) (by decide) (show (a : Int) ≤ 18446744073709551615 from h1)).1
  rw [xor_ones 64 (by omega)] at h2
  have h3 : (18446744073709551615 - (a : Int)) = ((2 ^ 64 - 1 - a : Nat) : Int) := by omega
  rw [h3, ← h2]
  unfold vXor
  rfl
theorem eqOrAddU32 {x y : Int} (n : Nat) (M : Int) (hM : M = 2 ^ n) (hx : x % M = 0) (hx0 : 0 ≤ x) (hy : 0 ≤ y ∧ y < M) (hs : x + y ≤ 4294967295) (h : K (x + y)) : EqP (vOr .u32 x y) K := by
  obtain ⟨a, rfl⟩ : ∃ a : Nat, x = a := ⟨x.toNat, by omega⟩
  obtain ⟨b, rfl⟩ : ∃ b : Nat, y = b := ⟨y.toNat, by omega⟩
  refine ⟨_, ?_, h⟩
  have hp : ((2 ^ n : Nat) : Int) = 2 ^ n := by norm_cast
  have hd : (2 ^ n : Nat) ∣ a := by
    rw [hM, ← hp] at hx
    exact Int.natCast_dvd_natCast.1 (Int.dvd_of_emod_eq_zero hx)
  have hb : b < 2 ^ n := by omega
  have := vOr_add .u32 b a n hb hd (show (b : Int) + a ≤ 4294967295 by omega)
  rw [show vOr .u32 (a : Int) (b : Int) = vOr .u32 b a by unfold vOr; rw [BitVec.or_comm], this]
  omega
theorem eqOrAddU64 {x y : Int} (n : Nat) (M : Int) (hM : M = 2 ^ n) (hx : x % M = 0) (hx0 : 0 ≤ x) (hy : 0 ≤ y ∧ y < M) (hs : x + y ≤ 18446744073709551615) (h : K (x + y)) : EqP (vOr .u64 x y) K := by
  obtain ⟨a, rfl⟩ : ∃ a : Nat, x = a := ⟨x.toNat, by omega⟩
  obtain ⟨b, rfl⟩ : ∃ b : Nat, y = b := ⟨y.toNat, by omega⟩
  refine ⟨_, ?_, h⟩
  have hp : ((2 ^ n : Nat) : Int) = 2 ^ n := by norm_cast
  have hd : (2 ^ n : Nat) ∣ a := by
    rw [hM, ← hp] at hx
    exact Int.natCast_dvd_natCast.1 (Int.dvd_of_emod_eq_zero hx)
  have hb : b < 2 ^ n := by omega
  have := vOr_add .u64 b a n hb hd (show (b : Int) + a ≤ 18446744073709551615 by omega)
  rw [show vOr .u64 (a : Int) (b : Int) = vOr .u64 b a by unfold vOr; rw [BitVec.or_comm], this]
  omega
theorem eqOrAddI64 {x y : Int} (n : Nat) (M : Int) (hM : M = 2 ^ n) (hx : x % M = 0) (hx0 : 0 ≤ x) (hy : 0 ≤ y ∧ y < M) (hs : x + y ≤ 9223372036854775807) (h : K (x + y)) : EqP (vOr .i64 x y) K := by
  obtain ⟨a, rfl⟩ : ∃ a : Nat, x = a := ⟨x.toNat, by omega⟩
  obtain ⟨b, rfl⟩ : ∃ b : Nat, y = b := ⟨y.toNat, by omega⟩
  refine ⟨_, ?_, h⟩
  have hp : ((2 ^ n : Nat) : Int) = 2 ^ n := by norm_cast
  have hd : (2 ^ n : Nat) ∣ a := by
    rw [hM, ← hp] at hx
    exact Int.natCast_dvd_natCast.1 (Int.dvd_of_emod_eq_zero hx)
  have hb : b < 2 ^ n := by omega
  have := vOr_add .i64 b a n hb hd (show (b : Int) + a ≤ 9223372036854775807 by omega)
  rw [show vOr .i64 (a : Int) (b : Int) = vOr .i64 b a by unfold vOr; rw [BitVec.or_comm], this]
  omega
theorem eqNegU32 {x : Int} (h0 : 0 ≤ x) (h : K ((4294967296 - x) % 4294967296)) : EqP (vWrap .u32 (0 - x)) K := ⟨_, by rw [wrapMU32]; omega, h⟩
theorem eqNegU64 {x : Int} (h0 : 0 ≤ x) (h : K ((18446744073709551616 - x) % 18446744073709551616)) : EqP (vWrap .u64 (0 - x)) K := ⟨_, by rw [wrapMU64]; omega, h⟩
end
end Go.Proofs.YtcpniokopahakaaDoor.Eng