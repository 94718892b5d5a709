/- Plain facts behind the walks of package leb. -/
import Derived.Test.YtcpniokopahakaaDoorLebM
import Derived.Test.YtcpniokopahakaaDoorBase
set_option maxRecDepth 100000
set_option linter.unusedVariables false
set_option linter.unusedSimpArgs false
namespace Go.Proofs.YtcpniokopahakaaDoor.Leb
open Go Go.Proofs.YtcpniokopahakaaDoor.Eng Go.RowKit
theorem byteV_of (c : Nat) (h : c < 256) {x : Int} (hx : x = c) : Value.int .u8 x = byteV (UInt8.ofNat c) := by
  rw [hx, byteV, byte_toNat h]
theorem acc_or (k : IntKind) (acc t i bits : Nat) (hk : k = .u64 ∨ k = .i64) (hb : bits ≤ 64) (hacc : acc < 2 ^ (7 * i)) (hmax : ((acc + t * 2 ^ (7 * i) : Nat) : Int) ≤ k.max) :
    vOr k (acc : Int) ((t * 2 ^ (7 * i) : Nat) : Int) = ((acc + t * 2 ^ (7 * i) : Nat) : Int) := by
  rw [vOr_add k acc _ (7 * i) hacc (Nat.dvd_mul_left _ _) (by omega)]
  omega
theorem acc_step (acc k c bits : Nat) (hb : bits ≤ 64) (hacc : acc < 2 ^ (7 * k)) (h7 : 7 * k < bits) (hbd : acc + c % 128 * 2 ^ (7 * k) < 2 ^ bits) :
    vOr .u64 (acc : Int) (vShl .u64 (vWrap .u64 (vAnd .u8 (c : Int) 127)) ((7 * k : Nat) : Int)) = ((acc + c % 128 * 2 ^ (7 * k) : Nat) : Int) := by
  have h64 : (2 : Nat) ^ bits ≤ 2 ^ 64 := Nat.pow_le_pow_right (by decide) hb
  have e1 : vAnd .u8 (c : Int) 127 = ((c % 128 : Nat) : Int) := by rw [vAnd127]; omega
  rw [e1, wu64 (by omega), vShl_eq _ _ _ (by simp [IntKind.bits]; omega)]
  have e2 : ((c % 128 : Nat) : Int) * 2 ^ (7 * k) = ((c % 128 * 2 ^ (7 * k) : Nat) : Int) := by
    rw [Int.natCast_mul]; norm_cast
  rw [e2, wu64 (by omega)]
  refine acc_or .u64 acc (c % 128) k bits (.inl rfl) hb hacc ?_
  generalize c % 128 * 2 ^ (7 * k) = t at *
  simp [IntKind.max, IntKind.bits, IntKind.signed]; omega
theorem acc_bd {acc k c bits : Nat} (hacc : acc < 2 ^ (7 * k)) (h7 : 7 * k < bits) (hno : ¬ (bits < 7 * k + 7 ∧ c / 2 ^ (bits - 7 * k) ≠ 0)) : acc + c % 128 * 2 ^ (7 * k) < 2 ^ bits := by
  have e : (2 : Nat) ^ bits = 2 ^ (bits - 7 * k) * 2 ^ (7 * k) := by rw [← Nat.pow_add]; congr 1; omega
  have h1 : c % 128 < 2 ^ (bits - 7 * k) := by
    by_cases h : bits < 7 * k + 7
    · have h2 : c / 2 ^ (bits - 7 * k) = 0 := Decidable.byContradiction fun h2 => hno ⟨h, h2⟩
      have := (Nat.div_eq_zero_iff.1 h2).resolve_left (Nat.ne_of_gt (Nat.two_pow_pos _))
      exact Nat.lt_of_le_of_lt (Nat.mod_le _ _) this
    · have : (2 : Nat) ^ 7 ≤ 2 ^ (bits - 7 * k) := Nat.pow_le_pow_right (by decide) (by omega)
      omega
  have h2 : (c % 128 + 1) * 2 ^ (7 * k) ≤ 2 ^ (bits - 7 * k) * 2 ^ (7 * k) := Nat.mul_le_mul_right _ h1
  rw [Nat.add_mul] at h2
  omega
theorem cont_bd {k c bits : Nat} (hb : bits = 32 ∨ bits = 64) (h7 : 7 * k < bits) (hc : 128 ≤ c) (hno : ¬ (bits < 7 * k + 7 ∧ c / 2 ^ (bits - 7 * k) ≠ 0)) : 7 * (k + 1) < bits := by
  by_cases h : bits < 7 * k + 7
  · exfalso
    apply hno
    refine ⟨h, fun h2 => ?_⟩
    have h3 := (Nat.div_eq_zero_iff.1 h2).resolve_left (Nat.ne_of_gt (Nat.two_pow_pos _))
    have : (2 : Nat) ^ (bits - 7 * k) ≤ 2 ^ 7 := Nat.pow_le_pow_right (by decide) (by omega)
    omega
  · omega
theorem acc_next {acc k c : Nat} (hacc : acc < 2 ^ (7 * k)) : acc + c % 128 * 2 ^ (7 * k) < 2 ^ (7 * (k + 1)) := by
  rw [pow_succ7]
  have h2 : (c % 128 + 1) * 2 ^ (7 * k) ≤ 128 * 2 ^ (7 * k) := Nat.mul_le_mul_right _ (by omega)
  rw [Nat.add_mul] at h2
  omega
theorem wrap_i8 {x : Int} (h : 0 ≤ x ∧ x < 256) : vWrap .i8 x = if x < 128 then x else x - 256 := by
  unfold vWrap
  simp [IntKind.wrap, IntKind.bits, IntKind.signed]
  split <;> split <;> omega
theorem sev_walk (c : Nat) (hc : c < 256) : vShr .i64 (vWrap .i64 (vWrap .i8 (vShl .u8 (c : Int) 1))) 1 = sev c := by
  have e1 : vShl .u8 (c : Int) 1 = ((2 * c % 256 : Nat) : Int) := by
    have := vShl_eq .u8 c 1 (by decide)
    rw [show ((1 : Nat) : Int) = 1 from rfl] at this
    rw [this]
    unfold vWrap
    simp [IntKind.wrap, IntKind.bits, IntKind.signed]; omega
  have e2 : vWrap .i8 ((2 * c % 256 : Nat) : Int) = if c % 128 < 64 then ((2 * (c % 128) : Nat) : Int) else ((2 * (c % 128) : Nat) : Int) - 256 := by
    rw [wrap_i8 (by omega)]
    split <;> split <;> omega
  have e3 := vShr_eq .i64 (sev c * 2) 1 (by decide)
  rw [show ((1 : Nat) : Int) = 1 from rfl] at e3
  have e4 : vWrap .i8 ((2 * c % 256 : Nat) : Int) = sev c * 2 := by
    rw [e2]; unfold sev; split <;> omega
  have hs : -64 ≤ sev c ∧ sev c < 64 := by unfold sev; split <;> omega
  rw [e1, e4, wi64 (by omega), e3]
  omega
theorem acc_stepS (acc k c : Nat) (hk : 7 * k < 63) (hacc : acc < 2 ^ (7 * k)) (h63 : acc + c % 128 * 2 ^ (7 * k) < 2 ^ 63) :
    vOr .i64 (acc : Int) (vShl .i64 (vWrap .i64 (vAnd .u8 (c : Int) 127)) ((7 * k : Nat) : Int)) = ((acc + c % 128 * 2 ^ (7 * k) : Nat) : Int) := by
  have e1 : vAnd .u8 (c : Int) 127 = ((c % 128 : Nat) : Int) := by rw [vAnd127]; omega
  rw [e1, wi64 (by omega), vShl_eq _ _ _ (by simp [IntKind.bits]; omega)]
  have e2 : ((c % 128 : Nat) : Int) * 2 ^ (7 * k) = ((c % 128 * 2 ^ (7 * k) : Nat) : Int) := by
    rw [Int.natCast_mul]; norm_cast
  rw [e2, wi64 (by omega)]
  refine acc_or .i64 acc (c % 128) k 64 (.inr rfl) (by decide) hacc ?_
  generalize c % 128 * 2 ^ (7 * k) = t at *
  simp [IntKind.max, IntKind.bits, IntKind.signed]; omega
theorem vOr_i64 (a : Nat) (b : Int) (n : Nat) (ha : a < 2 ^ n) (hn : n ≤ 63) (hb : (2 ^ n : Int) ∣ b) (h1 : -9223372036854775808 ≤ b) (h2 : b ≤ 9223372036854775807) : vOr .i64 (a : Int) b = a + b := by
  obtain ⟨c, rfl⟩ := hb
  have hp : (0 : Int) < 2 ^ n := by exact_mod_cast Nat.two_pow_pos n
  have h64 : (2 : Int) ^ 64 = 2 ^ n * 2 ^ (64 - n) := by rw [← Int.pow_add]; congr 1; omega
  have han : ((2 ^ n : Nat) : Int) = 2 ^ n := by norm_cast
  have ha' : (a : Int) < 2 ^ n := by omega
  have hlt63 : (2 : Int) ^ n ≤ 2 ^ 63 := by exact_mod_cast Nat.pow_le_pow_right (by decide) hn
  unfold vOr
  have ea : (BitVec.ofInt IntKind.i64.bits (a : Int)).toNat = a := by
    have := ofInt_toNat 64 a
    rw [Int.emod_eq_of_lt (by omega) (by omega)] at this
    show (BitVec.ofInt 64 (a : Int)).toNat = a
    omega
  have eb : (((BitVec.ofInt IntKind.i64.bits (2 ^ n * c)).toNat : Nat) : Int) = 2 ^ n * (c % 2 ^ (64 - n)) := by
    have := ofInt_toNat 64 (2 ^ n * c)
    show (((BitVec.ofInt 64 (2 ^ n * c)).toNat : Nat) : Int) = _
    rw [this, h64, Int.mul_emod_mul_of_pos _ _ hp]
  have hp2 : (0 : Int) < 2 ^ (64 - n) := by exact_mod_cast Nat.two_pow_pos _
  have hc0 : 0 ≤ c % 2 ^ (64 - n) := Int.emod_nonneg _ (Int.ne_of_gt hp2)
  obtain ⟨d, hd⟩ := Int.eq_ofNat_of_zero_le hc0
  have eb' : (BitVec.ofInt IntKind.i64.bits (2 ^ n * c)).toNat = 2 ^ n * d := by
    have : (((BitVec.ofInt IntKind.i64.bits (2 ^ n * c)).toNat : Nat) : Int) = ((2 ^ n * d : Nat) : Int) := by
      rw [eb, hd, Int.natCast_mul, han]
    omega
  rw [BitVec.toNat_or, ea, eb', Nat.or_comm, ← Nat.two_pow_add_eq_or_of_lt ha]
  have h3 : ((2 ^ n * d + a : Nat) : Int) = (2 ^ n * c + a) % 2 ^ 64 := by
    rw [Int.natCast_add, Int.natCast_mul, han]
    rw [← hd, ← Int.mul_emod_mul_of_pos _ _ hp, ← h64]
    have h5 : 0 ≤ 2 ^ n * c % 2 ^ 64 := Int.emod_nonneg _ (by decide)
    have h6 : 2 ^ n * c % 2 ^ 64 + a < 2 ^ 64 := by
      rw [h64, Int.mul_emod_mul_of_pos _ _ hp]
      have : c % 2 ^ (64 - n) + 1 ≤ 2 ^ (64 - n) := Int.emod_lt_of_pos _ (by exact_mod_cast Nat.two_pow_pos _)
      have h7 := Int.mul_le_mul_of_nonneg_left this (Int.le_of_lt hp)
      rw [Int.mul_add, Int.mul_one] at h7
      omega
    rw [Int.add_emod, Int.emod_eq_of_lt (a := (a : Int)) (by omega) (by omega), Int.emod_eq_of_lt (by omega) h6]
  have hbnd : 2 ^ n * c + (a : Int) ≤ 9223372036854775807 := by
    by_cases hc : c < 0
    · have : 2 ^ n * c ≤ 2 ^ n * (-1) := Int.mul_le_mul_of_nonneg_left (by omega) (Int.le_of_lt hp)
      omega
    · have h8 : (2 : Int) ^ 63 = 2 ^ n * 2 ^ (63 - n) := by rw [← Int.pow_add]; congr 1; omega
      have h9 : c < 2 ^ (63 - n) := by
        apply Decidable.byContradiction
        intro h
        have h10 := Int.mul_le_mul_of_nonneg_left (Int.not_lt.1 h) (Int.le_of_lt hp)
        rw [← h8] at h10
        omega
      have h11 := Int.mul_le_mul_of_nonneg_left (show c + 1 ≤ 2 ^ (63 - n) from h9) (Int.le_of_lt hp)
      rw [← h8, Int.mul_add, Int.mul_one] at h11
      omega
  rw [h3]
  have h12 : IntKind.i64.wrap ((2 ^ n * c + (a : Int)) % 2 ^ 64) = IntKind.i64.wrap (2 ^ n * c + a) := by
    unfold IntKind.wrap
    rw [show IntKind.i64.bits = 64 from rfl, Int.emod_emod]
  rw [h12]
  have h13 := wi64 (n := 2 ^ n * c + a) ⟨by omega, hbnd⟩
  unfold vWrap at h13
  rw [h13]; omega
end Go.Proofs.YtcpniokopahakaaDoor.Leb
