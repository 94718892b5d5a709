import Derived.Test.YtcpniokopahakaaDoorSl
namespace Go.Proofs.YtcpniokopahakaaDoor.Eng
open Go
theorem vShr_eq (k : IntKind) (x : Int) (n : Nat) (hn : n ≤ k.bits) : vShr k x n = x / 2 ^ n := by
  unfold vShr
  rw [Int.toNat_natCast, Nat.min_eq_left hn]
  rw [Int.fdiv_eq_ediv_of_nonneg _ (by exact_mod_cast Nat.zero_le (2 ^ n))]
theorem ofInt_toNat (n : Nat) (x : Int) : ((BitVec.ofInt n x).toNat : Int) = x % 2 ^ n := by
  rw [BitVec.toNat_ofInt]
  have h : 0 ≤ x % ((2 ^ n : Nat) : Int) := Int.emod_nonneg _ (by exact_mod_cast Nat.ne_of_gt (Nat.two_pow_pos n))
  rw [Int.toNat_of_nonneg h]
  norm_cast
theorem vAnd_mask (k : IntKind) (x : Int) (n : Nat) (hn : n < k.bits) : vAnd k x (2 ^ n - 1) = x % 2 ^ n := by
  unfold vAnd
  have h1 : (BitVec.ofInt k.bits (2 ^ n - 1)).toNat = 2 ^ n - 1 := by
    have h2 := ofInt_toNat k.bits (2 ^ n - 1)
    have h3 : ((2 : Int) ^ n - 1) % 2 ^ k.bits = 2 ^ n - 1 := by
      have a : (0 : Int) < 2 ^ n := by exact_mod_cast Nat.two_pow_pos n
      have b : (2 : Int) ^ n ≤ 2 ^ k.bits := by exact_mod_cast Nat.pow_le_pow_right (by decide) (Nat.le_of_lt hn)
      exact Int.emod_eq_of_lt (by omega) (by omega)
    rw [h3] at h2
    have h4 : ((2 ^ n - 1 : Nat) : Int) = 2 ^ n - 1 := by
      rw [Int.ofNat_sub (Nat.one_le_two_pow)]; norm_cast
    omega
  rw [BitVec.toNat_and, h1, Nat.and_two_pow_sub_one_eq_mod]
  have h5 : (((BitVec.ofInt k.bits x).toNat % 2 ^ n : Nat) : Int) = x % 2 ^ n := by
    rw [Int.natCast_emod, ofInt_toNat]
    have : ((2 ^ n : Nat) : Int) = 2 ^ n := by norm_cast
    rw [this]
    exact Int.emod_emod_of_dvd x (by exact_mod_cast Nat.pow_dvd_pow 2 (Nat.le_of_lt hn))
  rw [h5]
  have a : (0 : Int) < 2 ^ n := by exact_mod_cast Nat.two_pow_pos n
  have h6 := Int.emod_nonneg x (Int.ne_of_gt a)
  have h7 := Int.emod_lt_of_pos x a
  have h8 : (2 : Int) ^ n ≤ 2 ^ (k.bits - 1) := by exact_mod_cast Nat.pow_le_pow_right (by decide) (by omega)
  have h9 := vWrap_id (k := k) (n := x % 2 ^ n) (by
      unfold IntKind.min; split
      · have : (0 : Int) < 2 ^ (k.bits - 1) := by exact_mod_cast Nat.two_pow_pos _
        omega
      · exact h6) (by
      unfold IntKind.max
      have : (2 : Int) ^ (k.bits - 1) ≤ 2 ^ k.bits := by exact_mod_cast Nat.pow_le_pow_right (by decide) (by omega)
      split <;> omega)
  unfold vWrap at h9
  exact h9
theorem vOr_add (k : IntKind) (a b : Nat) (n : Nat) (ha : a < 2 ^ n) (hb : 2 ^ n ∣ b) (hk : (a : Int) + b ≤ k.max) : vOr k a b = a + b := by
  unfold vOr
  have hmax : k.max < 2 ^ k.bits := by cases k <;> decide
  have ea : (BitVec.ofInt k.bits (a : Int)).toNat = a := by
    have := ofInt_toNat k.bits a
    rw [Int.emod_eq_of_lt (by omega) (by omega)] at this
    omega
  have eb : (BitVec.ofInt k.bits (b : Int)).toNat = b := by
    have := ofInt_toNat k.bits b
    rw [Int.emod_eq_of_lt (by omega) (by omega)] at this
    omega
  obtain ⟨c, rfl⟩ := hb
  rw [BitVec.toNat_or, ea, eb, Nat.or_comm, ← Nat.two_pow_add_eq_or_of_lt ha]
  have := vWrap_id (k := k) (n := ((2 ^ n * c + a : Nat) : Int)) (by
    have : k.min ≤ 0 := by cases k <;> decide
    omega) (by omega)
  unfold vWrap at this
  rw [this]
  omega
theorem vShl_eq (k : IntKind) (x : Int) (n : Nat) (hn : n ≤ k.bits) : vShl k x n = vWrap k (x * 2 ^ n) := by
  unfold vShl vWrap
  rw [Int.toNat_natCast, Nat.min_eq_left hn]
theorem vAnd127 (k : IntKind) (x : Int) : vAnd k x 127 = x % 128 := vAnd_mask k x 7 (by cases k <;> decide)
theorem vWrap_range (k : IntKind) (n : Int) : k.min ≤ vWrap k n ∧ vWrap k n ≤ k.max := by
  unfold vWrap
  cases k <;> simp [IntKind.wrap, IntKind.min, IntKind.max, IntKind.bits, IntKind.signed] <;> omega
end Go.Proofs.YtcpniokopahakaaDoor.Eng
