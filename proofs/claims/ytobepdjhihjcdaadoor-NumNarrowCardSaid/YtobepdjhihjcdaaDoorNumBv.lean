/- Moves and turns of bits, told in bit vectors. -/
import Derived.Test.YtobepdjhihjcdaaDoorNumF
set_option maxRecDepth 100000
set_option linter.unusedVariables false
namespace Go.Proofs.YtobepdjhihjcdaaDoor.Num
open Go Go.Proofs.YtobepdjhihjcdaaDoor.Eng Go.RowKit
theorem rl {N : Nat} (X : BitVec N) (r i : Nat) (hi : i < N) : (X.rotateLeft r).getLsbD i = if i < r % N then X.getLsbD (N - r % N + i) else X.getLsbD (i - r % N) := by
  rw [BitVec.getLsbD_rotateLeft]
  by_cases h : i < r % N
  · rw [decide_eq_true h, if_pos h]; rfl
  · rw [decide_eq_false h, if_neg h, decide_eq_true hi]; simp
theorem rr {N : Nat} (X : BitVec N) (r i : Nat) (hi : i < N) : (X.rotateRight r).getLsbD i = if i < N - r % N then X.getLsbD (r % N + i) else X.getLsbD (i - (N - r % N)) := by
  rw [BitVec.getLsbD_rotateRight]
  by_cases h : i < N - r % N
  · rw [decide_eq_true h, if_pos h]; rfl
  · rw [decide_eq_false h, if_neg h, decide_eq_true hi]; simp
theorem rot_back {N : Nat} (hN : 0 < N) (X : BitVec N) (n : Nat) : (X.rotateLeft n).rotateRight n = X := by
  apply BitVec.eq_of_getLsbD_eq
  intro i hi
  have hn := Nat.mod_lt n hN
  rw [rr _ _ _ hi]
  split
  · rw [rl _ _ _ (by omega), if_neg (by omega), show n % N + i - n % N = i by omega]
  · rw [rl _ _ _ (by omega), if_pos (by omega), show N - n % N + (i - (N - n % N)) = i by omega]
theorem rot_rot {N : Nat} (hN : 0 < N) (X : BitVec N) (n m k : Nat) (hk : k % N = (n % N + m % N) % N) : (X.rotateLeft n).rotateLeft m = X.rotateLeft k := by
  apply BitVec.eq_of_getLsbD_eq
  intro i hi
  have hn := Nat.mod_lt n hN
  have hm := Nat.mod_lt m hN
  have hs : (n % N + m % N) % N = if n % N + m % N < N then n % N + m % N else n % N + m % N - N := by
    split
    · exact Nat.mod_eq_of_lt (by assumption)
    · rw [Nat.mod_eq_sub_mod (by omega), Nat.mod_eq_of_lt (by omega)]
  rw [rl _ _ _ hi, rl _ _ _ hi, hk, hs]
  have r1 := fun i hi => rl X n i hi
  generalize n % N = a at *
  generalize m % N = b at *
  by_cases h1 : i < b
  · rw [if_pos h1, r1 _ (by omega)]
    by_cases h2 : a + b < N
    · rw [if_pos h2, if_neg (by omega), if_pos (by omega), show N - (a + b) + i = N - b + i - a by omega]
    · rw [if_neg h2]
      by_cases h3 : i < a + b - N
      · rw [if_pos (by omega), if_pos h3]; congr 1; omega
      · rw [if_neg (by omega), if_neg h3, show N - b + i - a = i - (a + b - N) by omega]
  · rw [if_neg h1, r1 _ (by omega)]
    by_cases h2 : a + b < N
    · rw [if_pos h2]
      by_cases h3 : i < a + b
      · rw [if_pos (by omega), if_pos h3, show N - a + (i - b) = N - (a + b) + i by omega]
      · rw [if_neg (by omega), if_neg h3, show i - b - a = i - (a + b) by omega]
    · rw [if_neg h2, if_pos (by omega), if_neg (by omega), show N - a + (i - b) = i - (a + b - N) by omega]
theorem rot_right {N : Nat} (hN : 0 < N) (X : BitVec N) (n k : Nat) (hk : k % N = (N - n % N) % N) : X.rotateLeft n = X.rotateRight k := by
  apply BitVec.eq_of_getLsbD_eq
  intro i hi
  have hn := Nat.mod_lt n hN
  rw [rl _ _ _ hi, rr _ _ _ hi, hk]
  by_cases h0 : n % N = 0
  · rw [h0, Nat.sub_zero, Nat.mod_self, if_neg (by omega), if_pos (by omega)]; congr 1; omega
  · rw [Nat.mod_eq_of_lt (a := N - n % N) (by omega)]
    by_cases h : i < n % N
    · rw [if_pos h, if_pos (by omega)]
    · rw [if_neg h, if_neg (by omega)]; congr 1; omega
theorem ssr_or {N : Nat} (X : BitVec N) (n : Nat) (hn : n ≤ N) (h : X.msb = true) : X.sshiftRight n = (X >>> n) ||| (BitVec.allOnes N <<< (N - n)) := by
  rw [BitVec.sshiftRight_eq_of_msb_true h]
  apply BitVec.eq_of_getLsbD_eq
  intro i hi
  simp only [BitVec.getLsbD_not, BitVec.getLsbD_ushiftRight, BitVec.getLsbD_or, BitVec.getLsbD_shiftLeft, BitVec.getLsbD_allOnes, hi, decide_true, Bool.true_and]
  by_cases h1 : i < N - n
  · rw [decide_eq_true h1, decide_eq_true (show n + i < N by omega)]
    simp
  · rw [decide_eq_false h1, decide_eq_false (show ¬ n + i < N by omega)]
    simp
    omega
theorem msb_shr {N : Nat} (X : BitVec N) (hN : 0 < N) : (X.toNat / 2 ^ (N - 1) ≠ 0) ↔ X.msb = true := by
  rw [BitVec.msb_eq_decide, decide_eq_true_eq, Ne, Nat.div_eq_zero_iff]
  have := Nat.two_pow_pos (N-1)
  omega
theorem back_eq {N : Nat} (X : BitVec N) (n : Nat) (hn : n < N) : (X - (X.sshiftRight n <<< n)).toNat = X.toNat % 2 ^ n := by
  have h : X.sshiftRight n <<< n = X >>> n <<< n := by
    apply BitVec.eq_of_getLsbD_eq
    intro i hi
    simp only [BitVec.getLsbD_shiftLeft, BitVec.getLsbD_sshiftRight, BitVec.getLsbD_ushiftRight, hi, decide_true, Bool.true_and]
    by_cases h1 : i < n
    · simp [h1]
    · rw [show n + (i - n) = i by omega, if_pos hi, decide_eq_false (show ¬ N ≤ i - n by omega)]; simp
  rw [h, BitVec.toNat_sub, BitVec.toNat_shiftLeft, BitVec.toNat_ushiftRight, Nat.shiftRight_eq_div_pow, Nat.shiftLeft_eq]
  have e := Nat.div_add_mod' X.toNat (2 ^ n)
  have hx := X.isLt
  rw [Nat.mod_eq_of_lt (a := X.toNat / 2 ^ n * 2 ^ n) (by omega)]
  have : 2 ^ N - X.toNat / 2 ^ n * 2 ^ n + X.toNat = X.toNat % 2 ^ n + 2 ^ N := by omega
  rw [this, Nat.add_mod_right, Nat.mod_eq_of_lt]
  have := Nat.mod_le X.toNat (2 ^ n); omega
theorem ssr_neg {N : Nat} (X : BitVec N) (hN : 0 < N) : X.sshiftRight (N - 1) = if X.toInt < 0 then BitVec.allOnes N else 0#N := by
  have hm := BitVec.msb_eq_toInt (x := X)
  apply BitVec.eq_of_getLsbD_eq
  intro i hi
  rw [BitVec.getLsbD_sshiftRight, decide_eq_false (show ¬ N ≤ i by omega)]
  have : (if N - 1 + i < N then X.getLsbD (N - 1 + i) else X.msb) = X.msb := by
    split
    · rw [show N - 1 + i = N - 1 by omega, BitVec.msb_eq_getLsbD_last]
    · rfl
  rw [this, hm]
  split
  · rename_i h; simp [h, hi]
  · rename_i h; simp [h]
theorem shl_mul {N : Nat} (X : BitVec N) (n : Nat) : X <<< n = X * (1#N <<< n) := by
  rw [BitVec.shiftLeft_eq_mul_twoPow, BitVec.twoPow_eq]
theorem shr_div {N : Nat} (X : BitVec N) (n : Nat) (hn : n < N) : X >>> n = X / (1#N <<< n) := by
  rw [← BitVec.twoPow_eq, BitVec.udiv_twoPow_eq_of_lt hn]
theorem kof32 (Y : BitVec 32) : (Y.toNat : Int) % 32 = ((Y.toNat % 32 : Nat) : Int) := by omega
theorem shl32 (X : BitVec 32) (n : Nat) (hn : n ≤ 32) : vShl .u32 (X.toNat : Int) (n : Int) = ((X <<< n).toNat : Int) := by
  rw [vShl_eq .u32 _ _ hn, show ((X.toNat : Int) * 2 ^ n) = ((X.toNat * 2 ^ n : Nat) : Int) by push_cast; rfl, w32, BitVec.toNat_shiftLeft, Nat.shiftLeft_eq, BitVec.toNat_ofNat]
theorem shr32 (X : BitVec 32) (n : Nat) (hn : n ≤ 32) : vShr .u32 (X.toNat : Int) (n : Int) = ((X >>> n).toNat : Int) := by
  rw [vShr_eq .u32 _ _ hn, BitVec.toNat_ushiftRight, Nat.shiftRight_eq_div_pow]; push_cast; rfl
theorem or32' (X Y : BitVec 32) : vOr .u32 (X.toNat : Int) (Y.toNat : Int) = ((X ||| Y).toNat : Int) := by
  unfold vOr
  rw [show IntKind.bits .u32 = 32 from rfl, ofInt_nat, ofInt_nat]
  have := w32 (X ||| Y).toNat
  unfold vWrap at this
  rw [this]; simp
section
variable (X Y : BitVec 32)
theorem b32_10 : rkS .u32 32 10 X.toNat Y.toNat = (X <<< (Y.toNat % 32)).toNat := by
  rw [rkS, if_neg (by decide), if_neg (by decide), if_neg (by decide), if_neg (by decide), if_neg (by decide), if_neg (by decide), if_pos rfl, kof32, shl32 _ _ (by omega)]
theorem b32_12 : rkS .u32 32 12 X.toNat Y.toNat = (X >>> (Y.toNat % 32)).toNat := by
  rw [rkS, if_neg (by decide), if_neg (by decide), if_neg (by decide), if_neg (by decide), if_neg (by decide), if_neg (by decide), if_neg (by decide), if_neg (by decide), if_pos rfl, kof32, shr32 _ _ (by omega)]
theorem b32_13 : rkS .u32 32 13 X.toNat Y.toNat = (X.rotateLeft Y.toNat).toNat := by
  have e : ((32 : Int) - ((Y.toNat % 32 : Nat) : Int)) = ((32 - Y.toNat % 32 : Nat) : Int) := by omega
  rw [rkS, if_neg (by decide), if_neg (by decide), if_neg (by decide), if_neg (by decide), if_neg (by decide), if_neg (by decide), if_neg (by decide), if_neg (by decide), if_neg (by decide), if_pos rfl, kof32, e, shl32 _ _ (by omega), shr32 _ _ (by omega), or32', BitVec.rotateLeft_def]
theorem b32_14 : rkS .u32 32 14 X.toNat Y.toNat = (X.rotateRight Y.toNat).toNat := by
  have e : ((32 : Int) - ((Y.toNat % 32 : Nat) : Int)) = ((32 - Y.toNat % 32 : Nat) : Int) := by omega
  rw [rkS, if_neg (by decide), if_neg (by decide), if_neg (by decide), if_neg (by decide), if_neg (by decide), if_neg (by decide), if_neg (by decide), if_neg (by decide), if_neg (by decide), if_neg (by decide), kof32, e, shl32 _ _ (by omega), shr32 _ _ (by omega), or32', BitVec.rotateRight_def]
theorem b32_11 : rkS .u32 32 11 X.toNat Y.toNat = (X.sshiftRight (Y.toNat % 32)).toNat := by
  have hk : Y.toNat % 32 < 32 := Nat.mod_lt _ (by decide)
  rw [rkS, if_neg (by decide), if_neg (by decide), if_neg (by decide), if_neg (by decide), if_neg (by decide), if_neg (by decide), if_neg (by decide), if_pos rfl, kof32, show ((32 : Int) - 1) = ((32 - 1 : Nat) : Int) from rfl]
  generalize Y.toNat % 32 = n at *
  have e : ((32 : Int) - (n : Int)) = ((32 - n : Nat) : Int) := by omega
  have hm : vShr .u32 (X.toNat : Int) ((32 - 1 : Nat) : Int) ≠ 0 ↔ X.msb = true := by
    rw [shr32 _ _ (by decide), ← msb_shr X (by decide), BitVec.toNat_ushiftRight, Nat.shiftRight_eq_div_pow]
    omega
  rw [shr32 X n (by omega), e]
  split
  · rename_i h
    have h1 := hm.1 h.2
    rw [show IntKind.max .u32 = ((BitVec.allOnes 32).toNat : Int) from rfl, shl32 _ _ (by omega), or32', ssr_or X n (by omega) h1]
  · rename_i h
    by_cases h1 : X.msb = true
    · have h0 : n = 0 := by
        apply Decidable.byContradiction
        intro h0; exact h ⟨by omega, hm.2 h1⟩
      subst h0; simp
    · rw [BitVec.sshiftRight_eq_of_msb_false (by simpa using h1)]
end
theorem toIntK32 (K : BitVec 32) (h : K.toNat ≤ 2 * 32) : K.toInt = (K.toNat : Int) := by
  rw [BitVec.toInt_eq_toNat_cond, if_pos (by omega)]
theorem restK32 (B K : BitVec 32) (h : K.toNat = B.toNat % 32) : B.toInt % 32 = K.toInt := by
  have h0 := B.isLt
  rw [toIntK32 K (by omega), BitVec.toInt_eq_toNat_cond, h]
  split <;> omega
theorem cmp73_32 (X Y : BitVec 32) : twoS (widthS 73 false) X.toInt Y.toInt = (b2i (decide (X.toNat < Y.toNat)), 0) := by
  rw [show widthS 73 false = 73 from rfl, twoS, if_pos (by omega), show ((73 : Int) - 70) = 3 from rfl, cmpS, if_neg (by decide), if_neg (by decide), if_neg (by decide), if_pos rfl, u32_int, u32_int]
  simp only [Int.ofNat_lt]
theorem kof64 (Y : BitVec 64) : (Y.toNat : Int) % 64 = ((Y.toNat % 64 : Nat) : Int) := by omega
theorem shl64 (X : BitVec 64) (n : Nat) (hn : n ≤ 64) : vShl .u64 (X.toNat : Int) (n : Int) = ((X <<< n).toNat : Int) := by
  rw [vShl_eq .u64 _ _ hn, show ((X.toNat : Int) * 2 ^ n) = ((X.toNat * 2 ^ n : Nat) : Int) by push_cast; rfl, w64, BitVec.toNat_shiftLeft, Nat.shiftLeft_eq, BitVec.toNat_ofNat]
theorem shr64 (X : BitVec 64) (n : Nat) (hn : n ≤ 64) : vShr .u64 (X.toNat : Int) (n : Int) = ((X >>> n).toNat : Int) := by
  rw [vShr_eq .u64 _ _ hn, BitVec.toNat_ushiftRight, Nat.shiftRight_eq_div_pow]; push_cast; rfl
theorem or64' (X Y : BitVec 64) : vOr .u64 (X.toNat : Int) (Y.toNat : Int) = ((X ||| Y).toNat : Int) := by
  unfold vOr
  rw [show IntKind.bits .u64 = 64 from rfl, ofInt_nat, ofInt_nat]
  have := w64 (X ||| Y).toNat
  unfold vWrap at this
  rw [this]; simp
section
variable (X Y : BitVec 64)
theorem b64_10 : rkS .u64 64 10 X.toNat Y.toNat = (X <<< (Y.toNat % 64)).toNat := by
  rw [rkS, if_neg (by decide), if_neg (by decide), if_neg (by decide), if_neg (by decide), if_neg (by decide), if_neg (by decide), if_pos rfl, kof64, shl64 _ _ (by omega)]
theorem b64_12 : rkS .u64 64 12 X.toNat Y.toNat = (X >>> (Y.toNat % 64)).toNat := by
  rw [rkS, if_neg (by decide), if_neg (by decide), if_neg (by decide), if_neg (by decide), if_neg (by decide), if_neg (by decide), if_neg (by decide), if_neg (by decide), if_pos rfl, kof64, shr64 _ _ (by omega)]
theorem b64_13 : rkS .u64 64 13 X.toNat Y.toNat = (X.rotateLeft Y.toNat).toNat := by
  have e : ((64 : Int) - ((Y.toNat % 64 : Nat) : Int)) = ((64 - Y.toNat % 64 : Nat) : Int) := by omega
  rw [rkS, if_neg (by decide), if_neg (by decide), if_neg (by decide), if_neg (by decide), if_neg (by decide), if_neg (by decide), if_neg (by decide), if_neg (by decide), if_neg (by decide), if_pos rfl, kof64, e, shl64 _ _ (by omega), shr64 _ _ (by omega), or64', BitVec.rotateLeft_def]
theorem b64_14 : rkS .u64 64 14 X.toNat Y.toNat = (X.rotateRight Y.toNat).toNat := by
  have e : ((64 : Int) - ((Y.toNat % 64 : Nat) : Int)) = ((64 - Y.toNat % 64 : Nat) : Int) := by omega
  rw [rkS, if_neg (by decide), if_neg (by decide), if_neg (by decide), if_neg (by decide), if_neg (by decide), if_neg (by decide), if_neg (by decide), if_neg (by decide), if_neg (by decide), if_neg (by decide), kof64, e, shl64 _ _ (by omega), shr64 _ _ (by omega), or64', BitVec.rotateRight_def]
theorem b64_11 : rkS .u64 64 11 X.toNat Y.toNat = (X.sshiftRight (Y.toNat % 64)).toNat := by
  have hk : Y.toNat % 64 < 64 := Nat.mod_lt _ (by decide)
  rw [rkS, if_neg (by decide), if_neg (by decide), if_neg (by decide), if_neg (by decide), if_neg (by decide), if_neg (by decide), if_neg (by decide), if_pos rfl, kof64, show ((64 : Int) - 1) = ((64 - 1 : Nat) : Int) from rfl]
  generalize Y.toNat % 64 = n at *
  have e : ((64 : Int) - (n : Int)) = ((64 - n : Nat) : Int) := by omega
  have hm : vShr .u64 (X.toNat : Int) ((64 - 1 : Nat) : Int) ≠ 0 ↔ X.msb = true := by
    rw [shr64 _ _ (by decide), ← msb_shr X (by decide), BitVec.toNat_ushiftRight, Nat.shiftRight_eq_div_pow]
    omega
  rw [shr64 X n (by omega), e]
  split
  · rename_i h
    have h1 := hm.1 h.2
    rw [show IntKind.max .u64 = ((BitVec.allOnes 64).toNat : Int) from rfl, shl64 _ _ (by omega), or64', ssr_or X n (by omega) h1]
  · rename_i h
    by_cases h1 : X.msb = true
    · have h0 : n = 0 := by
        apply Decidable.byContradiction
        intro h0; exact h ⟨by omega, hm.2 h1⟩
      subst h0; simp
    · rw [BitVec.sshiftRight_eq_of_msb_false (by simpa using h1)]
end
theorem toIntK64 (K : BitVec 64) (h : K.toNat ≤ 2 * 64) : K.toInt = (K.toNat : Int) := by
  rw [BitVec.toInt_eq_toNat_cond, if_pos (by omega)]
theorem restK64 (B K : BitVec 64) (h : K.toNat = B.toNat % 64) : B.toInt % 64 = K.toInt := by
  have h0 := B.isLt
  rw [toIntK64 K (by omega), BitVec.toInt_eq_toNat_cond, h]
  split <;> omega
theorem cmp73_64 (X Y : BitVec 64) : twoS (widthS 73 true) X.toInt Y.toInt = (b2i (decide (X.toNat < Y.toNat)), 0) := by
  rw [show widthS 73 true = 84 from rfl, twoS, if_neg (by omega), if_pos (by omega), show ((84 : Int) - 81) = 3 from rfl, cmpS, if_neg (by decide), if_neg (by decide), if_neg (by decide), if_pos rfl, u64_int, u64_int]
  simp only [Int.ofNat_lt]
end Go.Proofs.YtobepdjhihjcdaaDoor.Num
