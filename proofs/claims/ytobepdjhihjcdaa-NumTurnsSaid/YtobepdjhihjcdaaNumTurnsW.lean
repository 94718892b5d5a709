/- The walk of the law NumTurns. -/
import Derived.Test.YtobepdjhihjcdaaNumL
import Derived.Test.YtobepdjhihjcdaaRest
import Derived.Test.YtobepdjhihjcdaaNumPlainlyW
set_option maxRecDepth 100000
set_option linter.unusedVariables false
namespace Go.Proofs.Ytobepdjhihjcdaa.Num
open Go Go.Proofs.Ytobepdjhihjcdaa.Eng Go.RowKit
theorem rl {N : Nat} (X : BitVec N) (r i : Nat) (hi : i < N) : (X.rotateLeft r).getLsbD i = if i < r % N then X.getLsbD (N - r % N + i) else X.getLsbD (i - r % N) := by
  rw [BitVec.getLsbD_rotateLeft]
  by_cases h : i < r % N
  · rw [decide_eq_true h, if_pos h]; rfl
  · rw [decide_eq_false h, if_neg h, decide_eq_true hi]; simp
theorem rr {N : Nat} (X : BitVec N) (r i : Nat) (hi : i < N) : (X.rotateRight r).getLsbD i = if i < N - r % N then X.getLsbD (r % N + i) else X.getLsbD (i - (N - r % N)) := by
  rw [BitVec.getLsbD_rotateRight]
  by_cases h : i < N - r % N
  · rw [decide_eq_true h, if_pos h]; rfl
  · rw [decide_eq_false h, if_neg h, decide_eq_true hi]; simp
theorem rot_back {N : Nat} (hN : 0 < N) (X : BitVec N) (n : Nat) : (X.rotateLeft n).rotateRight n = X := by
  apply BitVec.eq_of_getLsbD_eq
  intro i hi
  have hn := Nat.mod_lt n hN
  rw [rr _ _ _ hi]
  split
  · rw [rl _ _ _ (by omega), if_neg (by omega), show n % N + i - n % N = i by omega]
  · rw [rl _ _ _ (by omega), if_pos (by omega), show N - n % N + (i - (N - n % N)) = i by omega]
theorem rot_rot {N : Nat} (hN : 0 < N) (X : BitVec N) (n m k : Nat) (hk : k % N = (n % N + m % N) % N) : (X.rotateLeft n).rotateLeft m = X.rotateLeft k := by
  apply BitVec.eq_of_getLsbD_eq
  intro i hi
  have hn := Nat.mod_lt n hN
  have hm := Nat.mod_lt m hN
  have hs : (n % N + m % N) % N = if n % N + m % N < N then n % N + m % N else n % N + m % N - N := by
    split
    · exact Nat.mod_eq_of_lt (by assumption)
    · rw [Nat.mod_eq_sub_mod (by omega), Nat.mod_eq_of_lt (by omega)]
  rw [rl _ _ _ hi, rl _ _ _ hi, hk, hs]
  have r1 := fun i hi => rl X n i hi
  generalize n % N = a at *
  generalize m % N = b at *
  by_cases h1 : i < b
  · rw [if_pos h1, r1 _ (by omega)]
    by_cases h2 : a + b < N
    · rw [if_pos h2, if_neg (by omega), if_pos (by omega), show N - (a + b) + i = N - b + i - a by omega]
    · rw [if_neg h2]
      by_cases h3 : i < a + b - N
      · rw [if_pos (by omega), if_pos h3]; congr 1; omega
      · rw [if_neg (by omega), if_neg h3, show N - b + i - a = i - (a + b - N) by omega]
  · rw [if_neg h1, r1 _ (by omega)]
    by_cases h2 : a + b < N
    · rw [if_pos h2]
      by_cases h3 : i < a + b
      · rw [if_pos (by omega), if_pos h3, show N - a + (i - b) = N - (a + b) + i by omega]
      · rw [if_neg (by omega), if_neg h3, show i - b - a = i - (a + b) by omega]
    · rw [if_neg h2, if_pos (by omega), if_neg (by omega), show N - a + (i - b) = i - (a + b - N) by omega]
theorem rot_right {N : Nat} (hN : 0 < N) (X : BitVec N) (n k : Nat) (hk : k % N = (N - n % N) % N) : X.rotateLeft n = X.rotateRight k := by
  apply BitVec.eq_of_getLsbD_eq
  intro i hi
  have hn := Nat.mod_lt n hN
  rw [rl _ _ _ hi, rr _ _ _ hi, hk]
  by_cases h0 : n % N = 0
  · rw [h0, Nat.sub_zero, Nat.mod_self, if_neg (by omega), if_pos (by omega)]; congr 1; omega
  · rw [Nat.mod_eq_of_lt (a := N - n % N) (by omega)]
    by_cases h : i < n % N
    · rw [if_pos h, if_pos (by omega)]
    · rw [if_neg h, if_neg (by omega)]; congr 1; omega
theorem ssr_or {N : Nat} (X : BitVec N) (n : Nat) (hn : n ≤ N) (h : X.msb = true) : X.sshiftRight n = (X >>> n) ||| (BitVec.allOnes N <<< (N - n)) := by
  rw [BitVec.sshiftRight_eq_of_msb_true h]
  apply BitVec.eq_of_getLsbD_eq
  intro i hi
  simp only [BitVec.getLsbD_not, BitVec.getLsbD_ushiftRight, BitVec.getLsbD_or, BitVec.getLsbD_shiftLeft, BitVec.getLsbD_allOnes, hi, decide_true, Bool.true_and]
  by_cases h1 : i < N - n
  · rw [decide_eq_true h1, decide_eq_true (show n + i < N by omega)]
    simp
  · rw [decide_eq_false h1, decide_eq_false (show ¬ n + i < N by omega)]
    simp
    omega
theorem msb_shr {N : Nat} (X : BitVec N) (hN : 0 < N) : (X.toNat / 2 ^ (N - 1) ≠ 0) ↔ X.msb = true := by
  rw [BitVec.msb_eq_decide, decide_eq_true_eq, Ne, Nat.div_eq_zero_iff]
  have := Nat.two_pow_pos (N-1)
  omega
theorem back_eq {N : Nat} (X : BitVec N) (n : Nat) (hn : n < N) : (X - (X.sshiftRight n <<< n)).toNat = X.toNat % 2 ^ n := by
  have h : X.sshiftRight n <<< n = X >>> n <<< n := by
    apply BitVec.eq_of_getLsbD_eq
    intro i hi
    simp only [BitVec.getLsbD_shiftLeft, BitVec.getLsbD_sshiftRight, BitVec.getLsbD_ushiftRight, hi, decide_true, Bool.true_and]
    by_cases h1 : i < n
    · simp [h1]
    · rw [show n + (i - n) = i by omega, if_pos hi, decide_eq_false (show ¬ N ≤ i - n by omega)]; simp
  rw [h, BitVec.toNat_sub, BitVec.toNat_shiftLeft, BitVec.toNat_ushiftRight, Nat.shiftRight_eq_div_pow, Nat.shiftLeft_eq]
  have e := Nat.div_add_mod' X.toNat (2 ^ n)
  have hx := X.isLt
  rw [Nat.mod_eq_of_lt (a := X.toNat / 2 ^ n * 2 ^ n) (by omega)]
  have : 2 ^ N - X.toNat / 2 ^ n * 2 ^ n + X.toNat = X.toNat % 2 ^ n + 2 ^ N := by omega
  rw [this, Nat.add_mod_right, Nat.mod_eq_of_lt]
  have := Nat.mod_le X.toNat (2 ^ n); omega
theorem ssr_neg {N : Nat} (X : BitVec N) (hN : 0 < N) : X.sshiftRight (N - 1) = if X.toInt < 0 then BitVec.allOnes N else 0#N := by
  have hm := BitVec.msb_eq_toInt (x := X)
  apply BitVec.eq_of_getLsbD_eq
  intro i hi
  rw [BitVec.getLsbD_sshiftRight, decide_eq_false (show ¬ N ≤ i by omega)]
  have : (if N - 1 + i < N then X.getLsbD (N - 1 + i) else X.msb) = X.msb := by
    split
    · rw [show N - 1 + i = N - 1 by omega, BitVec.msb_eq_getLsbD_last]
    · rfl
  rw [this, hm]
  split
  · rename_i h; simp [h, hi]
  · rename_i h; simp [h]
theorem shl_mul {N : Nat} (X : BitVec N) (n : Nat) : X <<< n = X * (1#N <<< n) := by
  rw [BitVec.shiftLeft_eq_mul_twoPow, BitVec.twoPow_eq]
theorem shr_div {N : Nat} (X : BitVec N) (n : Nat) (hn : n < N) : X >>> n = X / (1#N <<< n) := by
  rw [← BitVec.twoPow_eq, BitVec.udiv_twoPow_eq_of_lt hn]
theorem kof32 (Y : BitVec 32) : (Y.toNat : Int) % 32 = ((Y.toNat % 32 : Nat) : Int) := by omega
theorem shl32 (X : BitVec 32) (n : Nat) (hn : n ≤ 32) : vShl .u32 (X.toNat : Int) (n : Int) = ((X <<< n).toNat : Int) := by
  rw [vShl_eq .u32 _ _ hn, show ((X.toNat : Int) * 2 ^ n) = ((X.toNat * 2 ^ n : Nat) : Int) by push_cast; rfl, w32, BitVec.toNat_shiftLeft, Nat.shiftLeft_eq, BitVec.toNat_ofNat]
theorem shr32 (X : BitVec 32) (n : Nat) (hn : n ≤ 32) : vShr .u32 (X.toNat : Int) (n : Int) = ((X >>> n).toNat : Int) := by
  rw [vShr_eq .u32 _ _ hn, BitVec.toNat_ushiftRight, Nat.shiftRight_eq_div_pow]; push_cast; rfl
theorem or32' (X Y : BitVec 32) : vOr .u32 (X.toNat : Int) (Y.toNat : Int) = ((X ||| Y).toNat : Int) := by
  unfold vOr
  rw [show IntKind.bits .u32 = 32 from rfl, ofInt_nat, ofInt_nat]
  have := w32 (X ||| Y).toNat
  unfold vWrap at this
  rw [this]; simp
section
variable (X Y : BitVec 32)
theorem b32_10 : rkS .u32 32 10 X.toNat Y.toNat = (X <<< (Y.toNat % 32)).toNat := by
  rw [rkS, if_neg (by decide), if_neg (by decide), if_neg (by decide), if_neg (by decide), if_neg (by decide), if_neg (by decide), if_pos rfl, kof32, shl32 _ _ (by omega)]
theorem b32_12 : rkS .u32 32 12 X.toNat Y.toNat = (X >>> (Y.toNat % 32)).toNat := by
  rw [rkS, if_neg (by decide), if_neg (by decide), if_neg (by decide), if_neg (by decide), if_neg (by decide), if_neg (by decide), if_neg (by decide), if_neg (by decide), if_pos rfl, kof32, shr32 _ _ (by omega)]
theorem b32_13 : rkS .u32 32 13 X.toNat Y.toNat = (X.rotateLeft Y.toNat).toNat := by
  have e : ((32 : Int) - ((Y.toNat % 32 : Nat) : Int)) = ((32 - Y.toNat % 32 : Nat) : Int) := by omega
  rw [rkS, if_neg (by decide), if_neg (by decide), if_neg (by decide), if_neg (by decide), if_neg (by decide), if_neg (by decide), if_neg (by decide), if_neg (by decide), if_neg (by decide), if_pos rfl, kof32, e, shl32 _ _ (by omega), shr32 _ _ (by omega), or32', BitVec.rotateLeft_def]
theorem b32_14 : rkS .u32 32 14 X.toNat Y.toNat = (X.rotateRight Y.toNat).toNat := by
  have e : ((32 : Int) - ((Y.toNat % 32 : Nat) : Int)) = ((32 - Y.toNat % 32 : Nat) : Int) := by omega
  rw [rkS, if_neg (by decide), if_neg (by decide), if_neg (by decide), if_neg (by decide), if_neg (by decide), if_neg (by decide), if_neg (by decide), if_neg (by decide), if_neg (by decide), if_neg (by decide), kof32, e, shl32 _ _ (by omega), shr32 _ _ (by omega), or32', BitVec.rotateRight_def]
theorem b32_11 : rkS .u32 32 11 X.toNat Y.toNat = (X.sshiftRight (Y.toNat % 32)).toNat := by
  have hk : Y.toNat % 32 < 32 := Nat.mod_lt _ (by decide)
  rw [rkS, if_neg (by decide), if_neg (by decide), if_neg (by decide), if_neg (by decide), if_neg (by decide), if_neg (by decide), if_neg (by decide), if_pos rfl, kof32, show ((32 : Int) - 1) = ((32 - 1 : Nat) : Int) from rfl]
  generalize Y.toNat % 32 = n at *
  have e : ((32 : Int) - (n : Int)) = ((32 - n : Nat) : Int) := by omega
  have hm : vShr .u32 (X.toNat : Int) ((32 - 1 : Nat) : Int) ≠ 0 ↔ X.msb = true := by
    rw [shr32 _ _ (by decide), ← msb_shr X (by decide), BitVec.toNat_ushiftRight, Nat.shiftRight_eq_div_pow]
    omega
  rw [shr32 X n (by omega), e]
  split
  · rename_i h
    have h1 := hm.1 h.2
    rw [show IntKind.max .u32 = ((BitVec.allOnes 32).toNat : Int) from rfl, shl32 _ _ (by omega), or32', ssr_or X n (by omega) h1]
  · rename_i h
    by_cases h1 : X.msb = true
    · have h0 : n = 0 := by
        apply Decidable.byContradiction
        intro h0; exact h ⟨by omega, hm.2 h1⟩
      subst h0; simp
    · rw [BitVec.sshiftRight_eq_of_msb_false (by simpa using h1)]
end
theorem toIntK32 (K : BitVec 32) (h : K.toNat ≤ 2 * 32) : K.toInt = (K.toNat : Int) := by
  rw [BitVec.toInt_eq_toNat_cond, if_pos (by omega)]
theorem restK32 (B K : BitVec 32) (h : K.toNat = B.toNat % 32) : B.toInt % 32 = K.toInt := by
  have h0 := B.isLt
  rw [toIntK32 K (by omega), BitVec.toInt_eq_toNat_cond, h]
  split <;> omega
theorem cmp73_32 (X Y : BitVec 32) : twoS (widthS 73 false) X.toInt Y.toInt = (b2i (decide (X.toNat < Y.toNat)), 0) := by
  rw [show widthS 73 false = 73 from rfl, twoS, if_pos (by omega), show ((73 : Int) - 70) = 3 from rfl, cmpS, if_neg (by decide), if_neg (by decide), if_neg (by decide), if_pos rfl, u32_int, u32_int]
  simp only [Int.ofNat_lt]
theorem tleft32 (X Y : BitVec 32) {w0 : World} {b : Nat} {w : World} (E : Env false w0 b w) :
    Fc Try.prog 21 #[.int .i64 X.toInt, .int .i64 Y.toInt, .pointer (some ⟨b, 0, none⟩)] w (fun v w' => v = .int .i64 (X.rotateLeft Y.toNat).toInt ∧ Env false w0 b w') := by
  refine Fc.of Try.func21 rfl (by kernel_rfl) ?_
  refine rLoad0 E.at_ rfl rfl ?_
  refine CallP.mk (Fc.imp (width 119 false (by decide) _) ?_)
  rintro _ _ ⟨⟨r, rfl, hr⟩, rfl⟩
  refine CallP.mk (Fc.imp (two r _ _ (by rw [hr]; decide) (rngI32 X) (rngI32 Y) _) ?_)
  rintro _ w1 ⟨⟨s, rfl, hs⟩, hst⟩
  exact Done.mk ⟨by rw [hs, hr, show widthS 119 false = 106 + 13 from rfl, rk32 X Y (by omega) (b32_13 X Y)], E.still hst⟩
theorem tright32 (X Y : BitVec 32) {w0 : World} {b : Nat} {w : World} (E : Env false w0 b w) :
    Fc Try.prog 22 #[.int .i64 X.toInt, .int .i64 Y.toInt, .pointer (some ⟨b, 0, none⟩)] w (fun v w' => v = .int .i64 (X.rotateRight Y.toNat).toInt ∧ Env false w0 b w') := by
  refine Fc.of Try.func22 rfl (by kernel_rfl) ?_
  refine rLoad0 E.at_ rfl rfl ?_
  refine CallP.mk (Fc.imp (width 120 false (by decide) _) ?_)
  rintro _ _ ⟨⟨r, rfl, hr⟩, rfl⟩
  refine CallP.mk (Fc.imp (two r _ _ (by rw [hr]; decide) (rngI32 X) (rngI32 Y) _) ?_)
  rintro _ w1 ⟨⟨s, rfl, hs⟩, hst⟩
  exact Done.mk ⟨by rw [hs, hr, show widthS 120 false = 106 + 14 from rfl, rk32 X Y (by omega) (b32_14 X Y)], E.still hst⟩
theorem tup32 (X Y : BitVec 32) {w0 : World} {b : Nat} {w : World} (E : Env false w0 b w) :
    Fc Try.prog 23 #[.int .i64 X.toInt, .int .i64 Y.toInt, .pointer (some ⟨b, 0, none⟩)] w (fun v w' => v = .int .i64 (X <<< (Y.toNat % 32)).toInt ∧ Env false w0 b w') := by
  refine Fc.of Try.func23 rfl (by kernel_rfl) ?_
  refine rLoad0 E.at_ rfl rfl ?_
  refine CallP.mk (Fc.imp (width 116 false (by decide) _) ?_)
  rintro _ _ ⟨⟨r, rfl, hr⟩, rfl⟩
  refine CallP.mk (Fc.imp (two r _ _ (by rw [hr]; decide) (rngI32 X) (rngI32 Y) _) ?_)
  rintro _ w1 ⟨⟨s, rfl, hs⟩, hst⟩
  exact Done.mk ⟨by rw [hs, hr, show widthS 116 false = 106 + 10 from rfl, rk32 X Y (by omega) (b32_10 X Y)], E.still hst⟩
theorem numTurns32 (a n m : Int) (ha : -9223372036854775808 ≤ a ∧ a ≤ 9223372036854775807) (hn : -9223372036854775808 ≤ n ∧ n ≤ 9223372036854775807) (hm : -9223372036854775808 ≤ m ∧ m ≤ 9223372036854775807) (w : World) : Fc Try.prog 7 #[.int .i64 a, .int .i64 n, .int .i64 m, .bool false] w (fun v w' => v = .bool true ∧ Below w.heap.size w w') := by
  refine Fc.of Try.func7 rfl (by kernel_rfl) ?_
  refine rBox ?_
  intro w1 n1
  refine rLoad0 n1.blk.at rfl rfl ?_
  refine rBuildSlice (z := .int .i64 0) (sz := 1) rfl rfl rfl (by decide) ?_
  intro w2 n2
  obtain ⟨A, ea⟩ := fit32 a
  obtain ⟨N, en⟩ := fit32 n
  obtain ⟨M, em⟩ := fit32 m
  refine CallP.mk (Fc.imp (fits false w1.heap.size [a, n, m] [A.toInt, N.toInt, M.toInt] 3 rfl (by simp only [List.map, ea, en, em]) (by decide) _ w2 n2.blk) ?_)
  rintro _ w3 ⟨rfl, b3, u3⟩
  have k1 : At w3 w.heap.size 0 [.bool false] := (n1.blk.at.below n2.below (by rw [n1.size]; omega)).keep (u3.block _ (by rw [n1.size]; omega))
  have g3 : Below w.heap.size w w3 := u3.below (n1.below.trans (n2.below.mono (by rw [n1.size]; omega))) (by rw [n1.size]; omega)
  refine draw (fun wx => Blk wx w1.heap.size (List.map (Value.int .i64) [A.toInt, N.toInt, M.toInt]) 2) [(0, true), (1, true), (2, true), (3, true), (4, true), (5, true), (6, true), (7, true), (8, true), (9, true), (10, true), (11, true)] mixed (by kernel_rfl) (fun w4 h4 => ⟨by rw [h4]; exact b3, ?_⟩)
  refine tk (fun wx hS => rIdx 1 0 0 rfl (by decide) rfl rfl rfl ⟨rfl, rfl⟩) ?_
  refine tk (v := .int .i64 A.toInt) (fun wx hS => rLoadC (hS.at.cell (i := 0) rfl) rfl rfl ⟨rfl, rfl⟩) ?_
  refine tk (fun wx hS => rIdx 1 1 1 rfl (by decide) rfl rfl rfl ⟨rfl, rfl⟩) ?_
  refine tk (v := .int .i64 N.toInt) (fun wx hS => rLoadC (hS.at.cell (i := 1) rfl) rfl rfl ⟨rfl, rfl⟩) ?_
  refine tk (fun wx hS => rIdx 1 2 2 rfl (by decide) rfl rfl rfl ⟨rfl, rfl⟩) ?_
  refine tk (v := .int .i64 M.toInt) (fun wx hS => rLoadC (hS.at.cell (i := 2) rfl) rfl rfl ⟨rfl, rfl⟩) ?_
  have E : Env false w w.heap.size w4 := (⟨g3, k1⟩ : Env false w w.heap.size w3).still (by rw [h4]; exact Still.drew _)
  obtain ⟨K, hK⟩ : ∃ K : BitVec 32, K.toNat = N.toNat % 32 := ⟨BitVec.ofNat 32 (N.toNat % 32), by rw [BitVec.toNat_ofNat]; omega⟩
  obtain ⟨K', hK'⟩ : ∃ K' : BitVec 32, K'.toNat = M.toNat % 32 := ⟨BitVec.ofNat 32 (M.toNat % 32), by rw [BitVec.toNat_ofNat]; omega⟩
  obtain ⟨K2, hK2⟩ : ∃ K2 : BitVec 32, K2.toNat = N.toNat % 32 + M.toNat % 32 := ⟨BitVec.ofNat 32 (N.toNat % 32 + M.toNat % 32), by rw [BitVec.toNat_ofNat]; omega⟩
  obtain ⟨K3, hK3⟩ : ∃ K3 : BitVec 32, K3.toNat = 32 - N.toNat % 32 := ⟨BitVec.ofNat 32 (32 - N.toNat % 32), by rw [BitVec.toNat_ofNat]; omega⟩
  have i1 := toIntK32 K (by omega)
  have i2 := toIntK32 K' (by omega)
  have i3 := toIntK32 K2 (by omega)
  have i4 := toIntK32 K3 (by omega)
  have hKm : K.toNat % 32 = N.toNat % 32 := by omega
  obtain ⟨q, hq⟩ : ∃ q, q = N.toNat % 32 := ⟨_, rfl⟩
  have hq' : q < 32 := by omega
  refine rLoad0 E.at_ rfl rfl ?_
  refine cF rfl ?_
  refine CallP.mk (Fc.imp (restW N.toInt 32 (rngI32 N) (by decide) _) ?_)
  rintro _ _ ⟨⟨k, rfl, hk⟩, rfl⟩
  rw [restK32 N K hK] at hk
  subst hk
  refine CallP.mk (Fc.imp (Fc.arg (tup32 (1#32) (K) E) (rfl)) ?_)
  clear E
  rintro _ w8 ⟨rfl, E⟩
  rw [hKm, ← hq]
  obtain ⟨Pw, hP⟩ : ∃ Pw, Pw = 1#32 <<< q := ⟨_, rfl⟩
  rw [← hP]
  refine rLoad0 E.at_ rfl rfl ?_
  refine CallP.mk (Fc.imp (width 117 false (by decide) _) ?_)
  rintro _ _ ⟨⟨r1, rfl, hr1⟩, rfl⟩
  refine CallP.mk (Fc.imp (two r1 (A).toInt (N).toInt (by rw [hr1]; decide) (rngI32 _) (rngI32 (N)) _) ?_)
  rintro _ w8 ⟨⟨s1, rfl, hs1⟩, hst⟩
  replace E := E.still hst
  rw [hr1, show widthS 117 false = 106 + 11 from rfl, rk32 (A) (N) (by omega) (b32_11 _ _)] at hs1
  subst hs1
  rw [← hq]
  refine rLoad0 E.at_ rfl rfl ?_
  refine CallP.mk (Fc.imp (width 107 false (by decide) _) ?_)
  rintro _ _ ⟨⟨r2, rfl, hr2⟩, rfl⟩
  refine CallP.mk (Fc.imp (tup32 (A.sshiftRight q) (N) E) ?_)
  clear E
  rintro _ w8 ⟨rfl, E⟩
  rw [← hq]
  refine CallP.mk (Fc.imp (two r2 (A).toInt ((A.sshiftRight q) <<< q).toInt (by rw [hr2]; decide) (rngI32 _) (rngI32 ((A.sshiftRight q) <<< q)) _) ?_)
  rintro _ w8 ⟨⟨s2, rfl, hs2⟩, hst⟩
  replace E := E.still hst
  rw [hr2, show widthS 107 false = 106 + 1 from rfl, rk32 (A) ((A.sshiftRight q) <<< q) (by omega) (a32_1 _ _)] at hs2
  subst hs2
  have hb := back_eq A q hq'
  obtain ⟨Bk, hB⟩ : ∃ Bk, Bk = A - (A.sshiftRight q) <<< q := ⟨_, rfl⟩
  rw [← hB]
  rw [← hB] at hb
  refine draws (fun wx => Env false w w.heap.size wx) [(0, true), (1, true), (2, true), (3, true), (5, true), (7, true), (4, false), (6, false), (8, true), (9, true), (10, true), (11, true), (12, true), (13, true), (15, true), (17, true), (18, true), (19, true), (20, true), (21, true), (14, false), (16, false), (22, false), (23, true), (24, false), (25, true), (26, true), (27, true), (28, true), (29, true), (30, true), (32, true), (33, true), (34, true), (35, true), (36, true), (31, false), (37, false), (38, true), (39, true), (40, true), (41, true), (42, true), (43, true), (45, true), (47, true), (48, true), (44, false), (46, false), (49, false), (50, true), (51, true), (52, true), (53, true), (55, true), (56, true), (58, true), (60, true), (61, true), (54, false), (57, false), (59, false), (62, false), (63, true), (64, true), (65, true), (66, true), (67, true), (68, true), (69, true), (71, true), (72, true), (70, false), (73, false), (74, true), (75, true), (76, true), (77, true), (78, true), (79, true), (80, true), (82, true), (83, true), (84, true), (81, false), (85, false), (86, true), (87, true), (88, true), (89, true)] mixed (by kernel_rfl) (fun w7 h7 => ⟨E.still (by rw [h7]; exact Still.drew _), ?_⟩)
  replace E : Env false w w.heap.size w7 := E.still (by rw [h7]; exact Still.drew _)
  refine CallP.mk (Fc.imp (tleft32 (A) (N) E) ?_)
  clear E
  rintro _ w8 ⟨rfl, E⟩
  refine KeepP.mk E ?_
  refine CallP.mk (Fc.imp (tright32 (A.rotateLeft N.toNat) (N) E) ?_)
  clear E
  rintro _ w8 ⟨rfl, E⟩
  refine KeepP.mk E ?_
  refine br_t (by rw [vEq_iff, decide_eq_true_eq]; exact congrArg BitVec.toInt (rot_back (by decide) A N.toNat)) ?_
  refine CallP.mk (Fc.imp (tleft32 (A) (N) E) ?_)
  clear E
  rintro _ w8 ⟨rfl, E⟩
  refine KeepP.mk E ?_
  refine CallP.mk (Fc.imp (tleft32 (A.rotateLeft N.toNat) (M) E) ?_)
  clear E
  rintro _ w8 ⟨rfl, E⟩
  refine KeepP.mk E ?_
  refine CallP.mk (Fc.imp (restW M.toInt 32 (rngI32 M) (by decide) _) ?_)
  rintro _ _ ⟨⟨k, rfl, hk⟩, rfl⟩
  rw [restK32 M K' hK'] at hk
  subst hk
  refine KeepP.mk E ?_
  refine CallP.mk (Fc.imp (Fc.arg (tleft32 (A) (K2) E) (by rw [i1, i2, i3, hK, hK', hK2, wi64 (by omega)]; rfl)) ?_)
  clear E
  rintro _ w8 ⟨rfl, E⟩
  refine KeepP.mk E ?_
  refine br_t (by rw [vEq_iff, decide_eq_true_eq]; exact congrArg BitVec.toInt (rot_rot (by decide) A N.toNat M.toNat K2.toNat (by rw [hK2]))) ?_
  refine CallP.mk (Fc.imp (tleft32 (A) (N) E) ?_)
  clear E
  rintro _ w8 ⟨rfl, E⟩
  refine KeepP.mk E ?_
  refine CallP.mk (Fc.imp (Fc.arg (tright32 (A) (K3) E) (by rw [i1, i4, hK, hK3, wi64 (by omega), show ((32 : Int) - ((N.toNat % 32 : Nat) : Int)) = ((32 - N.toNat % 32 : Nat) : Int) by omega])) ?_)
  clear E
  rintro _ w8 ⟨rfl, E⟩
  refine KeepP.mk E ?_
  refine br_t (by rw [vEq_iff, decide_eq_true_eq]; exact congrArg BitVec.toInt (rot_right (by decide) A N.toNat K3.toNat (by rw [hK3]))) ?_
  refine tk (fun wx hS => rLoad0 hS.at_ rfl rfl ⟨rfl, rfl⟩) ?_
  refine CallP.mk (Fc.imp (tup32 (A) (N) E) ?_)
  clear E
  rintro _ w8 ⟨rfl, E⟩
  refine KeepP.mk E ?_
  rw [← hq]
  refine CallP.mk (Fc.imp (width 108 false (by decide) _) ?_)
  rintro _ _ ⟨⟨r3, rfl, hr3⟩, rfl⟩
  refine KeepP.mk E ?_
  refine CallP.mk (Fc.imp (two r3 (A).toInt (Pw).toInt (by rw [hr3]; decide) (rngI32 _) (rngI32 (Pw)) _) ?_)
  rintro _ w8 ⟨⟨s3, rfl, hs3⟩, hst⟩
  replace E := E.still hst
  refine KeepP.mk E ?_
  rw [hr3, show widthS 108 false = 106 + 2 from rfl, rk32 (A) (Pw) (by omega) (a32_2 _ _)] at hs3
  subst hs3
  refine br_t (by rw [vEq_iff, decide_eq_true_eq]; exact congrArg BitVec.toInt (by rw [hP]; exact shl_mul A q)) ?_
  refine tk (fun wx hS => rLoad0 hS.at_ rfl rfl ⟨rfl, rfl⟩) ?_
  refine tk (fun wx hS => rLoad0 hS.at_ rfl rfl ⟨rfl, rfl⟩) ?_
  refine CallP.mk (Fc.imp (width 118 false (by decide) _) ?_)
  rintro _ _ ⟨⟨r4, rfl, hr4⟩, rfl⟩
  refine KeepP.mk E ?_
  refine CallP.mk (Fc.imp (two r4 (A).toInt (N).toInt (by rw [hr4]; decide) (rngI32 _) (rngI32 (N)) _) ?_)
  rintro _ w8 ⟨⟨s4, rfl, hs4⟩, hst⟩
  replace E := E.still hst
  refine KeepP.mk E ?_
  rw [hr4, show widthS 118 false = 106 + 12 from rfl, rk32 (A) (N) (by omega) (b32_12 _ _)] at hs4
  subst hs4
  rw [← hq]
  refine CallP.mk (Fc.imp (width 110 false (by decide) _) ?_)
  rintro _ _ ⟨⟨r5, rfl, hr5⟩, rfl⟩
  refine KeepP.mk E ?_
  refine CallP.mk (Fc.imp (two r5 (A).toInt (Pw).toInt (by rw [hr5]; decide) (rngI32 _) (rngI32 (Pw)) _) ?_)
  rintro _ w8 ⟨⟨s5, rfl, hs5⟩, hst⟩
  replace E := E.still hst
  refine KeepP.mk E ?_
  have hP2 : Pw.toNat = 2 ^ q := by
    rw [hP, BitVec.toNat_shiftLeft, Nat.shiftLeft_eq]
    have : 2 ^ q < 2 ^ 32 := Nat.pow_lt_pow_right (by decide) hq'
    simp [Nat.mod_eq_of_lt this]
  have hP0 : Pw.toNat ≠ 0 := by rw [hP2]; exact Nat.ne_of_gt (Nat.two_pow_pos q)
  rw [hr5, show widthS 110 false = 110 from rfl, (pq32 A Pw hP0).1] at hs5
  subst hs5
  refine br_t (by rw [vEq_iff, decide_eq_true_eq]; exact congrArg BitVec.toInt (by rw [hP]; exact shr_div A q hq')) ?_
  have hbk : Bk.toNat < Pw.toNat := by rw [hb, hP2]; exact Nat.mod_lt _ (Nat.two_pow_pos q)
  refine br (fun h0 => ?_) (fun h0 => ?_)
  · refine tk (fun wx hS => rLoad0 hS.at_ rfl rfl ⟨rfl, rfl⟩) ?_
    refine CallP.mk (Fc.imp (width 117 false (by decide) _) ?_)
    rintro _ _ ⟨⟨r7, rfl, hr7⟩, rfl⟩
    refine KeepP.mk E ?_
    refine CallP.mk (Fc.imp (Fc.arg (two r7 (A).toInt (31#32).toInt (by rw [hr7]; decide) (rngI32 _) (rngI32 (31#32)) _) (by rw [show vWrap .i64 (32 - 1) = 31 from wi64 (by omega)]; rfl)) ?_)
    rintro _ w8 ⟨⟨s7, rfl, hs7⟩, hst⟩
    replace E := E.still hst
    refine KeepP.mk E ?_
    rw [hr7, show widthS 117 false = 106 + 11 from rfl, rk32 (A) (31#32) (by omega) (b32_11 _ _)] at hs7
    subst hs7
    refine tk (fun wx _ => rBoolEq rfl ⟨rfl, rfl⟩) ?_
    refine Done.mk ⟨congrArg Value.bool ?_, E.below⟩
    rw [show ((31#32).toNat % 32) = 32 - 1 from rfl, ssr_neg A (by decide), vLt_iff, vEq_iff, beq_iff_eq]
    split
    · rename_i h; rw [decide_eq_true h]; rfl
    · rename_i h; rw [decide_eq_false h]; rfl
  · refine tk (fun wx hS => rLoad0 hS.at_ rfl rfl ⟨rfl, rfl⟩) ?_
    refine CallP.mk (Fc.imp (width 73 false (by decide) _) ?_)
    rintro _ _ ⟨⟨r6, rfl, hr6⟩, rfl⟩
    refine KeepP.mk E ?_
    refine CallP.mk (Fc.imp (two r6 (Bk).toInt (Pw).toInt (by rw [hr6]; decide) (rngI32 _) (rngI32 (Pw)) _) ?_)
    rintro _ w8 ⟨⟨s6, rfl, hs6⟩, hst⟩
    replace E := E.still hst
    refine KeepP.mk E ?_
    rw [hr6, cmp73_32, decide_eq_true hbk] at hs6
    refine br_t (by rw [vEq_iff, decide_eq_true_eq, hs6]; rfl) ?_
    refine tk (fun wx hS => rLoad0 hS.at_ rfl rfl ⟨rfl, rfl⟩) ?_
    refine CallP.mk (Fc.imp (width 117 false (by decide) _) ?_)
    rintro _ _ ⟨⟨r7, rfl, hr7⟩, rfl⟩
    refine KeepP.mk E ?_
    refine CallP.mk (Fc.imp (Fc.arg (two r7 (A).toInt (31#32).toInt (by rw [hr7]; decide) (rngI32 _) (rngI32 (31#32)) _) (by rw [show vWrap .i64 (32 - 1) = 31 from wi64 (by omega)]; rfl)) ?_)
    rintro _ w8 ⟨⟨s7, rfl, hs7⟩, hst⟩
    replace E := E.still hst
    refine KeepP.mk E ?_
    rw [hr7, show widthS 117 false = 106 + 11 from rfl, rk32 (A) (31#32) (by omega) (b32_11 _ _)] at hs7
    subst hs7
    refine tk (fun wx _ => rBoolEq rfl ⟨rfl, rfl⟩) ?_
    refine Done.mk ⟨congrArg Value.bool ?_, E.below⟩
    rw [show ((31#32).toNat % 32) = 32 - 1 from rfl, ssr_neg A (by decide), vLt_iff, vEq_iff, beq_iff_eq]
    split
    · rename_i h; rw [decide_eq_true h]; rfl
    · rename_i h; rw [decide_eq_false h]; rfl
theorem kof64 (Y : BitVec 64) : (Y.toNat : Int) % 64 = ((Y.toNat % 64 : Nat) : Int) := by omega
theorem shl64 (X : BitVec 64) (n : Nat) (hn : n ≤ 64) : vShl .u64 (X.toNat : Int) (n : Int) = ((X <<< n).toNat : Int) := by
  rw [vShl_eq .u64 _ _ hn, show ((X.toNat : Int) * 2 ^ n) = ((X.toNat * 2 ^ n : Nat) : Int) by push_cast; rfl, w64, BitVec.toNat_shiftLeft, Nat.shiftLeft_eq, BitVec.toNat_ofNat]
theorem shr64 (X : BitVec 64) (n : Nat) (hn : n ≤ 64) : vShr .u64 (X.toNat : Int) (n : Int) = ((X >>> n).toNat : Int) := by
  rw [vShr_eq .u64 _ _ hn, BitVec.toNat_ushiftRight, Nat.shiftRight_eq_div_pow]; push_cast; rfl
theorem or64' (X Y : BitVec 64) : vOr .u64 (X.toNat : Int) (Y.toNat : Int) = ((X ||| Y).toNat : Int) := by
  unfold vOr
  rw [show IntKind.bits .u64 = 64 from rfl, ofInt_nat, ofInt_nat]
  have := w64 (X ||| Y).toNat
  unfold vWrap at this
  rw [this]; simp
section
variable (X Y : BitVec 64)
theorem b64_10 : rkS .u64 64 10 X.toNat Y.toNat = (X <<< (Y.toNat % 64)).toNat := by
  rw [rkS, if_neg (by decide), if_neg (by decide), if_neg (by decide), if_neg (by decide), if_neg (by decide), if_neg (by decide), if_pos rfl, kof64, shl64 _ _ (by omega)]
theorem b64_12 : rkS .u64 64 12 X.toNat Y.toNat = (X >>> (Y.toNat % 64)).toNat := by
  rw [rkS, if_neg (by decide), if_neg (by decide), if_neg (by decide), if_neg (by decide), if_neg (by decide), if_neg (by decide), if_neg (by decide), if_neg (by decide), if_pos rfl, kof64, shr64 _ _ (by omega)]
theorem b64_13 : rkS .u64 64 13 X.toNat Y.toNat = (X.rotateLeft Y.toNat).toNat := by
  have e : ((64 : Int) - ((Y.toNat % 64 : Nat) : Int)) = ((64 - Y.toNat % 64 : Nat) : Int) := by omega
  rw [rkS, if_neg (by decide), if_neg (by decide), if_neg (by decide), if_neg (by decide), if_neg (by decide), if_neg (by decide), if_neg (by decide), if_neg (by decide), if_neg (by decide), if_pos rfl, kof64, e, shl64 _ _ (by omega), shr64 _ _ (by omega), or64', BitVec.rotateLeft_def]
theorem b64_14 : rkS .u64 64 14 X.toNat Y.toNat = (X.rotateRight Y.toNat).toNat := by
  have e : ((64 : Int) - ((Y.toNat % 64 : Nat) : Int)) = ((64 - Y.toNat % 64 : Nat) : Int) := by omega
  rw [rkS, if_neg (by decide), if_neg (by decide), if_neg (by decide), if_neg (by decide), if_neg (by decide), if_neg (by decide), if_neg (by decide), if_neg (by decide), if_neg (by decide), if_neg (by decide), kof64, e, shl64 _ _ (by omega), shr64 _ _ (by omega), or64', BitVec.rotateRight_def]
theorem b64_11 : rkS .u64 64 11 X.toNat Y.toNat = (X.sshiftRight (Y.toNat % 64)).toNat := by
  have hk : Y.toNat % 64 < 64 := Nat.mod_lt _ (by decide)
  rw [rkS, if_neg (by decide), if_neg (by decide), if_neg (by decide), if_neg (by decide), if_neg (by decide), if_neg (by decide), if_neg (by decide), if_pos rfl, kof64, show ((64 : Int) - 1) = ((64 - 1 : Nat) : Int) from rfl]
  generalize Y.toNat % 64 = n at *
  have e : ((64 : Int) - (n : Int)) = ((64 - n : Nat) : Int) := by omega
  have hm : vShr .u64 (X.toNat : Int) ((64 - 1 : Nat) : Int) ≠ 0 ↔ X.msb = true := by
    rw [shr64 _ _ (by decide), ← msb_shr X (by decide), BitVec.toNat_ushiftRight, Nat.shiftRight_eq_div_pow]
    omega
  rw [shr64 X n (by omega), e]
  split
  · rename_i h
    have h1 := hm.1 h.2
    rw [show IntKind.max .u64 = ((BitVec.allOnes 64).toNat : Int) from rfl, shl64 _ _ (by omega), or64', ssr_or X n (by omega) h1]
  · rename_i h
    by_cases h1 : X.msb = true
    · have h0 : n = 0 := by
        apply Decidable.byContradiction
        intro h0; exact h ⟨by omega, hm.2 h1⟩
      subst h0; simp
    · rw [BitVec.sshiftRight_eq_of_msb_false (by simpa using h1)]
end
theorem toIntK64 (K : BitVec 64) (h : K.toNat ≤ 2 * 64) : K.toInt = (K.toNat : Int) := by
  rw [BitVec.toInt_eq_toNat_cond, if_pos (by omega)]
theorem restK64 (B K : BitVec 64) (h : K.toNat = B.toNat % 64) : B.toInt % 64 = K.toInt := by
  have h0 := B.isLt
  rw [toIntK64 K (by omega), BitVec.toInt_eq_toNat_cond, h]
  split <;> omega
theorem cmp73_64 (X Y : BitVec 64) : twoS (widthS 73 true) X.toInt Y.toInt = (b2i (decide (X.toNat < Y.toNat)), 0) := by
  rw [show widthS 73 true = 84 from rfl, twoS, if_neg (by omega), if_pos (by omega), show ((84 : Int) - 81) = 3 from rfl, cmpS, if_neg (by decide), if_neg (by decide), if_neg (by decide), if_pos rfl, u64_int, u64_int]
  simp only [Int.ofNat_lt]
theorem tleft64 (X Y : BitVec 64) {w0 : World} {b : Nat} {w : World} (E : Env true w0 b w) :
    Fc Try.prog 21 #[.int .i64 X.toInt, .int .i64 Y.toInt, .pointer (some ⟨b, 0, none⟩)] w (fun v w' => v = .int .i64 (X.rotateLeft Y.toNat).toInt ∧ Env true w0 b w') := by
  refine Fc.of Try.func21 rfl (by kernel_rfl) ?_
  refine rLoad0 E.at_ rfl rfl ?_
  refine CallP.mk (Fc.imp (width 119 true (by decide) _) ?_)
  rintro _ _ ⟨⟨r, rfl, hr⟩, rfl⟩
  refine CallP.mk (Fc.imp (two r _ _ (by rw [hr]; decide) (rngI64 X) (rngI64 Y) _) ?_)
  rintro _ w1 ⟨⟨s, rfl, hs⟩, hst⟩
  exact Done.mk ⟨by rw [hs, hr, show widthS 119 true = 124 + 13 from rfl, rk64 X Y (by omega) (b64_13 X Y)], E.still hst⟩
theorem tright64 (X Y : BitVec 64) {w0 : World} {b : Nat} {w : World} (E : Env true w0 b w) :
    Fc Try.prog 22 #[.int .i64 X.toInt, .int .i64 Y.toInt, .pointer (some ⟨b, 0, none⟩)] w (fun v w' => v = .int .i64 (X.rotateRight Y.toNat).toInt ∧ Env true w0 b w') := by
  refine Fc.of Try.func22 rfl (by kernel_rfl) ?_
  refine rLoad0 E.at_ rfl rfl ?_
  refine CallP.mk (Fc.imp (width 120 true (by decide) _) ?_)
  rintro _ _ ⟨⟨r, rfl, hr⟩, rfl⟩
  refine CallP.mk (Fc.imp (two r _ _ (by rw [hr]; decide) (rngI64 X) (rngI64 Y) _) ?_)
  rintro _ w1 ⟨⟨s, rfl, hs⟩, hst⟩
  exact Done.mk ⟨by rw [hs, hr, show widthS 120 true = 124 + 14 from rfl, rk64 X Y (by omega) (b64_14 X Y)], E.still hst⟩
theorem tup64 (X Y : BitVec 64) {w0 : World} {b : Nat} {w : World} (E : Env true w0 b w) :
    Fc Try.prog 23 #[.int .i64 X.toInt, .int .i64 Y.toInt, .pointer (some ⟨b, 0, none⟩)] w (fun v w' => v = .int .i64 (X <<< (Y.toNat % 64)).toInt ∧ Env true w0 b w') := by
  refine Fc.of Try.func23 rfl (by kernel_rfl) ?_
  refine rLoad0 E.at_ rfl rfl ?_
  refine CallP.mk (Fc.imp (width 116 true (by decide) _) ?_)
  rintro _ _ ⟨⟨r, rfl, hr⟩, rfl⟩
  refine CallP.mk (Fc.imp (two r _ _ (by rw [hr]; decide) (rngI64 X) (rngI64 Y) _) ?_)
  rintro _ w1 ⟨⟨s, rfl, hs⟩, hst⟩
  exact Done.mk ⟨by rw [hs, hr, show widthS 116 true = 124 + 10 from rfl, rk64 X Y (by omega) (b64_10 X Y)], E.still hst⟩
theorem numTurns64 (a n m : Int) (ha : -9223372036854775808 ≤ a ∧ a ≤ 9223372036854775807) (hn : -9223372036854775808 ≤ n ∧ n ≤ 9223372036854775807) (hm : -9223372036854775808 ≤ m ∧ m ≤ 9223372036854775807) (w : World) : Fc Try.prog 7 #[.int .i64 a, .int .i64 n, .int .i64 m, .bool true] w (fun v w' => v = .bool true ∧ Below w.heap.size w w') := by
  refine Fc.of Try.func7 rfl (by kernel_rfl) ?_
  refine rBox ?_
  intro w1 n1
  refine rLoad0 n1.blk.at rfl rfl ?_
  refine rBuildSlice (z := .int .i64 0) (sz := 1) rfl rfl rfl (by decide) ?_
  intro w2 n2
  obtain ⟨A, ea⟩ := fit64 a ha
  obtain ⟨N, en⟩ := fit64 n hn
  obtain ⟨M, em⟩ := fit64 m hm
  refine CallP.mk (Fc.imp (fits true w1.heap.size [a, n, m] [A.toInt, N.toInt, M.toInt] 3 rfl (by simp only [List.map, ea, en, em]) (by decide) _ w2 n2.blk) ?_)
  rintro _ w3 ⟨rfl, b3, u3⟩
  have k1 : At w3 w.heap.size 0 [.bool true] := (n1.blk.at.below n2.below (by rw [n1.size]; omega)).keep (u3.block _ (by rw [n1.size]; omega))
  have g3 : Below w.heap.size w w3 := u3.below (n1.below.trans (n2.below.mono (by rw [n1.size]; omega))) (by rw [n1.size]; omega)
  refine draw (fun wx => Blk wx w1.heap.size (List.map (Value.int .i64) [A.toInt, N.toInt, M.toInt]) 2) [(0, true), (1, true), (2, true), (3, true), (4, true), (5, true), (6, true), (7, true), (8, true), (9, true), (10, true), (11, true)] mixed (by kernel_rfl) (fun w4 h4 => ⟨by rw [h4]; exact b3, ?_⟩)
  refine tk (fun wx hS => rIdx 1 0 0 rfl (by decide) rfl rfl rfl ⟨rfl, rfl⟩) ?_
  refine tk (v := .int .i64 A.toInt) (fun wx hS => rLoadC (hS.at.cell (i := 0) rfl) rfl rfl ⟨rfl, rfl⟩) ?_
  refine tk (fun wx hS => rIdx 1 1 1 rfl (by decide) rfl rfl rfl ⟨rfl, rfl⟩) ?_
  refine tk (v := .int .i64 N.toInt) (fun wx hS => rLoadC (hS.at.cell (i := 1) rfl) rfl rfl ⟨rfl, rfl⟩) ?_
  refine tk (fun wx hS => rIdx 1 2 2 rfl (by decide) rfl rfl rfl ⟨rfl, rfl⟩) ?_
  refine tk (v := .int .i64 M.toInt) (fun wx hS => rLoadC (hS.at.cell (i := 2) rfl) rfl rfl ⟨rfl, rfl⟩) ?_
  have E : Env true w w.heap.size w4 := (⟨g3, k1⟩ : Env true w w.heap.size w3).still (by rw [h4]; exact Still.drew _)
  obtain ⟨K, hK⟩ : ∃ K : BitVec 64, K.toNat = N.toNat % 64 := ⟨BitVec.ofNat 64 (N.toNat % 64), by rw [BitVec.toNat_ofNat]; omega⟩
  obtain ⟨K', hK'⟩ : ∃ K' : BitVec 64, K'.toNat = M.toNat % 64 := ⟨BitVec.ofNat 64 (M.toNat % 64), by rw [BitVec.toNat_ofNat]; omega⟩
  obtain ⟨K2, hK2⟩ : ∃ K2 : BitVec 64, K2.toNat = N.toNat % 64 + M.toNat % 64 := ⟨BitVec.ofNat 64 (N.toNat % 64 + M.toNat % 64), by rw [BitVec.toNat_ofNat]; omega⟩
  obtain ⟨K3, hK3⟩ : ∃ K3 : BitVec 64, K3.toNat = 64 - N.toNat % 64 := ⟨BitVec.ofNat 64 (64 - N.toNat % 64), by rw [BitVec.toNat_ofNat]; omega⟩
  have i1 := toIntK64 K (by omega)
  have i2 := toIntK64 K' (by omega)
  have i3 := toIntK64 K2 (by omega)
  have i4 := toIntK64 K3 (by omega)
  have hKm : K.toNat % 64 = N.toNat % 64 := by omega
  obtain ⟨q, hq⟩ : ∃ q, q = N.toNat % 64 := ⟨_, rfl⟩
  have hq' : q < 64 := by omega
  refine rLoad0 E.at_ rfl rfl ?_
  refine cT rfl ?_
  refine CallP.mk (Fc.imp (restW N.toInt 64 (rngI64 N) (by decide) _) ?_)
  rintro _ _ ⟨⟨k, rfl, hk⟩, rfl⟩
  rw [restK64 N K hK] at hk
  subst hk
  refine CallP.mk (Fc.imp (Fc.arg (tup64 (1#64) (K) E) (rfl)) ?_)
  clear E
  rintro _ w8 ⟨rfl, E⟩
  rw [hKm, ← hq]
  obtain ⟨Pw, hP⟩ : ∃ Pw, Pw = 1#64 <<< q := ⟨_, rfl⟩
  rw [← hP]
  refine rLoad0 E.at_ rfl rfl ?_
  refine CallP.mk (Fc.imp (width 117 true (by decide) _) ?_)
  rintro _ _ ⟨⟨r1, rfl, hr1⟩, rfl⟩
  refine CallP.mk (Fc.imp (two r1 (A).toInt (N).toInt (by rw [hr1]; decide) (rngI64 _) (rngI64 (N)) _) ?_)
  rintro _ w8 ⟨⟨s1, rfl, hs1⟩, hst⟩
  replace E := E.still hst
  rw [hr1, show widthS 117 true = 124 + 11 from rfl, rk64 (A) (N) (by omega) (b64_11 _ _)] at hs1
  subst hs1
  rw [← hq]
  refine rLoad0 E.at_ rfl rfl ?_
  refine CallP.mk (Fc.imp (width 107 true (by decide) _) ?_)
  rintro _ _ ⟨⟨r2, rfl, hr2⟩, rfl⟩
  refine CallP.mk (Fc.imp (tup64 (A.sshiftRight q) (N) E) ?_)
  clear E
  rintro _ w8 ⟨rfl, E⟩
  rw [← hq]
  refine CallP.mk (Fc.imp (two r2 (A).toInt ((A.sshiftRight q) <<< q).toInt (by rw [hr2]; decide) (rngI64 _) (rngI64 ((A.sshiftRight q) <<< q)) _) ?_)
  rintro _ w8 ⟨⟨s2, rfl, hs2⟩, hst⟩
  replace E := E.still hst
  rw [hr2, show widthS 107 true = 124 + 1 from rfl, rk64 (A) ((A.sshiftRight q) <<< q) (by omega) (a64_1 _ _)] at hs2
  subst hs2
  have hb := back_eq A q hq'
  obtain ⟨Bk, hB⟩ : ∃ Bk, Bk = A - (A.sshiftRight q) <<< q := ⟨_, rfl⟩
  rw [← hB]
  rw [← hB] at hb
  refine draws (fun wx => Env true w w.heap.size wx) [(0, true), (1, true), (2, true), (3, true), (5, true), (7, true), (4, false), (6, false), (8, true), (9, true), (10, true), (11, true), (12, true), (13, true), (15, true), (17, true), (18, true), (19, true), (20, true), (21, true), (14, false), (16, false), (22, false), (23, true), (24, false), (25, true), (26, true), (27, true), (28, true), (29, true), (30, true), (32, true), (33, true), (34, true), (35, true), (36, true), (31, false), (37, false), (38, true), (39, true), (40, true), (41, true), (42, true), (43, true), (45, true), (47, true), (48, true), (44, false), (46, false), (49, false), (50, true), (51, true), (52, true), (53, true), (55, true), (56, true), (58, true), (60, true), (61, true), (54, false), (57, false), (59, false), (62, false), (63, true), (64, true), (65, true), (66, true), (67, true), (68, true), (69, true), (71, true), (72, true), (70, false), (73, false), (74, true), (75, true), (76, true), (77, true), (78, true), (79, true), (80, true), (82, true), (83, true), (84, true), (81, false), (85, false), (86, true), (87, true), (88, true), (89, true)] mixed (by kernel_rfl) (fun w7 h7 => ⟨E.still (by rw [h7]; exact Still.drew _), ?_⟩)
  replace E : Env true w w.heap.size w7 := E.still (by rw [h7]; exact Still.drew _)
  refine CallP.mk (Fc.imp (tleft64 (A) (N) E) ?_)
  clear E
  rintro _ w8 ⟨rfl, E⟩
  refine KeepP.mk E ?_
  refine CallP.mk (Fc.imp (tright64 (A.rotateLeft N.toNat) (N) E) ?_)
  clear E
  rintro _ w8 ⟨rfl, E⟩
  refine KeepP.mk E ?_
  refine br_t (by rw [vEq_iff, decide_eq_true_eq]; exact congrArg BitVec.toInt (rot_back (by decide) A N.toNat)) ?_
  refine CallP.mk (Fc.imp (tleft64 (A) (N) E) ?_)
  clear E
  rintro _ w8 ⟨rfl, E⟩
  refine KeepP.mk E ?_
  refine CallP.mk (Fc.imp (tleft64 (A.rotateLeft N.toNat) (M) E) ?_)
  clear E
  rintro _ w8 ⟨rfl, E⟩
  refine KeepP.mk E ?_
  refine CallP.mk (Fc.imp (restW M.toInt 64 (rngI64 M) (by decide) _) ?_)
  rintro _ _ ⟨⟨k, rfl, hk⟩, rfl⟩
  rw [restK64 M K' hK'] at hk
  subst hk
  refine KeepP.mk E ?_
  refine CallP.mk (Fc.imp (Fc.arg (tleft64 (A) (K2) E) (by rw [i1, i2, i3, hK, hK', hK2, wi64 (by omega)]; rfl)) ?_)
  clear E
  rintro _ w8 ⟨rfl, E⟩
  refine KeepP.mk E ?_
  refine br_t (by rw [vEq_iff, decide_eq_true_eq]; exact congrArg BitVec.toInt (rot_rot (by decide) A N.toNat M.toNat K2.toNat (by rw [hK2]))) ?_
  refine CallP.mk (Fc.imp (tleft64 (A) (N) E) ?_)
  clear E
  rintro _ w8 ⟨rfl, E⟩
  refine KeepP.mk E ?_
  refine CallP.mk (Fc.imp (Fc.arg (tright64 (A) (K3) E) (by rw [i1, i4, hK, hK3, wi64 (by omega), show ((64 : Int) - ((N.toNat % 64 : Nat) : Int)) = ((64 - N.toNat % 64 : Nat) : Int) by omega])) ?_)
  clear E
  rintro _ w8 ⟨rfl, E⟩
  refine KeepP.mk E ?_
  refine br_t (by rw [vEq_iff, decide_eq_true_eq]; exact congrArg BitVec.toInt (rot_right (by decide) A N.toNat K3.toNat (by rw [hK3]))) ?_
  refine tk (fun wx hS => rLoad0 hS.at_ rfl rfl ⟨rfl, rfl⟩) ?_
  refine CallP.mk (Fc.imp (tup64 (A) (N) E) ?_)
  clear E
  rintro _ w8 ⟨rfl, E⟩
  refine KeepP.mk E ?_
  rw [← hq]
  refine CallP.mk (Fc.imp (width 108 true (by decide) _) ?_)
  rintro _ _ ⟨⟨r3, rfl, hr3⟩, rfl⟩
  refine KeepP.mk E ?_
  refine CallP.mk (Fc.imp (two r3 (A).toInt (Pw).toInt (by rw [hr3]; decide) (rngI64 _) (rngI64 (Pw)) _) ?_)
  rintro _ w8 ⟨⟨s3, rfl, hs3⟩, hst⟩
  replace E := E.still hst
  refine KeepP.mk E ?_
  rw [hr3, show widthS 108 true = 124 + 2 from rfl, rk64 (A) (Pw) (by omega) (a64_2 _ _)] at hs3
  subst hs3
  refine br_t (by rw [vEq_iff, decide_eq_true_eq]; exact congrArg BitVec.toInt (by rw [hP]; exact shl_mul A q)) ?_
  refine tk (fun wx hS => rLoad0 hS.at_ rfl rfl ⟨rfl, rfl⟩) ?_
  refine tk (fun wx hS => rLoad0 hS.at_ rfl rfl ⟨rfl, rfl⟩) ?_
  refine CallP.mk (Fc.imp (width 118 true (by decide) _) ?_)
  rintro _ _ ⟨⟨r4, rfl, hr4⟩, rfl⟩
  refine KeepP.mk E ?_
  refine CallP.mk (Fc.imp (two r4 (A).toInt (N).toInt (by rw [hr4]; decide) (rngI64 _) (rngI64 (N)) _) ?_)
  rintro _ w8 ⟨⟨s4, rfl, hs4⟩, hst⟩
  replace E := E.still hst
  refine KeepP.mk E ?_
  rw [hr4, show widthS 118 true = 124 + 12 from rfl, rk64 (A) (N) (by omega) (b64_12 _ _)] at hs4
  subst hs4
  rw [← hq]
  refine CallP.mk (Fc.imp (width 110 true (by decide) _) ?_)
  rintro _ _ ⟨⟨r5, rfl, hr5⟩, rfl⟩
  refine KeepP.mk E ?_
  refine CallP.mk (Fc.imp (two r5 (A).toInt (Pw).toInt (by rw [hr5]; decide) (rngI64 _) (rngI64 (Pw)) _) ?_)
  rintro _ w8 ⟨⟨s5, rfl, hs5⟩, hst⟩
  replace E := E.still hst
  refine KeepP.mk E ?_
  have hP2 : Pw.toNat = 2 ^ q := by
    rw [hP, BitVec.toNat_shiftLeft, Nat.shiftLeft_eq]
    have : 2 ^ q < 2 ^ 64 := Nat.pow_lt_pow_right (by decide) hq'
    simp [Nat.mod_eq_of_lt this]
  have hP0 : Pw.toNat ≠ 0 := by rw [hP2]; exact Nat.ne_of_gt (Nat.two_pow_pos q)
  rw [hr5, show widthS 110 true = 128 from rfl, (pq64 A Pw hP0).1] at hs5
  subst hs5
  refine br_t (by rw [vEq_iff, decide_eq_true_eq]; exact congrArg BitVec.toInt (by rw [hP]; exact shr_div A q hq')) ?_
  have hbk : Bk.toNat < Pw.toNat := by rw [hb, hP2]; exact Nat.mod_lt _ (Nat.two_pow_pos q)
  refine br (fun h0 => ?_) (fun h0 => ?_)
  · refine tk (fun wx hS => rLoad0 hS.at_ rfl rfl ⟨rfl, rfl⟩) ?_
    refine CallP.mk (Fc.imp (width 117 true (by decide) _) ?_)
    rintro _ _ ⟨⟨r7, rfl, hr7⟩, rfl⟩
    refine KeepP.mk E ?_
    refine CallP.mk (Fc.imp (Fc.arg (two r7 (A).toInt (63#64).toInt (by rw [hr7]; decide) (rngI64 _) (rngI64 (63#64)) _) (by rw [show vWrap .i64 (64 - 1) = 63 from wi64 (by omega)]; rfl)) ?_)
    rintro _ w8 ⟨⟨s7, rfl, hs7⟩, hst⟩
    replace E := E.still hst
    refine KeepP.mk E ?_
    rw [hr7, show widthS 117 true = 124 + 11 from rfl, rk64 (A) (63#64) (by omega) (b64_11 _ _)] at hs7
    subst hs7
    refine tk (fun wx _ => rBoolEq rfl ⟨rfl, rfl⟩) ?_
    refine Done.mk ⟨congrArg Value.bool ?_, E.below⟩
    rw [show ((63#64).toNat % 64) = 64 - 1 from rfl, ssr_neg A (by decide), vLt_iff, vEq_iff, beq_iff_eq]
    split
    · rename_i h; rw [decide_eq_true h]; rfl
    · rename_i h; rw [decide_eq_false h]; rfl
  · refine tk (fun wx hS => rLoad0 hS.at_ rfl rfl ⟨rfl, rfl⟩) ?_
    refine CallP.mk (Fc.imp (width 73 true (by decide) _) ?_)
    rintro _ _ ⟨⟨r6, rfl, hr6⟩, rfl⟩
    refine KeepP.mk E ?_
    refine CallP.mk (Fc.imp (two r6 (Bk).toInt (Pw).toInt (by rw [hr6]; decide) (rngI64 _) (rngI64 (Pw)) _) ?_)
    rintro _ w8 ⟨⟨s6, rfl, hs6⟩, hst⟩
    replace E := E.still hst
    refine KeepP.mk E ?_
    rw [hr6, cmp73_64, decide_eq_true hbk] at hs6
    refine br_t (by rw [vEq_iff, decide_eq_true_eq, hs6]; rfl) ?_
    refine tk (fun wx hS => rLoad0 hS.at_ rfl rfl ⟨rfl, rfl⟩) ?_
    refine CallP.mk (Fc.imp (width 117 true (by decide) _) ?_)
    rintro _ _ ⟨⟨r7, rfl, hr7⟩, rfl⟩
    refine KeepP.mk E ?_
    refine CallP.mk (Fc.imp (Fc.arg (two r7 (A).toInt (63#64).toInt (by rw [hr7]; decide) (rngI64 _) (rngI64 (63#64)) _) (by rw [show vWrap .i64 (64 - 1) = 63 from wi64 (by omega)]; rfl)) ?_)
    rintro _ w8 ⟨⟨s7, rfl, hs7⟩, hst⟩
    replace E := E.still hst
    refine KeepP.mk E ?_
    rw [hr7, show widthS 117 true = 124 + 11 from rfl, rk64 (A) (63#64) (by omega) (b64_11 _ _)] at hs7
    subst hs7
    refine tk (fun wx _ => rBoolEq rfl ⟨rfl, rfl⟩) ?_
    refine Done.mk ⟨congrArg Value.bool ?_, E.below⟩
    rw [show ((63#64).toNat % 64) = 64 - 1 from rfl, ssr_neg A (by decide), vLt_iff, vEq_iff, beq_iff_eq]
    split
    · rename_i h; rw [decide_eq_true h]; rfl
    · rename_i h; rw [decide_eq_false h]; rfl
theorem numTurns (a n m : Int) (wide : Bool) (ha : -9223372036854775808 ≤ a ∧ a ≤ 9223372036854775807) (hn : -9223372036854775808 ≤ n ∧ n ≤ 9223372036854775807) (hm : -9223372036854775808 ≤ m ∧ m ≤ 9223372036854775807) (w : World) : Fc Try.prog 7 #[.int .i64 a, .int .i64 n, .int .i64 m, .bool wide] w (fun v w' => v = .bool true ∧ Below w.heap.size w w') := by
  cases wide
  · exact numTurns32 a n m ha hn hm w
  · exact numTurns64 a n m ha hn hm w
end Go.Proofs.Ytobepdjhihjcdaa.Num
