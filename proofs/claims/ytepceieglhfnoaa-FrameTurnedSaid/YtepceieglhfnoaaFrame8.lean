/- The check sum tells turned bits. -/
import Derived.Test.YtepceieglhfnoaaFrame7
set_option maxRecDepth 100000
set_option maxHeartbeats 4000000
set_option linter.unusedVariables false
set_option linter.unusedSimpArgs false
namespace Go.Proofs.Ytepceieglhfnoaa.Frame
open Go Go.Proofs.Ytepceieglhfnoaa.Eng Go.RowKit
theorem tn_xor (x y : Nat) : tn (x ^^^ y) = tn x ^^^ tn y := by
  have h1 : (x ^^^ y) / 2 = x / 2 ^^^ y / 2 := Nat.xor_div_two
  have h2 : (x ^^^ y) % 2 = (x + y) % 2 := by
    have h3 := @Nat.xor_mod_two_pow x y 1
    rw [Nat.pow_one] at h3
    rw [h3]
    rcases Nat.mod_two_eq_zero_or_one x with hx | hx <;> rcases Nat.mod_two_eq_zero_or_one y with hy | hy <;> rw [hx, hy]
    · show 0 = _; omega
    · show 1 = _; omega
    · show 1 = _; omega
    · show 0 = _; omega
  unfold tn
  rw [h1, h2]
  rcases Nat.mod_two_eq_zero_or_one x with hx | hx <;> rcases Nat.mod_two_eq_zero_or_one y with hy | hy
  · rw [if_neg (by omega), if_neg (by omega), if_neg (by omega)]
  · rw [if_pos (by omega), if_neg (by omega), if_pos (by omega), Nat.xor_assoc]
  · rw [if_pos (by omega), if_pos (by omega), if_neg (by omega), Nat.xor_assoc, Nat.xor_assoc, Nat.xor_comm (y / 2)]
  · rw [if_neg (by omega), if_pos (by omega), if_pos (by omega)]
    have : ∀ a b c : Nat, a ^^^ c ^^^ (b ^^^ c) = a ^^^ b := fun a b c => by
      rw [Nat.xor_assoc, Nat.xor_comm b c, ← Nat.xor_assoc c c b, Nat.xor_self, Nat.zero_xor]
    rw [this]
theorem tns_xor (n x y : Nat) : tns n (x ^^^ y) = tns n x ^^^ tns n y := by
  induction n with
  | zero => rfl
  | succ n ih => show tn (tns n (x ^^^ y)) = _; rw [ih, tn_xor]; rfl
theorem tns_add (a b x : Nat) : tns (a + b) x = tns a (tns b x) := by
  induction a with
  | zero => rw [Nat.zero_add]; rfl
  | succ a ih => rw [Nat.succ_add]; show tn (tns (a + b) x) = tn (tns a (tns b x)); rw [ih]
theorem tn_dbl (x : Nat) : tn (x * 2) = x := by unfold tn; rw [if_neg (by omega)]; omega
theorem tns_shl (n x : Nat) : tns n (x * 2 ^ n) = x := by
  induction n generalizing x with
  | zero => simp [tns]
  | succ n ih => show tn (tns n (x * 2 ^ (n + 1))) = x; rw [Nat.pow_succ, Nat.mul_comm (2 ^ n), ← Nat.mul_assoc, ih, tn_dbl]
theorem tns_zero (n : Nat) : tns n 0 = 0 := by
  have := tns_shl n 0
  rwa [Nat.zero_mul] at this
theorem tn_pos {x : Nat} (h : x < 4294967296) (h0 : x ≠ 0) : tn x ≠ 0 := by
  unfold tn
  split
  · intro h1
    have h2 : x / 2 = 3988292384 := by
      have h3 := congrArg (fun z => z ^^^ 3988292384) h1
      simp only [Nat.xor_assoc, Nat.xor_self, Nat.xor_zero, Nat.zero_xor] at h3
      exact h3
    omega
  · omega
theorem tns_pos (n : Nat) {x : Nat} (h : x < 4294967296) (h0 : x ≠ 0) : tns n x ≠ 0 := by
  induction n with
  | zero => exact h0
  | succ n ih => exact tn_pos (tns_lt n h) ih
def xorL (a b : List UInt8) : List UInt8 := List.zipWith (· ^^^ ·) a b
theorem crcL_xor : ∀ (a b : List UInt8) (r q : Nat), a.length = b.length → crcL (r ^^^ q) (xorL a b) = crcL r a ^^^ crcL q b := by
  intro a
  induction a with
  | nil => intro b r q h; obtain rfl : b = [] := List.eq_nil_of_length_eq_zero h.symm; rfl
  | cons x a ih =>
    intro b r q h
    cases b with
    | nil => cases h
    | cons y b =>
      show crcL (crcB (r ^^^ q) (x ^^^ y)) (xorL a b) = crcL (crcB r x) a ^^^ crcL (crcB q y) b
      rw [← ih b _ _ (by simpa using h)]
      congr 1
      unfold crcB
      rw [← tns_xor, UInt8.toNat_xor]
      congr 1
      rw [Nat.xor_assoc, Nat.xor_assoc, ← Nat.xor_assoc q, ← Nat.xor_assoc x.toNat, Nat.xor_comm q x.toNat]
def digits (W : Nat) : Nat → List UInt8
  | 0 => []
  | n + 1 => digits W n ++ [UInt8.ofNat (W / 256 ^ n)]
theorem digits_len (W n : Nat) : (digits W n).length = n := by
  induction n with
  | zero => rfl
  | succ n ih => simp [digits, ih]
theorem xor_low (X : Nat) : X ^^^ (X % 256) = X / 256 * 256 := by
  apply Nat.eq_of_testBit_eq
  intro i
  rw [show (256 : Nat) = 2 ^ 8 from rfl, Nat.testBit_xor, Nat.testBit_mod_two_pow, Nat.testBit_mul_two_pow, Nat.testBit_div_two_pow]
  by_cases h : i < 8
  · simp [h, show ¬ 8 ≤ i by omega]
  · simp [h, show 8 ≤ i by omega]
theorem crc_digits (r W n : Nat) : crcL r (digits W n) = tns (8 * n) (r ^^^ W) ^^^ (W / 256 ^ n) := by
  induction n with
  | zero =>
    show r = (r ^^^ W) ^^^ (W / 256 ^ 0)
    rw [Nat.pow_zero, Nat.div_one, Nat.xor_assoc, Nat.xor_self, Nat.xor_zero]
  | succ n ih =>
    show crcL r (digits W n ++ _) = _
    rw [crcL_snoc, ih]
    unfold crcB
    rw [UInt8.toNat_ofNat', show (2 : Nat) ^ 8 = 256 from rfl, Nat.xor_assoc, xor_low, tns_xor, ← tns_add, show 8 + 8 * n = 8 * (n + 1) by omega]
    have : tns 8 (W / 256 ^ n / 256 * 256) = W / 256 ^ n / 256 := tns_shl 8 _
    rw [this, Nat.div_div_eq_div_mul, ← Nat.pow_succ]
theorem le4_digits (n : Nat) : le4 n = digits n 4 := by
  simp [le4, digits]
theorem crc_zeros (q : Nat) : ∀ {r : Nat}, r < 4294967296 → (r = 0 → crcL r (List.replicate q 0) = 0) ∧ (r ≠ 0 → crcL r (List.replicate q 0) ≠ 0) := by
  induction q with
  | zero => intro r _; exact ⟨fun h => h, fun h => h⟩
  | succ q ih =>
    intro r hr
    have h1 : crcB r 0 = tns 8 r := by unfold crcB; rw [show (0 : UInt8).toNat = 0 from rfl, Nat.xor_zero]
    have h2 : crcB r 0 < 4294967296 := crcB_lt 0 hr
    refine ⟨fun h => ?_, fun h => ?_⟩
    · show crcL (crcB r 0) (List.replicate q 0) = 0
      exact (ih h2).1 (by rw [h1, h, tns_zero])
    · show crcL (crcB r 0) (List.replicate q 0) ≠ 0
      exact (ih h2).2 (by rw [h1]; exact tns_pos 8 hr h)
theorem crcL_append (r : Nat) (a b : List UInt8) : crcL r (a ++ b) = crcL (crcL r a) b := by unfold crcL; rw [List.foldl_append]
/-- A burst is told. -/
theorem burst {B j m p q : Nat} (hB : B ≠ 0) (hl : B < 4294967296) (hj : j ≤ 8 * m) (hE : B * 2 ^ j < 256 ^ m) : crcL 0 (List.replicate p 0 ++ digits (B * 2 ^ j) m ++ List.replicate q 0) ≠ 0 := by
  rw [crcL_append, crcL_append, (crc_zeros p (by decide)).1 rfl, crc_digits, Nat.zero_xor, Nat.div_eq_of_lt hE, Nat.xor_zero, show 8 * m = (8 * m - j) + j by omega, tns_add, tns_shl]
  exact (crc_zeros q (tns_lt _ hl)).2 (tns_pos _ hl hB)
theorem crc_valid (b : List UInt8) : crcL 4294967295 (b ++ le4 (sumL b)) = tns 32 4294967295 := by
  have hr : crcL 4294967295 b < 4294967296 := crcL_lt b (by decide)
  have hw : sumL b = 4294967295 ^^^ crcL 4294967295 b := (xor_ones 32 hr).symm
  rw [crcL_append, le4_digits, crc_digits, Nat.div_eq_of_lt (by unfold sumL; omega), Nat.xor_zero, hw, Nat.xor_comm 4294967295, ← Nat.xor_assoc, Nat.xor_self, Nat.zero_xor]
theorem digits_get (W : Nat) : ∀ n i, (digits W n)[i]? = if i < n then some (UInt8.ofNat (W / 256 ^ i)) else none := by
  intro n
  induction n with
  | zero => intro i; simp [digits]
  | succ n ih =>
    intro i
    show (digits W n ++ _)[i]? = _
    rcases Nat.lt_trichotomy i n with h | h | h
    · rw [List.getElem?_append_left (by rw [digits_len]; exact h), ih, if_pos h, if_pos (by omega)]
    · subst h
      rw [List.getElem?_append_right (by rw [digits_len]; exact Nat.le_refl _), digits_len, Nat.sub_self, if_pos (by omega)]; rfl
    · rw [List.getElem?_append_right (by rw [digits_len]; omega), digits_len, if_neg (by omega), List.getElem?_eq_none (by simp; omega)]
/-- What the turned bytes are. -/
theorem turned {s T : List UInt8} {p m E : Nat} (hp : p + m ≤ s.length) (hT : ∀ q, T[q]? = (s[q]?).map fun c => if p ≤ q ∧ q < p + m then c ^^^ UInt8.ofNat (E / 256 ^ (q - p)) else c) : T = xorL s (List.replicate p 0 ++ digits E m ++ List.replicate (s.length - p - m) 0) := by
  apply List.ext_getElem?
  intro q
  rw [hT q]
  unfold xorL
  rw [List.getElem?_zipWith]
  have e : (List.replicate p (0 : UInt8) ++ digits E m ++ List.replicate (s.length - p - m) 0)[q]? = if q < s.length then some (if p ≤ q ∧ q < p + m then UInt8.ofNat (E / 256 ^ (q - p)) else 0) else none := by
    rw [List.append_assoc]
    by_cases h1 : q < p
    · rw [List.getElem?_append_left (by rw [List.length_replicate]; exact h1), List.getElem?_replicate, if_pos h1, if_pos (by omega), if_neg (by omega)]
    · rw [List.getElem?_append_right (by rw [List.length_replicate]; omega), List.length_replicate]
      by_cases h2 : q - p < m
      · rw [List.getElem?_append_left (by rw [digits_len]; exact h2), digits_get, if_pos h2, if_pos (by omega), if_pos (by omega)]
      · rw [List.getElem?_append_right (by rw [digits_len]; omega), digits_len, List.getElem?_replicate]
        by_cases h3 : q < s.length
        · rw [if_pos (by omega), if_pos h3, if_neg (by omega)]
        · rw [if_neg (by omega), if_neg h3]
  rw [e]
  cases hs : s[q]? with
  | none => rfl
  | some c =>
    have hq := (List.getElem?_eq_some_iff.1 hs).1
    rw [if_pos hq]
    simp only [Option.map_some]
    split
    · rfl
    · simp
/-- A frame of which bits were turned is not read. -/
theorem rd_turned {b T : List UInt8} {p m B j : Nat} (hl : 19 ≤ b.length) (hp : p + m ≤ (b ++ le4 (sumL b)).length) (hB : B ≠ 0) (hl2 : B < 4294967296) (hj : j ≤ 8 * m) (hE : B * 2 ^ j < 256 ^ m)
    (hT : ∀ q, T[q]? = ((b ++ le4 (sumL b))[q]?).map fun c => if p ≤ q ∧ q < p + m then c ^^^ UInt8.ofNat (B * 2 ^ j / 256 ^ (q - p)) else c) : rdR T = (zeroF, 5) := by
  have e := turned hp hT
  have hlen : T.length = (b ++ le4 (sumL b)).length := by
    rw [e]; unfold xorL
    rw [List.length_zipWith, List.length_append, List.length_append, List.length_append, List.length_replicate, List.length_replicate, digits_len]
    rw [List.length_append] at hp; omega
  have h4 : (le4 (sumL b)).length = 4 := rfl
  rw [List.length_append, h4] at hlen
  refine rd5 (by omega) fun h => ?_
  have hv : T = T.take (T.length - 4) ++ le4 (sumL (T.take (T.length - 4))) := by rw [← h, List.take_append_drop]
  have h1 := crc_valid (T.take (T.length - 4))
  rw [← hv, e, ← Nat.xor_zero 4294967295, crcL_xor _ _ _ _ (by
    rw [List.length_append, List.length_append, List.length_append, List.length_replicate, List.length_replicate, digits_len]
    rw [List.length_append] at hp; omega), Nat.xor_zero, crc_valid] at h1
  have h2 : crcL 0 (List.replicate p 0 ++ digits (B * 2 ^ j) m ++ List.replicate ((b ++ le4 (sumL b)).length - p - m) 0) = 0 := by
    have h3 := congrArg (fun z => tns 32 4294967295 ^^^ z) h1
    simp only [← Nat.xor_assoc, Nat.xor_self, Nat.zero_xor] at h3
    exact h3
  exact burst hB hl2 hj hE h2
theorem xor_byte (x : UInt8) (n : Nat) : UInt8.ofNat (x.toNat ^^^ (n % 256)) = x ^^^ UInt8.ofNat n := by
  apply UInt8.toNat_inj.1
  rw [UInt8.toNat_xor, UInt8.toNat_ofNat', UInt8.toNat_ofNat']
  have := x.toNat_lt
  exact Nat.mod_eq_of_lt (Nat.xor_lt_two_pow (n := 8) (by omega) (Nat.mod_lt _ (by decide)))
end Go.Proofs.Ytepceieglhfnoaa.Frame
