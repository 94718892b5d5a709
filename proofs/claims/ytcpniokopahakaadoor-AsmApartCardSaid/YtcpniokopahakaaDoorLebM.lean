/- Plain facts on numbers written in bytes of seven bits: no program in sight. -/
import Derived.Test.YtcpniokopahakaaDoorBits
namespace Go.Proofs.YtcpniokopahakaaDoor.Leb
open Go Go.Proofs.YtcpniokopahakaaDoor.Eng

/-- A number that is at least 0, written. -/
def uleb (n : Nat) : List UInt8 := if h : n < 128 then [UInt8.ofNat n] else UInt8.ofNat (n % 128 + 128) :: uleb (n / 128)
termination_by n
decreasing_by omega
/-- A number with a sign, written. -/
def sleb (n : Int) : List UInt8 := if h : -64 ≤ n ∧ n < 64 then [UInt8.ofNat (n % 128).toNat] else UInt8.ofNat ((n % 128).toNat + 128) :: sleb (n / 128)
termination_by n.natAbs
decreasing_by omega
theorem uleb_lt {n : Nat} (h : n < 128) : uleb n = [UInt8.ofNat n] := by rw [uleb, dif_pos h]
theorem uleb_ge {n : Nat} (h : 128 ≤ n) : uleb n = UInt8.ofNat (n % 128 + 128) :: uleb (n / 128) := by rw [uleb, dif_neg (by omega)]
theorem sleb_in {n : Int} (h : -64 ≤ n ∧ n < 64) : sleb n = [UInt8.ofNat (n % 128).toNat] := by rw [sleb, dif_pos h]
theorem sleb_out {n : Int} (h : ¬ (-64 ≤ n ∧ n < 64)) : sleb n = UInt8.ofNat ((n % 128).toNat + 128) :: sleb (n / 128) := by rw [sleb, dif_neg h]
theorem uleb_pos (n : Nat) : 0 < (uleb n).length := by
  by_cases h : n < 128
  · rw [uleb_lt h]; simp
  · rw [uleb_ge (by omega)]; simp
theorem sleb_pos (n : Int) : 0 < (sleb n).length := by
  by_cases h : -64 ≤ n ∧ n < 64
  · rw [sleb_in h]; simp
  · rw [sleb_out h]; simp
theorem uleb_len (k : Nat) : ∀ n, n < 128 ^ (k + 1) → (uleb n).length ≤ k + 1 := by
  induction k with
  | zero => intro n h; rw [uleb_lt (by omega)]; simp
  | succ k ih =>
    intro n h
    by_cases h1 : n < 128
    · rw [uleb_lt h1]; simp
    · rw [uleb_ge (by omega), List.length_cons]
      have := ih (n / 128) (by rw [Nat.pow_succ] at h; omega)
      omega
theorem sleb_len (k : Nat) : ∀ n : Int, -(64 * 128 ^ k : Nat) ≤ n → n < (64 * 128 ^ k : Nat) → (sleb n).length ≤ k + 1 := by
  induction k with
  | zero => intro n h h'; rw [sleb_in (by omega)]; simp
  | succ k ih =>
    intro n h h'
    by_cases h1 : -64 ≤ n ∧ n < 64
    · rw [sleb_in h1]; simp
    · rw [sleb_out h1, List.length_cons]
      have e : 64 * 128 ^ (k + 1) = 128 * (64 * 128 ^ k) := by rw [Nat.pow_succ]; omega
      rw [e] at h h'
      have := ih (n / 128) (by omega) (by omega)
      omega
theorem byte_toNat {n : Nat} (h : n < 256) : (UInt8.ofNat n).toNat = n := by simp [UInt8.toNat_ofNat']; omega

/-! ## Reading -/
def rdU (bits : Nat) : List UInt8 → Nat → Nat → Nat × Nat × Nat
  | [], _, _ => (0, 0, 3)
  | c :: r, i, acc =>
    if bits < 7 * i + 7 ∧ c.toNat / 2 ^ (bits - 7 * i) ≠ 0 then (0, 0, 4)
    else if c.toNat < 128 then (acc + c.toNat % 128 * 2 ^ (7 * i), i + 1, 0)
    else rdU bits r (i + 1) (acc + c.toNat % 128 * 2 ^ (7 * i))
/-- The seven bits of a byte, with their sign. -/
def sev (c : Nat) : Int := if c % 128 < 64 then (c % 128 : Nat) else (c % 128 : Nat) - 128
def badS (bits i c : Nat) : Prop := bits < 7 * i + 7 ∧ (128 ≤ c ∨ sev c < -((2 ^ (bits - 7 * i - 1) : Nat) : Int) ∨ ((2 ^ (bits - 7 * i - 1) : Nat) : Int) ≤ sev c)
instance (bits i c : Nat) : Decidable (badS bits i c) := by unfold badS; exact inferInstance
def rdS (bits : Nat) : List UInt8 → Nat → Nat → Int × Nat × Nat
  | [], _, _ => (0, 0, 3)
  | c :: r, i, acc =>
    if badS bits i c.toNat then (0, 0, 4)
    else if c.toNat < 128 then (acc + sev c.toNat * (2 ^ (7 * i) : Nat), i + 1, 0)
    else rdS bits r (i + 1) (acc + c.toNat % 128 * 2 ^ (7 * i))
theorem pow_succ7 (i : Nat) : 2 ^ (7 * (i + 1)) = 128 * 2 ^ (7 * i) := by rw [Nat.mul_succ, Nat.pow_add]; omega
/-- What is written is read, whatever stands behind. -/
theorem rdU_uleb (bits : Nat) (more : List UInt8) : ∀ (m i acc : Nat), 7 * i < bits → m < 2 ^ (bits - 7 * i) →
    rdU bits (uleb m ++ more) i acc = (acc + m * 2 ^ (7 * i), i + (uleb m).length, 0) := by
  intro m
  induction m using Nat.strongRecOn with
  | _ m ih =>
    intro i acc hi hm
    by_cases h : m < 128
    · rw [uleb_lt h, List.singleton_append, rdU, byte_toNat (by omega), if_neg, if_pos h, Nat.mod_eq_of_lt h]
      · rfl
      · rintro ⟨_, h2⟩; exact h2 (Nat.div_eq_of_lt hm)
    · have h8 : 7 * i + 8 ≤ bits := by
        rcases Nat.lt_or_ge bits (7 * i + 8) with hl | hl
        · have : (2 : Nat) ^ (bits - 7 * i) ≤ 2 ^ 7 := Nat.pow_le_pow_right (by decide) (by omega)
          omega
        · exact hl
      rw [uleb_ge (by omega), List.cons_append, rdU, byte_toNat (by omega), if_neg (by omega), if_neg (by omega)]
      have e1 : (m % 128 + 128) % 128 = m % 128 := by omega
      rw [e1, ih (m / 128) (by omega) (i + 1) _ (by omega)]
      · rw [pow_succ7, List.length_cons]
        have e2 : m % 128 * 2 ^ (7 * i) + m / 128 * (128 * 2 ^ (7 * i)) = m * 2 ^ (7 * i) := by
          rw [← Nat.mul_assoc, ← Nat.add_mul]; congr 1; omega
        refine Prod.ext ?_ (Prod.ext ?_ rfl)
        · show acc + m % 128 * 2 ^ (7 * i) + m / 128 * (128 * 2 ^ (7 * i)) = acc + m * 2 ^ (7 * i)
          omega
        · show i + 1 + (uleb (m / 128)).length = i + ((uleb (m / 128)).length + 1)
          omega
      · have e3 : 2 ^ (bits - 7 * i) = 128 * 2 ^ (bits - 7 * (i + 1)) := by
          have : bits - 7 * i = 7 + (bits - 7 * (i + 1)) := by omega
          rw [this, Nat.pow_add]
        rw [e3] at hm
        omega
theorem rdU_cut (bits : Nat) : ∀ (m i acc j : Nat), 7 * i < bits → m < 2 ^ (bits - 7 * i) → j < (uleb m).length → rdU bits ((uleb m).take j) i acc = (0, 0, 3) := by
  intro m
  induction m using Nat.strongRecOn with
  | _ m ih =>
    intro i acc j hi hm hj
    by_cases h : m < 128
    · rw [uleb_lt h] at hj ⊢
      have : j = 0 := by simpa using hj
      subst this; rfl
    · have h8 : 7 * i + 8 ≤ bits := by
        rcases Nat.lt_or_ge bits (7 * i + 8) with hl | hl
        · have : (2 : Nat) ^ (bits - 7 * i) ≤ 2 ^ 7 := Nat.pow_le_pow_right (by decide) (by omega)
          omega
        · exact hl
      rw [uleb_ge (by omega)] at hj ⊢
      cases j with
      | zero => rfl
      | succ j =>
        rw [List.take_succ_cons, rdU, byte_toNat (by omega), if_neg (by omega), if_neg (by omega)]
        have e3 : 2 ^ (bits - 7 * i) = 128 * 2 ^ (bits - 7 * (i + 1)) := by
          have : bits - 7 * i = 7 + (bits - 7 * (i + 1)) := by omega
          rw [this, Nat.pow_add]
        exact ih (m / 128) (by omega) (i + 1) _ j (by omega) (by rw [e3] at hm; omega) (by simpa using hj)
/-- What is read as n in k bytes is written in k bytes at the most. -/
theorem rdU_short (bits : Nat) : ∀ (s : List UInt8) (i acc n k : Nat), acc < 2 ^ (7 * i) → rdU bits s i acc = (n, k, 0) → n < 2 ^ (7 * k) ∧ i < k ∧ k ≤ i + s.length := by
  intro s
  induction s with
  | nil => intro i acc n k _ h; simp [rdU] at h
  | cons c r ih =>
    intro i acc n k ha h
    have hb : acc + c.toNat % 128 * 2 ^ (7 * i) < 2 ^ (7 * (i + 1)) := by
      rw [pow_succ7]
      have h2 : (c.toNat % 128 + 1) * 2 ^ (7 * i) ≤ 128 * 2 ^ (7 * i) := Nat.mul_le_mul_right _ (by omega)
      rw [Nat.add_mul] at h2
      omega
    rw [rdU] at h
    split at h
    · simp at h
    · split at h
      · simp only [Prod.mk.injEq] at h
        obtain ⟨rfl, rfl, _⟩ := h
        exact ⟨hb, by omega, by simp⟩
      · obtain ⟨h1, h2, h3⟩ := ih (i + 1) _ n k hb h
        exact ⟨h1, by omega, by simp; omega⟩
theorem uleb_short {n k : Nat} (h : n < 2 ^ (7 * k)) (hk : 0 < k) : (uleb n).length ≤ k := by
  obtain ⟨j, rfl⟩ : ∃ j, k = j + 1 := ⟨k - 1, by omega⟩
  exact uleb_len j n (by rw [Nat.pow_mul] at h; exact h)
theorem uleb_prefix {a b : Nat} (ha : a < 2 ^ 64) (hb : b < 2 ^ 64) : uleb b <+: uleb a ↔ a = b := by
  constructor
  · rintro ⟨t, ht⟩
    have h1 := rdU_uleb 64 [] a 0 0 (by decide) (by simpa using ha)
    have h2 := rdU_uleb 64 t b 0 0 (by decide) (by simpa using hb)
    rw [List.append_nil, ← ht, h2] at h1
    simp only [Prod.mk.injEq] at h1
    omega
  · rintro rfl; exact List.prefix_refl _
/-! ## With signs -/
theorem sev_eq (m : Int) (h : -64 ≤ m ∧ m < 64) : sev (m % 128).toNat = m := by
  unfold sev; split <;> omega
theorem pow_half {bits i : Nat} (h : 7 * i < bits) : 2 ^ (bits - 7 * i) = 2 * 2 ^ (bits - 7 * i - 1) := by
  obtain ⟨d, hd⟩ : ∃ d, bits - 7 * i = d + 1 := ⟨bits - 7 * i - 1, by omega⟩
  rw [hd, Nat.pow_succ]; simp; omega
theorem rdS_sleb (bits : Nat) (more : List UInt8) : ∀ (k : Nat) (m : Int) (i acc : Nat), m.natAbs ≤ k → 7 * i < bits → -((2 ^ (bits - 7 * i - 1) : Nat) : Int) ≤ m → m < ((2 ^ (bits - 7 * i - 1) : Nat) : Int) →
    rdS bits (sleb m ++ more) i acc = (acc + m * (2 ^ (7 * i) : Nat), i + (sleb m).length, 0) := by
  intro k
  induction k with
  | zero =>
    intro m i acc hk hi h1 h2
    have : m = 0 := by omega
    subst this
    rw [sleb_in (by omega), List.singleton_append, rdS]
    have e : (UInt8.ofNat ((0 : Int) % 128).toNat).toNat = 0 := rfl
    have hp := Nat.two_pow_pos (bits - 7 * i - 1)
    rw [e, if_neg (by unfold badS; rw [show sev 0 = 0 from rfl]; omega), if_pos (by omega)]
    simp [sev]
  | succ k ih =>
    intro m i acc hk hi h1 h2
    by_cases h : -64 ≤ m ∧ m < 64
    · rw [sleb_in h, List.singleton_append, rdS, byte_toNat (by omega), sev_eq m h, if_neg, if_pos (by omega)]
      · rfl
      · rintro ⟨_, h' | h'⟩
        · omega
        · rw [sev_eq m h] at h'; omega
    · have h8 : 7 * i + 7 < bits := by
        rcases Nat.lt_or_ge (7 * i + 7) bits with hl | hl
        · exact hl
        · have : (2 : Nat) ^ (bits - 7 * i - 1) ≤ 2 ^ 6 := Nat.pow_le_pow_right (by decide) (by omega)
          omega
      rw [sleb_out h, List.cons_append, rdS, byte_toNat (by omega), if_neg (by rintro ⟨h, _⟩; omega), if_neg (by omega)]
      have e3 : 2 ^ (bits - 7 * i - 1) = 128 * 2 ^ (bits - 7 * (i + 1) - 1) := by
        have : bits - 7 * i - 1 = 7 + (bits - 7 * (i + 1) - 1) := by omega
        rw [this, Nat.pow_add]
      rw [e3] at h1 h2
      rw [ih (m / 128) (i + 1) _ (by omega) (by omega) (by omega) (by omega)]
      have e1 : ((m % 128).toNat + 128) % 128 = (m % 128).toNat := by omega
      rw [e1, pow_succ7, List.length_cons]
      refine Prod.ext ?_ (Prod.ext ?_ rfl)
      · show ((acc + (m % 128).toNat * 2 ^ (7 * i) : Nat) : Int) + m / 128 * ((128 * 2 ^ (7 * i) : Nat) : Int) = acc + m * ((2 ^ (7 * i) : Nat) : Int)
        generalize 2 ^ (7 * i) = p
        have e4 : (((m % 128).toNat * p : Nat) : Int) = m % 128 * p := by
          rw [Int.natCast_mul, Int.toNat_of_nonneg (by omega)]
        have e5 : m = m % 128 + 128 * (m / 128) := by omega
        have e6 : m * (p : Int) = m % 128 * p + 128 * (m / 128) * p := by
          rw [← Int.add_mul, ← e5]
        rw [Int.natCast_add, e4, e6, Int.natCast_mul, Int.add_assoc]
        congr 2
        rw [← Int.mul_assoc, Int.mul_comm (m / 128)]
        rfl
      · show i + 1 + (sleb (m / 128)).length = i + ((sleb (m / 128)).length + 1)
        omega
theorem rdS_cut (bits : Nat) : ∀ (k : Nat) (m : Int) (i acc j : Nat), m.natAbs ≤ k → 7 * i < bits → -((2 ^ (bits - 7 * i - 1) : Nat) : Int) ≤ m → m < ((2 ^ (bits - 7 * i - 1) : Nat) : Int) → j < (sleb m).length →
    rdS bits ((sleb m).take j) i acc = (0, 0, 3) := by
  intro k
  induction k with
  | zero =>
    intro m i acc j hk hi h1 h2 hj
    have : m = 0 := by omega
    subst this
    rw [sleb_in (by omega)] at hj ⊢
    have : j = 0 := by simpa using hj
    subst this; rfl
  | succ k ih =>
    intro m i acc j hk hi h1 h2 hj
    by_cases h : -64 ≤ m ∧ m < 64
    · rw [sleb_in h] at hj ⊢
      have : j = 0 := by simpa using hj
      subst this; rfl
    · have h8 : 7 * i + 7 < bits := by
        rcases Nat.lt_or_ge (7 * i + 7) bits with hl | hl
        · exact hl
        · have : (2 : Nat) ^ (bits - 7 * i - 1) ≤ 2 ^ 6 := Nat.pow_le_pow_right (by decide) (by omega)
          omega
      rw [sleb_out h] at hj ⊢
      cases j with
      | zero => rfl
      | succ j =>
        have e3 : 2 ^ (bits - 7 * i - 1) = 128 * 2 ^ (bits - 7 * (i + 1) - 1) := by
          have : bits - 7 * i - 1 = 7 + (bits - 7 * (i + 1) - 1) := by omega
          rw [this, Nat.pow_add]
        rw [e3] at h1 h2
        rw [List.take_succ_cons, rdS, byte_toNat (by omega), if_neg (by rintro ⟨h, _⟩; omega), if_neg (by omega)]
        exact ih (m / 128) (i + 1) _ j (by omega) (by omega) (by omega) (by omega) (by simpa using hj)
theorem rdS_short (bits : Nat) : ∀ (s : List UInt8) (i acc : Nat) (n : Int) (k : Nat), acc < 2 ^ (7 * i) → rdS bits s i acc = (n, k, 0) →
    -((64 * 2 ^ (7 * (k - 1)) : Nat) : Int) ≤ n ∧ n < ((64 * 2 ^ (7 * (k - 1)) : Nat) : Int) ∧ i < k ∧ k ≤ i + s.length := by
  intro s
  induction s with
  | nil => intro i acc n k _ h; simp [rdS] at h
  | cons c r ih =>
    intro i acc n k ha h
    rw [rdS] at h
    split at h
    · simp at h
    · split at h
      · simp only [Prod.mk.injEq] at h
        obtain ⟨rfl, rfl, _⟩ := h
        have hs : -64 ≤ sev c.toNat ∧ sev c.toNat ≤ 63 := by unfold sev; split <;> omega
        rw [Nat.add_sub_cancel]
        generalize 2 ^ (7 * i) = p at *
        have a1 : -64 * (p : Int) ≤ sev c.toNat * p := Int.mul_le_mul_of_nonneg_right hs.1 (by omega)
        have a2 : sev c.toNat * (p : Int) ≤ 63 * p := Int.mul_le_mul_of_nonneg_right hs.2 (by omega)
        refine ⟨?_, ?_, by omega, by simp⟩ <;> push_cast <;> omega
      · have hb : acc + c.toNat % 128 * 2 ^ (7 * i) < 2 ^ (7 * (i + 1)) := by
          rw [pow_succ7]
          have h2 : (c.toNat % 128 + 1) * 2 ^ (7 * i) ≤ 128 * 2 ^ (7 * i) := Nat.mul_le_mul_right _ (by omega)
          rw [Nat.add_mul] at h2
          omega
        obtain ⟨h1, h2, h3, h4⟩ := ih (i + 1) _ n k hb h
        exact ⟨h1, h2, by omega, by simp; omega⟩
theorem rdU_bd (bits : Nat) : ∀ (s : List UInt8) (i acc : Nat), 7 * i < bits → bits = 32 ∨ bits = 64 → acc < 2 ^ (7 * i) → (rdU bits s i acc).1 < 2 ^ bits := by
  intro s
  induction s with
  | nil => intro i acc _ _ _; exact Nat.two_pow_pos _
  | cons c r ih =>
    intro i acc hi hb ha
    rw [rdU]
    split
    · exact Nat.two_pow_pos _
    · rename_i hno
      have e : (2 : Nat) ^ bits = 2 ^ (bits - 7 * i) * 2 ^ (7 * i) := by rw [← Nat.pow_add]; congr 1; omega
      have h1 : c.toNat % 128 < 2 ^ (bits - 7 * i) := by
        by_cases h : bits < 7 * i + 7
        · have h2 : c.toNat / 2 ^ (bits - 7 * i) = 0 := Decidable.byContradiction fun h2 => hno ⟨h, h2⟩
          have := (Nat.div_eq_zero_iff.1 h2).resolve_left (Nat.ne_of_gt (Nat.two_pow_pos _))
          exact Nat.lt_of_le_of_lt (Nat.mod_le _ _) this
        · have : (2 : Nat) ^ 7 ≤ 2 ^ (bits - 7 * i) := Nat.pow_le_pow_right (by decide) (by omega)
          omega
      have h2 : (c.toNat % 128 + 1) * 2 ^ (7 * i) ≤ 2 ^ (bits - 7 * i) * 2 ^ (7 * i) := Nat.mul_le_mul_right _ h1
      split
      · rw [Nat.add_mul] at h2
        show acc + _ < _
        omega
      · rename_i hc
        have h7 : 7 * (i + 1) < bits := by
          by_cases h : bits < 7 * i + 7
          · exfalso
            apply hno
            refine ⟨h, fun h2 => ?_⟩
            have h3 := (Nat.div_eq_zero_iff.1 h2).resolve_left (Nat.ne_of_gt (Nat.two_pow_pos _))
            have : (2 : Nat) ^ (bits - 7 * i) ≤ 2 ^ 7 := Nat.pow_le_pow_right (by decide) (by omega)
            omega
          · omega
        refine ih (i + 1) _ h7 hb ?_
        rw [pow_succ7]
        have h2 : (c.toNat % 128 + 1) * 2 ^ (7 * i) ≤ 128 * 2 ^ (7 * i) := Nat.mul_le_mul_right _ (by omega)
        rw [Nat.add_mul] at h2
        omega
theorem rdS_bd (bits : Nat) : ∀ (s : List UInt8) (i acc : Nat), 7 * i < bits → bits = 32 ∨ bits = 64 → acc < 2 ^ (7 * i) →
    -((2 ^ (bits - 1) : Nat) : Int) ≤ (rdS bits s i acc).1 ∧ (rdS bits s i acc).1 < ((2 ^ (bits - 1) : Nat) : Int) := by
  intro s
  have hz := Nat.two_pow_pos (bits - 1)
  induction s with
  | nil => intro i acc _ _ _; exact ⟨by show _ ≤ (0 : Int); omega, by show (0 : Int) < _; omega⟩
  | cons c r ih =>
    intro i acc hi hb ha
    rw [rdS]
    split
    · exact ⟨by show _ ≤ (0 : Int); omega, by show (0 : Int) < _; omega⟩
    · rename_i hno
      have e : (2 : Nat) ^ (bits - 1) = 2 ^ (bits - 7 * i - 1) * 2 ^ (7 * i) := by rw [← Nat.pow_add]; congr 1; omega
      have hs : -64 ≤ sev c.toNat ∧ sev c.toNat ≤ 63 := by unfold sev; split <;> omega
      split
      · have h1 : -((2 ^ (bits - 7 * i - 1) : Nat) : Int) ≤ sev c.toNat ∧ sev c.toNat + 1 ≤ ((2 ^ (bits - 7 * i - 1) : Nat) : Int) := by
          by_cases h : bits < 7 * i + 7
          · constructor
            · apply Decidable.byContradiction; intro hh; exact hno ⟨h, .inr (.inl (by omega))⟩
            · apply Decidable.byContradiction; intro hh; exact hno ⟨h, .inr (.inr (by omega))⟩
          · have : (2 : Nat) ^ 6 ≤ 2 ^ (bits - 7 * i - 1) := Nat.pow_le_pow_right (by decide) (by omega)
            omega
        rw [e]
        generalize 2 ^ (bits - 7 * i - 1) = M at *
        generalize 2 ^ (7 * i) = p at *
        have a1 : -(M : Int) * p ≤ sev c.toNat * p := Int.mul_le_mul_of_nonneg_right h1.1 (by omega)
        have a2 : (sev c.toNat + 1) * p ≤ (M : Int) * p := Int.mul_le_mul_of_nonneg_right h1.2 (by omega)
        rw [Int.neg_mul] at a1
        rw [Int.add_mul, Int.one_mul] at a2
        rw [Int.natCast_mul]
        show _ ≤ (acc : Int) + sev c.toNat * p ∧ (acc : Int) + sev c.toNat * p < _
        omega
      · rename_i hc
        have h7 : 7 * (i + 1) < bits := by
          by_cases h : bits < 7 * i + 7
          · exact absurd ⟨h, .inl (by omega)⟩ hno
          · omega
        refine ih (i + 1) _ h7 hb ?_
        rw [pow_succ7]
        have h2 : (c.toNat % 128 + 1) * 2 ^ (7 * i) ≤ 128 * 2 ^ (7 * i) := Nat.mul_le_mul_right _ (by omega)
        rw [Nat.add_mul] at h2
        omega
theorem sleb_short {n : Int} {k : Nat} (h1 : -((64 * 2 ^ (7 * (k - 1)) : Nat) : Int) ≤ n) (h2 : n < ((64 * 2 ^ (7 * (k - 1)) : Nat) : Int)) (hk : 0 < k) : (sleb n).length ≤ k := by
  obtain ⟨j, rfl⟩ : ∃ j, k = j + 1 := ⟨k - 1, by omega⟩
  rw [Nat.add_sub_cancel, Nat.pow_mul] at h1 h2
  exact sleb_len j n h1 h2
theorem rdS64 (m : Int) (more : List UInt8) (h : -9223372036854775808 ≤ m ∧ m ≤ 9223372036854775807) : rdS 64 (sleb m ++ more) 0 0 = (m, (sleb m).length, 0) := by
  have h1 := rdS_sleb 64 more m.natAbs m 0 0 (Nat.le_refl _) (by decide) (by simpa using h.1) (by have := h.2; simp; omega)
  rw [h1]; simp
theorem rdU64 (m : Nat) (more : List UInt8) (h : m < 2 ^ 64) : rdU 64 (uleb m ++ more) 0 0 = (m, (uleb m).length, 0) := by
  have h1 := rdU_uleb 64 more m 0 0 (by decide) (by simpa using h)
  rw [h1]; simp
theorem rdS32 (m : Int) (more : List UInt8) (h : -2147483648 ≤ m ∧ m ≤ 2147483647) : rdS 32 (sleb m ++ more) 0 0 = (m, (sleb m).length, 0) := by
  have h1 := rdS_sleb 32 more m.natAbs m 0 0 (Nat.le_refl _) (by decide) (by simpa using h.1) (by have := h.2; simp; omega)
  rw [h1]; simp
theorem rdU32 (m : Nat) (more : List UInt8) (h : m < 2 ^ 32) : rdU 32 (uleb m ++ more) 0 0 = (m, (uleb m).length, 0) := by
  have h1 := rdU_uleb 32 more m 0 0 (by decide) (by simpa using h)
  rw [h1]; simp
theorem sleb_prefix {a b : Int} (ha : -9223372036854775808 ≤ a ∧ a ≤ 9223372036854775807) (hb : -9223372036854775808 ≤ b ∧ b ≤ 9223372036854775807) : sleb b <+: sleb a ↔ a = b := by
  constructor
  · rintro ⟨t, ht⟩
    have h1 := rdS64 a [] ha
    have h2 := rdS64 b t hb
    rw [List.append_nil, ← ht, h2] at h1
    simp only [Prod.mk.injEq] at h1
    omega
  · rintro rfl; exact List.prefix_refl _
end Go.Proofs.YtcpniokopahakaaDoor.Leb
