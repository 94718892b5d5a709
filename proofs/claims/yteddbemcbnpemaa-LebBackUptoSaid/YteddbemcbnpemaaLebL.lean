/- The laws of package leb, walked: each returns true, and leaves all that was there. -/
import Derived.Test.YteddbemcbnpemaaLebW
set_option maxRecDepth 100000
set_option linter.unusedVariables false
namespace Go.Proofs.Yteddbemcbnpemaa.Leb
open Go Go.Proofs.Yteddbemcbnpemaa.Eng Go.RowKit

/-- The remainder that is never negative. -/
theorem rest (n m : Int) (hn : -9223372036854775808 ≤ n ∧ n ≤ 9223372036854775807) (hm : 0 < m ∧ m ≤ 9223372036854775807) (w : World) :
    Fc Try.prog 12 #[.int .i64 n, .int .i64 m] w (fun v w' => v = .int .i64 (n % m) ∧ w = w') := by
  refine Fc.of Try.func12 rfl (by kernel_rfl) ?_
  refine DivP.mk (by omega) ?_
  have e : vRem n m = n.tmod m := by unfold vRem; rfl
  have h1 := Int.emod_lt_of_pos n hm.1
  have h2 := Int.emod_nonneg n (show m ≠ 0 by omega)
  have h3 : n.tmod m = if 0 ≤ n ∨ m ∣ n then n % m else n % m - m := by
    rw [Int.tmod_eq_emod]
    split
    · simp
    · rw [Int.natAbs_of_nonneg (by omega)]
  refine cI (fun h => ?_) (fun h => ?_)
  · have h := vLt_t h
    refine Done.mk ⟨?_, rfl⟩
    rw [e] at h
    have hneg : ¬ (0 ≤ n ∨ m ∣ n) := by intro hh; rw [h3, if_pos hh] at h; omega
    rw [e, h3, if_neg hneg, wi64 (by omega)]
    congr 1; omega
  · have h := vLt_f h
    refine Done.mk ⟨?_, rfl⟩
    rw [e] at h
    have hpos : 0 ≤ n ∨ m ∣ n := by
      apply Decidable.byContradiction
      intro hh; rw [h3, if_neg hh] at h; omega
    rw [e, h3, if_pos hpos]
theorem hasPrefix (s p : List UInt8) (hs : s.length ≤ 9223372036854775807) (hp : p.length ≤ 9223372036854775807) (w : World) :
    Fc Try.prog 13 #[.string (bs s), .string (bs p)] w (fun v w' => ∃ b : Bool, v = .bool b ∧ (b = true ↔ p <+: s) ∧ w = w') := by
  refine Fc.of Try.func13 rfl (by kernel_rfl) ?_
  refine CallP.mk (Fc.imp (R := fun v w' => ∃ b : Bool, v = .bool b ∧ (b = true ↔ p <+: s) ∧ w = w') ?_ ?_)
  · refine Fc.of Try.func19 rfl (by kernel_rfl) ?_
    refine rLenStr rfl ?_
    refine rLenStr rfl ?_
    refine br (fun h => ?_) (fun h => ?_)
    · have h := vLe_t h
      refine rLenStr rfl ?_
      refine rSubH rfl p.length rfl (by omega) ?_
      refine rStrEq ?_
      refine Done.mk ⟨_, rfl, ?_, rfl⟩
      rw [decide_eq_true_eq, List.prefix_iff_eq_take, eq_comm]
    · have h := vLe_f h
      refine Done.mk ⟨_, rfl, ⟨fun hh => (by cases hh), fun hh => ?_⟩, rfl⟩
      have := hh.length_le
      omega
  · rintro _ _ ⟨b, rfl, hb, rfl⟩
    exact Done.mk ⟨b, rfl, hb, rfl⟩

/-! ## LebSize -/
/-- How many bits. -/
def bitLen (n : Nat) : Nat := if h : n = 0 then 0 else bitLen (n / 2) + 1
termination_by n
decreasing_by omega
theorem bitLen_zero : bitLen 0 = 0 := by rw [bitLen, dif_pos rfl]
theorem bitLen_pos {n : Nat} (h : n ≠ 0) : bitLen n = bitLen (n / 2) + 1 := by rw [bitLen, dif_neg h]
theorem bitLen_le (k : Nat) : ∀ n, n < 2 ^ k → bitLen n ≤ k := by
  induction k with
  | zero => intro n h; have : n = 0 := by omega
            subst this; rw [bitLen_zero]; exact Nat.le_refl _
  | succ k ih =>
    intro n h
    by_cases h0 : n = 0
    · subst h0; rw [bitLen_zero]; omega
    · rw [bitLen_pos h0]
      have := ih (n / 2) (by rw [Nat.pow_succ] at h; omega)
      omega
theorem bitLen7 {n : Nat} (h : 128 ≤ n) : bitLen n = bitLen (n / 128) + 7 := by
  rw [bitLen_pos (by omega), bitLen_pos (n := n / 2) (by omega), bitLen_pos (n := n / 2 / 2) (by omega), bitLen_pos (n := n / 2 / 2 / 2) (by omega),
    bitLen_pos (n := n / 2 / 2 / 2 / 2) (by omega), bitLen_pos (n := n / 2 / 2 / 2 / 2 / 2) (by omega), bitLen_pos (n := n / 2 / 2 / 2 / 2 / 2 / 2) (by omega)]
  have : n / 2 / 2 / 2 / 2 / 2 / 2 / 2 = n / 128 := by omega
  rw [this]
theorem uleb_bits (n : Nat) : (uleb n).length = max 1 ((bitLen n + 6) / 7) := by
  induction n using Nat.strongRecOn with
  | _ n ih =>
    by_cases h : n < 128
    · rw [uleb_lt h]
      have := bitLen_le 7 n h
      simp only [List.length_singleton]
      omega
    · rw [uleb_ge (by omega), List.length_cons, ih (n / 128) (by omega), bitLen7 (n := n) (by omega)]
      have : 0 < bitLen (n / 128) := by rw [bitLen_pos (by omega)]; omega
      omega
theorem lebSize (n : Int) (hn : 0 ≤ n ∧ n ≤ 18446744073709551615) (w : World) : Fc Try.prog 3 #[.int .u64 n] w (fun v w' => v = .bool true ∧ Below w.heap.size w w') := by
  obtain ⟨n, rfl⟩ := Int.eq_ofNat_of_zero_le hn.1
  have hn : n < 2 ^ 64 := by omega
  have hbl := bitLen_le 64 n hn
  refine Fc.of Try.func3 rfl (by kernel_rfl) ?_
  refine LoopP.rule (α := Nat × Nat) (n, 0) (fun x => [(4, .int .u64 x.1), (3, .int .i64 x.2)]) (fun x w' => w = w' ∧ x.1 < 2 ^ 64 ∧ x.2 + bitLen x.1 = bitLen n) (fun x => x.1)
    (mt_cons rfl (mt_cons rfl mt_nil)) ⟨rfl, hn, by simp⟩ ?_
  rintro ⟨m, k⟩ f w1 ⟨rfl, hm, hk⟩
  dsimp only at *
  refine cI (fun h => ?_) (fun h => ?_)
  · have h := vLt_t h
    refine bk ?_
    refine DivP.mk (by decide) ?_
    have e2 : vQuo .u64 (m : Int) 2 = ((m / 2 : Nat) : Int) := by
      unfold vQuo
      rw [Int.tdiv_eq_ediv_of_nonneg (by omega)]
      have := wu64 (n := (m : Int) / 2) (by omega)
      unfold vWrap at this
      rw [this]; rfl
    rw [bitLen_pos (n := m) (by omega)] at hk
    refine Nxt.mk (m / 2, k + 1) (mt_i rfl e2 (mt_i rfl ?_ mt_nil)) ⟨rfl, ?_, ?_⟩ ?_
    · rw [wi64 (by omega)]; rfl
    · show m / 2 < 2 ^ 64
      omega
    · show k + 1 + bitLen (m / 2) = bitLen n
      omega
    · show m / 2 < m
      omega
  · have h := vLt_f h
    have : m = 0 := by omega
    subst this
    rw [bitLen_zero] at hk
    refine CallP.mk (Fc.imp (U n hn _) ?_)
    rintro _ w' ⟨l, rfl, hl, hb⟩
    refine rLenStr rfl ?_
    refine DivP.mk (by decide) ?_
    refine rMax ?_
    refine Done.mk ⟨?_, hb⟩
    rw [hl, uleb_bits]
    have e : vQuo .i64 (vWrap .i64 ((k : Int) + 6)) 7 = (((k + 6) / 7 : Nat) : Int) := by
      rw [wi64 (by omega)]
      unfold vQuo
      rw [Int.tdiv_eq_ediv_of_nonneg (by omega)]
      have := wi64 (n := ((k : Int) + 6) / 7) (by omega)
      unfold vWrap at this
      rw [this]; rfl
    rw [e, vEq_iff]
    congr 1
    rw [decide_eq_true_eq]
    omega

/-! ## LebApart -/
theorem lebApart (a b c d : Int) (ha : 0 ≤ a ∧ a ≤ 18446744073709551615) (hb : 0 ≤ b ∧ b ≤ 18446744073709551615) (hc : -9223372036854775808 ≤ c ∧ c ≤ 9223372036854775807) (hd : -9223372036854775808 ≤ d ∧ d ≤ 9223372036854775807)
    (w : World) : Fc Try.prog 5 #[.int .u64 a, .int .u64 b, .int .i64 c, .int .i64 d] w (fun v w' => v = .bool true ∧ Below w.heap.size w w') := by
  obtain ⟨a, rfl⟩ := Int.eq_ofNat_of_zero_le ha.1
  obtain ⟨b, rfl⟩ := Int.eq_ofNat_of_zero_le hb.1
  have ha : a < 2 ^ 64 := by omega
  have hb : b < 2 ^ 64 := by omega
  have la : (uleb a).length ≤ 10 := uleb_len 9 a (by omega)
  have lb : (uleb b).length ≤ 10 := uleb_len 9 b (by omega)
  have lc : (sleb c).length ≤ 10 := sleb_len 9 c (by omega) (by omega)
  have ld : (sleb d).length ≤ 10 := sleb_len 9 d (by omega) (by omega)
  refine Fc.of Try.func5 rfl (by kernel_rfl) ?_
  refine CallP.mk (Fc.imp (U a ha _) ?_)
  rintro _ w1 ⟨l1, rfl, e1, h1⟩
  refine CallP.mk (Fc.imp (U b hb _) ?_)
  rintro _ w2 ⟨l2, rfl, e2, h2⟩
  refine CallP.mk (Fc.imp (hasPrefix _ _ (by rw [e1]; omega) (by rw [e2]; omega) _) ?_)
  rintro _ _ ⟨r1, rfl, f1, rfl⟩
  refine rBoolEq rfl ?_
  have g1 : (r1 == vEq (a : Int) (b : Int)) = true := by
    rw [vEq_iff, beq_iff_eq, Bool.eq_iff_iff, f1, e1, e2, uleb_prefix ha hb, decide_eq_true_eq]
    omega
  refine br_t g1 ?_
  refine CallP.mk (Fc.imp (S c hc _) ?_)
  rintro _ w3 ⟨l3, rfl, e3, h3⟩
  refine CallP.mk (Fc.imp (S d hd _) ?_)
  rintro _ w4 ⟨l4, rfl, e4, h4⟩
  refine CallP.mk (Fc.imp (hasPrefix _ _ (by rw [e3]; omega) (by rw [e4]; omega) _) ?_)
  rintro _ _ ⟨r2, rfl, f2, rfl⟩
  refine rBoolEq rfl ?_
  refine Done.mk ⟨?_, (h1.trans (h2.mono h1.size)).trans (((h3.mono h2.size).trans (h4.mono (Nat.le_trans h2.size h3.size))).mono h1.size)⟩
  congr 1
  rw [vEq_iff, beq_iff_eq, Bool.eq_iff_iff, f2, e3, e4, sleb_prefix hc hd, decide_eq_true_eq]

/-! ## LebCut -/
theorem lebCut (n m at_ : Int) (hn : 0 ≤ n ∧ n ≤ 18446744073709551615) (hm : -9223372036854775808 ≤ m ∧ m ≤ 9223372036854775807) (hat : -9223372036854775808 ≤ at_ ∧ at_ ≤ 9223372036854775807)
    (w : World) : Fc Try.prog 8 #[.int .u64 n, .int .i64 m, .int .i64 at_] w (fun v w' => v = .bool true ∧ Below w.heap.size w w') := by
  obtain ⟨n, rfl⟩ := Int.eq_ofNat_of_zero_le hn.1
  have hn : n < 2 ^ 64 := by omega
  have la : (uleb n).length ≤ 10 := uleb_len 9 n (by omega)
  have lc : (sleb m).length ≤ 10 := sleb_len 9 m (by omega) (by omega)
  have pa := uleb_pos n
  have pc := sleb_pos m
  refine Fc.of Try.func8 rfl (by kernel_rfl) ?_
  refine CallP.mk (Fc.imp (U n hn _) ?_)
  rintro _ w1 ⟨l1, rfl, e1, h1⟩
  refine CallP.mk (Fc.imp (S m hm _) ?_)
  rintro _ w2 ⟨l2, rfl, e2, h2⟩
  rw [← e1] at la pa
  rw [← e2] at lc pc
  refine rStrEq ?_
  refine br_f (by rw [decide_eq_false_iff_not]; intro e; rw [e] at pa; simp at pa) ?_
  refine rStrEq ?_
  refine cF (by show _ = false; rw [decide_eq_false_iff_not]; intro e; rw [e] at pc; simp at pc) ?_
  refine rLenStr rfl ?_
  refine CallP.mk (Fc.imp (rest at_ _ hat (by omega) _) ?_)
  rintro _ _ ⟨rfl, rfl⟩
  have h3 := Int.emod_nonneg at_ (show (l1.length : Int) ≠ 0 by omega)
  have h4 := Int.emod_lt_of_pos at_ (show (0 : Int) < l1.length by omega)
  refine rSubH rfl (at_ % l1.length).toNat (by omega) (by omega) ?_
  refine CallP.mk (Fc.imp (readU _ 64 _ (.inr rfl) (by rw [List.length_take]; omega)) ?_)
  rintro _ _ ⟨x1, x2, x3, rfl, hx, rfl⟩
  have hx3 : x3 = 3 := by
    rw [e1, rdU_cut 64 n 0 0 _ (by decide) (by simpa using hn) (by rw [← e1]; omega)] at hx
    simp only [Prod.mk.injEq] at hx
    omega
  refine rLenStr rfl ?_
  refine CallP.mk (Fc.imp (rest at_ _ hat (by omega) _) ?_)
  rintro _ _ ⟨rfl, rfl⟩
  have h5 := Int.emod_nonneg at_ (show (l2.length : Int) ≠ 0 by omega)
  have h6 := Int.emod_lt_of_pos at_ (show (0 : Int) < l2.length by omega)
  refine rSubH rfl (at_ % l2.length).toNat (by omega) (by omega) ?_
  refine CallP.mk (Fc.imp (readS _ 64 _ (.inr rfl) (by rw [List.length_take]; omega)) ?_)
  rintro _ _ ⟨y1, y2, y3, rfl, hy, rfl⟩
  have hy3 : y3 = 3 := by
    rw [e2, rdS_cut 64 m.natAbs m 0 0 _ (Nat.le_refl _) (by decide) (by simpa using hm.1) (by have := hm.2; simp; omega) (by rw [← e2]; omega)] at hy
    simp only [Prod.mk.injEq] at hy
    omega
  refine br_t (by rw [vEq_iff, hx3]; rfl) ?_
  refine Done.mk ⟨?_, h1.trans (h2.mono h1.size)⟩
  rw [vEq_iff, hy3]; rfl

/-! ## LebShort -/
theorem lebShort (s : List UInt8) (wide : Bool) (hs : s.length ≤ 9223372036854775807)
    (w : World) : Fc Try.prog 7 #[.string (bs s), .bool wide] w (fun v w' => v = .bool true ∧ Below w.heap.size w w') := by
  refine Fc.of Try.func7 rfl (by kernel_rfl) ?_
  obtain ⟨bits, hb, hbits⟩ : ∃ bits : Nat, (bits = 32 ∨ bits = 64) ∧ (bits : Int) = if wide then 64 else 32 := by
    cases wide
    · exact ⟨32, .inl rfl, rfl⟩
    · exact ⟨64, .inr rfl, rfl⟩
  refine cond_join (α := Unit) (fun _ => [(5, .int .i64 bits)]) (fun _ w' => w = w') (fun h => ?_) (fun h => ?_) ?_
  · refine Jn.mk () (mt_i rfl ?_ mt_nil) rfl
    rw [hbits, h]; rfl
  · refine Jn.mk () (mt_i rfl ?_ mt_nil) rfl
    rw [hbits, h]; rfl
  rintro - f w' rfl
  refine CallP.mk (Fc.imp (U 0 (by decide) _) ?_)
  rintro _ w1 ⟨l0, rfl, e0, h1⟩
  refine rStrNe ?_
  refine cF (by rw [e0, uleb_lt (by decide)]; decide) ?_
  refine CallP.mk (Fc.imp (readU s bits _ hb hs) ?_)
  rintro _ _ ⟨n, k, e, rfl, hU, rfl⟩
  refine CallP.mk (Fc.imp (readS s bits _ hb hs) ?_)
  rintro _ _ ⟨m, l, g, rfl, hS, rfl⟩
  have p64 : (2 : Nat) ^ bits ≤ 2 ^ 64 := Nat.pow_le_pow_right (by decide) (by omega)
  have p63 : (2 : Nat) ^ (bits - 1) ≤ 2 ^ 63 := Nat.pow_le_pow_right (by decide) (by omega)
  have rU := rdU_bd bits s 0 0 (by omega) hb (by decide)
  have rS := rdS_bd bits s 0 0 (by omega) hb (by decide)
  rw [hU] at rU
  rw [hS] at rS
  dsimp only at rU rS
  have sU : e = 0 → (uleb n).length ≤ k ∧ k ≤ s.length := fun he => by
    subst he
    obtain ⟨a1, a2, a3⟩ := rdU_short bits s 0 0 n k (by decide) hU
    exact ⟨uleb_short a1 a2, by omega⟩
  have sS : g = 0 → (sleb m).length ≤ l ∧ l ≤ s.length := fun he => by
    subst he
    obtain ⟨a1, a2, a3, a4⟩ := rdS_short bits s 0 0 m l (by decide) hS
    exact ⟨sleb_short a1 a2 a3, by omega⟩
  refine br (fun he => ?_) (fun he => ?_)
  rotate_left
  have he := vNe_f he
  obtain ⟨t1, t2⟩ := sU (by omega)
  refine CallP.mk (Fc.imp (U n (by omega) _) ?_)
  rintro _ w2 ⟨l1, rfl, e1, h2⟩
  rw [← e1] at t1
  refine rLenStr rfl ?_
  refine br_t (by rw [vLe_iff]; simp; omega) ?_
  refine rLenStr rfl ?_
  refine br_t (by rw [vLe_iff]; simp; omega) ?_
  rotate_left
  have h2 := Below.refl w1.heap.size w1
  all_goals
    have h12 := h1.trans (h2.mono h1.size)
    refine br (fun hg => ?_) (fun hg => ?_)
    · exact Done.mk ⟨rfl, h12⟩
    have hg := vNe_f hg
    obtain ⟨t3, t4⟩ := sS (by omega)
    refine CallP.mk (Fc.imp (S m (by omega) _) ?_)
    rintro _ w3 ⟨l2, rfl, e2, h3⟩
    rw [← e2] at t3
    refine rLenStr rfl ?_
    refine br_t (by rw [vLe_iff]; simp; omega) ?_
    refine rLenStr rfl ?_
    refine Done.mk ⟨by rw [vLe_iff]; simp; omega, h12.trans (h3.mono h12.size)⟩
end Go.Proofs.Yteddbemcbnpemaa.Leb
