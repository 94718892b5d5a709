/- The walk of LebBack: what is written is read as it was, for strings behind it of 2^20 bytes at the most. -/
import Derived.Test.YteddbemcbnpemaaLebL
set_option maxRecDepth 100000
set_option linter.unusedVariables false
namespace Go.Proofs.Yteddbemcbnpemaa.Leb
open Go Go.Proofs.Yteddbemcbnpemaa.Eng Go.RowKit
theorem lebBack (n m : Int) (more : List UInt8) (hn : 0 ≤ n ∧ n ≤ 18446744073709551615) (hm : -9223372036854775808 ≤ m ∧ m ≤ 9223372036854775807) (hs : more.length ≤ 1048576)
    (w : World) : Fc Try.prog 6 #[.int .u64 n, .int .i64 m, .string (bs more)] w (fun v w' => v = .bool true ∧ Below w.heap.size w w') := by
  obtain ⟨n, rfl⟩ := Int.eq_ofNat_of_zero_le hn.1
  have hn : n < 2 ^ 64 := by omega
  have lU : ∀ k, k < 2 ^ 64 → (uleb k).length ≤ 10 := fun k hk => uleb_len 9 k (by omega)
  have lS : ∀ k : Int, -9223372036854775808 ≤ k ∧ k ≤ 9223372036854775807 → (sleb k).length ≤ 10 := fun k hk => sleb_len 9 k (by omega) (by omega)
  obtain ⟨p, hp⟩ : ∃ p : Int, p = vWrap .i32 m := ⟨_, rfl⟩
  have hpb : -2147483648 ≤ p ∧ p ≤ 2147483647 := by
    rw [hp]; exact vWrap_range .i32 m
  obtain ⟨q, hq⟩ : ∃ q : Nat, (q : Int) = vAnd .u64 (n : Int) 4294967295 := by
    refine ⟨n % 2 ^ 32, ?_⟩
    have := vAnd_mask .u64 n 32 (by decide)
    rw [show (2 : Int) ^ 32 - 1 = 4294967295 from rfl] at this
    rw [this]; omega
  have hqb : q < 2 ^ 32 := by
    have := vAnd_mask .u64 n 32 (by decide)
    rw [show (2 : Int) ^ 32 - 1 = 4294967295 from rfl, ← hq] at this
    omega
  refine Fc.of Try.func6 rfl (by kernel_rfl) ?_
  refine CallP.mk (Fc.imp (U n hn _) ?_)
  rintro _ w1 ⟨l1, rfl, e1, h1⟩
  have b1 := lU n hn
  rw [← e1] at b1
  refine rCat (by omega) ?_
  refine CallP.mk (Fc.imp (readU _ 64 _ (.inr rfl) (by rw [List.length_append]; omega)) ?_)
  rintro _ _ ⟨x1, x2, x3, rfl, hx, rfl⟩
  rw [e1, rdU_uleb 64 more n 0 0 (by decide) (by simpa using hn), ← e1] at hx
  simp only [Nat.mul_zero, Nat.pow_zero, Nat.mul_one, Nat.zero_add, Prod.mk.injEq] at hx
  obtain ⟨rfl, rfl, kx⟩ := hx
  refine CallP.mk (Fc.imp (S m hm _) ?_)
  rintro _ w2 ⟨l2, rfl, e2, h2⟩
  have b2 := lS m hm
  rw [← e2] at b2
  refine rCat (by omega) ?_
  refine CallP.mk (Fc.imp (readS _ 64 _ (.inr rfl) (by rw [List.length_append]; omega)) ?_)
  rintro _ _ ⟨y1, y2, y3, rfl, hy, rfl⟩
  rw [e2, rdS_sleb 64 more m.natAbs m 0 0 (Nat.le_refl _) (by decide) (by simpa using hm.1) (by have := hm.2; simp; omega), ← e2] at hy
  simp only [Nat.mul_zero, Nat.pow_zero, Int.mul_one, Int.natCast_zero, Int.natCast_one, Int.zero_add, Nat.zero_add, Prod.mk.injEq] at hy
  obtain ⟨rfl, rfl, ky⟩ := hy
  refine CallP.mk (Fc.imp (Fc.arg (U q (by omega) _) (by rw [hq])) ?_)
  rintro _ w3 ⟨l3, rfl, e3, h3⟩
  have b3 := lU q (by omega)
  rw [← e3] at b3
  refine rCat (by omega) ?_
  refine CallP.mk (Fc.imp (readU _ 32 _ (.inl rfl) (by rw [List.length_append]; omega)) ?_)
  rintro _ _ ⟨z1, z2, z3, rfl, hz, rfl⟩
  rw [e3, rdU_uleb 32 more q 0 0 (by decide) (by simpa using hqb), ← e3] at hz
  simp only [Nat.mul_zero, Nat.pow_zero, Nat.mul_one, Nat.zero_add, Prod.mk.injEq] at hz
  obtain ⟨rfl, rfl, kz⟩ := hz
  refine rConvInt rfl rfl ?_
  refine rConvInt rfl rfl ?_
  refine CallP.mk (Fc.imp (Fc.arg (S p (by omega) _) (by rw [← hp, wi64 (by omega)])) ?_)
  rintro _ w4 ⟨l4, rfl, e4, h4⟩
  have b4 := lS p (by omega)
  rw [← e4] at b4
  refine rCat (by omega) ?_
  refine CallP.mk (Fc.imp (readS _ 32 _ (.inl rfl) (by rw [List.length_append]; omega)) ?_)
  rintro _ _ ⟨u1, u2, u3, rfl, hu, rfl⟩
  rw [e4, rdS_sleb 32 more p.natAbs p 0 0 (Nat.le_refl _) (by decide) (by simp; omega) (by simp; omega), ← e4] at hu
  simp only [Nat.mul_zero, Nat.pow_zero, Int.mul_one, Int.natCast_zero, Int.natCast_one, Int.zero_add, Nat.zero_add, Prod.mk.injEq] at hu
  obtain ⟨rfl, rfl, ku⟩ := hu
  have g4 := (h1.trans (h2.mono h1.size)).trans ((h3.mono (Nat.le_trans h1.size h2.size)).trans (h4.mono (Nat.le_trans (Nat.le_trans h1.size h2.size) h3.size)))
  refine br_t (by rw [vEq_iff]; simp) ?_
  refine CallP.mk (Fc.imp (U _ hn _) ?_)
  rintro _ w5 ⟨l5, rfl, e5, h5⟩
  have g5 := g4.trans (h5.mono g4.size)
  refine rLenStr rfl ?_
  refine br_t (by rw [vEq_iff, e5, ← e1]; simp) ?_
  refine br_t (by rw [vEq_iff, ← kx]; simp) ?_
  refine br_t (by rw [vEq_iff]; simp) ?_
  refine CallP.mk (Fc.imp (S _ hm _) ?_)
  rintro _ w6 ⟨l6, rfl, e6, h6⟩
  have g6 := g5.trans (h6.mono g5.size)
  refine rLenStr rfl ?_
  refine br_t (by rw [vEq_iff, e6, ← e2]; simp) ?_
  refine br_t (by rw [vEq_iff, ← ky]; simp) ?_
  refine br_t (by rw [vEq_iff, ← hq]; simp) ?_
  refine CallP.mk (Fc.imp (U _ (by omega) _) ?_)
  rintro _ w7 ⟨l7, rfl, e7, h7⟩
  have g7 := g6.trans (h7.mono g6.size)
  refine rLenStr rfl ?_
  refine br_t (by rw [vEq_iff, e7, ← e3]; simp) ?_
  refine br_t (by rw [vEq_iff, ← kz]; simp) ?_
  refine rConvInt rfl rfl ?_
  refine rConvInt rfl rfl ?_
  refine br_t (by rw [vEq_iff, ← hp, wi64 (by omega)]; simp) ?_
  refine CallP.mk (Fc.imp (S _ (by omega) _) ?_)
  rintro _ w8 ⟨l8, rfl, e8, h8⟩
  have g8 := g7.trans (h8.mono g7.size)
  refine rLenStr rfl ?_
  refine br_t (by rw [vEq_iff, e8, ← e4]; simp) ?_
  refine Done.mk ⟨?_, g8⟩
  rw [vEq_iff, ← ku]; simp
end Go.Proofs.Yteddbemcbnpemaa.Leb
