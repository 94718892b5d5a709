/- The walk of the law NumDivides. -/
import Derived.Test.YtobepdjhihjcdaaNumL
set_option maxRecDepth 100000
set_option linter.unusedVariables false
namespace Go.Proofs.Ytobepdjhihjcdaa.Num
open Go Go.Proofs.Ytobepdjhihjcdaa.Eng Go.RowKit
theorem tmod_lt {a b : Int} (hb : b ≠ 0) : (a.tmod b).natAbs < b.natAbs := by
  rw [Int.natAbs_tmod]; exact Nat.mod_lt _ (Int.natAbs_pos.2 hb)
theorem tmod_sign (a b : Int) : a.tmod b = 0 ∨ (a.tmod b < 0 ↔ a < 0) := by
  rcases Int.lt_or_le a 0 with h | h
  · have h3 := Int.tmod_nonneg b (show 0 ≤ -a by omega)
    rw [Int.neg_tmod] at h3
    omega
  · have := Int.tmod_nonneg b h
    omega
theorem tmod_le (a b : Int) : (a.tmod b).natAbs ≤ a.natAbs := by
  rw [Int.natAbs_tmod]; exact Nat.mod_le _ _
theorem tdiv_bd {a b : Int} (hb : b ≠ 0) : (a.tdiv b).natAbs ≤ a.natAbs := by
  rw [Int.natAbs_tdiv]; exact Nat.div_le_self _ _
theorem tmod_neg1 (a : Int) : a.tmod (-1) = 0 := by
  rw [Int.tmod_neg, Int.tmod_one]
/-- size: the number without its sign. -/
theorem size (n : Int) (hn : -9223372036854775808 ≤ n ∧ n ≤ 9223372036854775807) (w : World) : Fc Try.prog 19 #[.int .i64 n] w (fun v w' => (∃ r, v = .int .u64 r ∧ r = (n.natAbs : Int)) ∧ w = w') := by
  refine Fc.of Try.func19 rfl (by kernel_rfl) ?_
  refine cI (fun h => ?_) (fun h => ?_)
  · have h := vLt_t h
    refine rConvInt rfl rfl ?_
    refine Done.mk ⟨⟨_, rfl, ?_⟩, rfl⟩
    unfold vWrap; simp [IntKind.wrap, IntKind.bits, IntKind.signed]; omega
  · have h := vLt_f h
    refine rConvInt rfl rfl ?_
    refine Done.mk ⟨⟨_, rfl, ?_⟩, rfl⟩
    rw [wu64 (by omega)]; omega
theorem ofIntR32 (x : Int) (h : -2147483648 ≤ x ∧ x ≤ 2147483647) : (BitVec.ofInt 32 x).toInt = x := by
  have h1 : vWrap .i32 x = (BitVec.ofInt 32 x).toInt := by
    rw [← i32_nat, ofInt_toNat]
    unfold vWrap; simp [IntKind.wrap, IntKind.bits, IntKind.signed]
  rw [← h1, wi32 h]
theorem ofIntR64 (x : Int) (h : -9223372036854775808 ≤ x ∧ x ≤ 9223372036854775807) : (BitVec.ofInt 64 x).toInt = x := by
  have h1 : vWrap .i64 x = (BitVec.ofInt 64 x).toInt := by
    rw [← i64_nat, ofInt_toNat]
    unfold vWrap; simp [IntKind.wrap, IntKind.bits, IntKind.signed]
  rw [← h1, wi64 h]
theorem tdiv_rng {a b M : Int} (h1 : -M ≤ a) (h2 : a ≤ M - 1) (hb : b ≠ 0) (hn : ¬ (a = -M ∧ b = -1)) : -M ≤ a.tdiv b ∧ a.tdiv b ≤ M - 1 := by
  by_cases e1 : b = 1
  · subst e1; rw [Int.tdiv_one]; exact ⟨h1, h2⟩
  by_cases e2 : b = -1
  · subst e2; rw [Int.tdiv_neg, Int.tdiv_one]; omega
  have h3 : (a.tdiv b).natAbs = a.natAbs / b.natAbs := Int.natAbs_tdiv a b
  have h4 : a.natAbs / b.natAbs ≤ a.natAbs / 2 := Nat.div_le_div_left (by omega) (by decide)
  omega
theorem dz32 (A B : BitVec 32) (hb : B.toInt = 0) : twoS 109 A.toInt B.toInt = (0, 21) ∧ twoS 111 A.toInt B.toInt = (0, 21) := by
  constructor <;> (rw [twoS, if_neg (by omega), if_neg (by omega), if_pos (by omega), i32_int, i32_int, u32_int, u32_int, divS, if_pos hb]; kernel_rfl)
theorem dm32 (A B : BitVec 32) (ha : A.toInt = -2147483648) (hb : B.toInt = -1) : twoS 109 A.toInt B.toInt = (0, 22) ∧ twoS 111 A.toInt B.toInt = (0, 0) := by
  constructor
  · rw [twoS, if_neg (by omega), if_neg (by omega), if_pos (by omega), i32_int, i32_int, u32_int, u32_int, divS, if_neg (by omega), if_pos (by decide), if_pos ⟨hb, by omega, by rw [ha]; kernel_rfl⟩]; kernel_rfl
  · rw [twoS, if_neg (by omega), if_neg (by omega), if_pos (by omega), i32_int, i32_int, u32_int, u32_int, divS, if_neg (by omega), if_neg (by decide), if_neg (by decide), if_pos (by decide), if_pos hb]; kernel_rfl
theorem dq32 (A B : BitVec 32) (hb : B.toInt ≠ 0) (hn : ¬ (A.toInt = -2147483648 ∧ B.toInt = -1)) : twoS 109 A.toInt B.toInt = (A.toInt.tdiv B.toInt, 0) ∧ twoS 111 A.toInt B.toInt = (A.toInt.tmod B.toInt, 0) := by
  have ra := rng32 A
  have rb := rng32 B
  have rq := tdiv_rng (M := 2147483648) (by omega) (by omega) hb hn
  have rm := tmod_le A.toInt B.toInt
  have hq : vQuo .i32 A.toInt B.toInt = A.toInt.tdiv B.toInt := by
    have := wi32 (n := A.toInt.tdiv B.toInt) (by omega)
    unfold vWrap at this; unfold vQuo; exact this
  have hr : vRem A.toInt B.toInt = A.toInt.tmod B.toInt := by unfold vRem; rfl
  have hml := tmod_lt (a := A.toInt) hb
  constructor
  · rw [twoS, if_neg (by omega), if_neg (by omega), if_pos (by omega), i32_int, i32_int, u32_int, u32_int, divS, if_neg hb, if_pos (by decide), if_neg, hq]
    · dsimp only; rw [wi64 (n := A.toInt.tdiv B.toInt) (by omega), wi32 (n := A.toInt.tdiv B.toInt) (by omega), wi64 (n := A.toInt.tdiv B.toInt) (by omega)]
    rintro ⟨h1, h2, h3⟩
    have : vWrap .i32 (0 - A.toInt) = - A.toInt := by rw [wi32 (by omega)]; omega
    omega
  · rw [twoS, if_neg (by omega), if_neg (by omega), if_pos (by omega), i32_int, i32_int, u32_int, u32_int, divS, if_neg hb, if_neg (by decide), if_neg (by decide), if_pos (by decide)]
    split
    · rename_i h
      rw [h, tmod_neg1]; kernel_rfl
    · rw [hr]
      dsimp only; rw [wi64 (n := A.toInt.tmod B.toInt) (by omega), wi32 (n := A.toInt.tmod B.toInt) (by omega), wi64 (n := A.toInt.tmod B.toInt) (by omega)]
theorem dz64 (A B : BitVec 64) (hb : B.toInt = 0) : twoS 127 A.toInt B.toInt = (0, 21) ∧ twoS 129 A.toInt B.toInt = (0, 21) := by
  constructor <;> (rw [twoS, if_neg (by omega), if_neg (by omega), if_neg (by omega), if_pos (by omega), u64_int, u64_int, divS, if_pos hb])
theorem dm64 (A B : BitVec 64) (ha : A.toInt = -9223372036854775808) (hb : B.toInt = -1) : twoS 127 A.toInt B.toInt = (0, 22) ∧ twoS 129 A.toInt B.toInt = (0, 0) := by
  constructor
  · rw [twoS, if_neg (by omega), if_neg (by omega), if_neg (by omega), if_pos (by omega), u64_int, u64_int, divS, if_neg (by omega), if_pos (by decide), if_pos ⟨hb, by omega, by rw [ha]; kernel_rfl⟩]
  · rw [twoS, if_neg (by omega), if_neg (by omega), if_neg (by omega), if_pos (by omega), u64_int, u64_int, divS, if_neg (by omega), if_neg (by decide), if_neg (by decide), if_pos (by decide), if_pos hb]
theorem dq64 (A B : BitVec 64) (hb : B.toInt ≠ 0) (hn : ¬ (A.toInt = -9223372036854775808 ∧ B.toInt = -1)) : twoS 127 A.toInt B.toInt = (A.toInt.tdiv B.toInt, 0) ∧ twoS 129 A.toInt B.toInt = (A.toInt.tmod B.toInt, 0) := by
  have ra := rng64 A
  have rb := rng64 B
  have rq := tdiv_rng (M := 9223372036854775808) (by omega) (by omega) hb hn
  have rm := tmod_le A.toInt B.toInt
  have hq : vQuo .i64 A.toInt B.toInt = A.toInt.tdiv B.toInt := by
    have := wi64 (n := A.toInt.tdiv B.toInt) (by omega)
    unfold vWrap at this; unfold vQuo; exact this
  have hr : vRem A.toInt B.toInt = A.toInt.tmod B.toInt := by unfold vRem; rfl
  have hml := tmod_lt (a := A.toInt) hb
  constructor
  · rw [twoS, if_neg (by omega), if_neg (by omega), if_neg (by omega), if_pos (by omega), u64_int, u64_int, divS, if_neg hb, if_pos (by decide), if_neg, hq, wi64 (n := A.toInt.tdiv B.toInt) (by omega)]
    rintro ⟨h1, h2, h3⟩
    have : vWrap .i64 (0 - A.toInt) = - A.toInt := by rw [wi64 (by omega)]; omega
    omega
  · rw [twoS, if_neg (by omega), if_neg (by omega), if_neg (by omega), if_pos (by omega), u64_int, u64_int, divS, if_neg hb, if_neg (by decide), if_neg (by decide), if_pos (by decide)]
    split
    · rename_i h
      rw [h, tmod_neg1]
    · rw [hr, wi64 (n := A.toInt.tmod B.toInt) (by omega)]
theorem numDivides32 (a b : Int) (ha : -9223372036854775808 ≤ a ∧ a ≤ 9223372036854775807) (hb : -9223372036854775808 ≤ b ∧ b ≤ 9223372036854775807) (w : World) : Fc Try.prog 5 #[.int .i64 a, .int .i64 b, .bool false] w (fun v w' => v = .bool true ∧ Below w.heap.size w w') := by
  refine Fc.of Try.func5 rfl (by kernel_rfl) ?_
  refine rBuildSlice (z := .int .i64 0) (sz := 1) rfl rfl rfl (by decide) ?_
  intro w2 n2
  obtain ⟨A, ea⟩ := fit32 a
  obtain ⟨B, eb⟩ := fit32 b
  refine CallP.mk (Fc.imp (fits false w.heap.size [a, b] [A.toInt, B.toInt] 2 rfl (by simp only [List.map, ea, eb]) (by decide) _ w2 n2.blk) ?_)
  rintro _ w3 ⟨rfl, b3, u3⟩
  have g3 : Below w.heap.size w w3 := u3.below n2.below (Nat.le_refl _)
  refine draws (fun wx => Blk wx w.heap.size (List.map (Value.int .i64) [A.toInt, B.toInt]) 2) [(0, true), (1, true), (2, true), (3, true), (4, true), (5, true), (6, true), (7, true)] mixed (by kernel_rfl) (fun w4 h4 => ⟨by rw [h4]; exact b3, ?_⟩)
  refine tk (fun wx hS => rIdx 1 0 0 rfl (by decide) rfl rfl rfl ⟨rfl, rfl⟩) ?_
  refine tk (v := .int .i64 A.toInt) (fun wx hS => rLoadC (hS.at.cell (i := 0) rfl) rfl rfl ⟨rfl, rfl⟩) ?_
  refine tk (fun wx hS => rIdx 1 1 1 rfl (by decide) rfl rfl rfl ⟨rfl, rfl⟩) ?_
  refine tk (v := .int .i64 B.toInt) (fun wx hS => rLoadC (hS.at.cell (i := 1) rfl) rfl rfl ⟨rfl, rfl⟩) ?_
  have g : Below w.heap.size w w4 := by rw [h4]; exact g3.drew
  refine cT (by rfl) ?_
  refine CallP.mk (Fc.imp (width 109 false (by decide) _) ?_)
  rintro _ _ ⟨⟨r1, rfl, hr1⟩, rfl⟩
  refine CallP.mk (Fc.imp (Two r1 _ _ (by rw [hr1]; decide) (rngI32 A) (rngI32 B) _) ?_)
  rintro _ w5 ⟨⟨q, e, rfl, hqe⟩, st⟩
  replace g := g.trans (st.below _)
  refine CallP.mk (Fc.imp (width 111 false (by decide) _) ?_)
  rintro _ _ ⟨⟨r2, rfl, hr2⟩, rfl⟩
  refine CallP.mk (Fc.imp (Two r2 _ _ (by rw [hr2]; decide) (rngI32 A) (rngI32 B) _) ?_)
  rintro _ w6 ⟨⟨r, f, rfl, hrf⟩, st⟩
  replace g := g.trans (st.below _)
  rw [hr1, show widthS 109 false = 109 from rfl] at hqe
  rw [hr2, show widthS 111 false = 111 from rfl] at hrf
  by_cases hz : B.toInt = 0
  · rw [(dz32 A B hz).1, Prod.mk.injEq] at hqe
    rw [(dz32 A B hz).2, Prod.mk.injEq] at hrf
    obtain ⟨hq, he⟩ := hqe
    obtain ⟨hr, hf⟩ := hrf
    refine cT (by rw [vEq_iff]; simpa using hz) ?_
    refine br_t (by rw [vEq_iff]; simpa using he) ?_
    refine br_t (by rw [vEq_iff]; simpa using hf) ?_
    refine br_t (by rw [vEq_iff]; simpa using hq) ?_
    exact Done.mk ⟨congrArg Value.bool (by rw [vEq_iff]; simpa using hr), g⟩
  refine cF (by rw [vEq_iff]; simpa using hz) ?_
  by_cases hm : A.toInt = -2147483648 ∧ B.toInt = -1
  · rw [(dm32 A B hm.1 hm.2).1, Prod.mk.injEq] at hqe
    rw [(dm32 A B hm.1 hm.2).2, Prod.mk.injEq] at hrf
    obtain ⟨hq, he⟩ := hqe
    obtain ⟨hr, hf⟩ := hrf
    refine br_t (by rw [vEq_iff]; simpa using hm.1) ?_
    refine cT (by rw [vEq_iff]; simpa using hm.2) ?_
    refine br_t (by rw [vEq_iff]; simpa using he) ?_
    refine br_t (by rw [vEq_iff]; simpa using hf) ?_
    refine br_t (by rw [vEq_iff]; simpa using hq) ?_
    exact Done.mk ⟨congrArg Value.bool (by rw [vEq_iff]; simpa using hr), g⟩
  rw [(dq32 A B hz hm).1, Prod.mk.injEq] at hqe
  rw [(dq32 A B hz hm).2, Prod.mk.injEq] at hrf
  obtain ⟨hq, he⟩ := hqe
  obtain ⟨hr, hf⟩ := hrf
  have ra := rng32 A
  have rb := rng32 B
  have rq := tdiv_rng (M := 2147483648) (by omega) (by omega) hz hm
  have rm := tmod_le A.toInt B.toInt
  have hml := tmod_lt (a := A.toInt) hz
  have hsg := tmod_sign A.toInt B.toInt
  have hsum : A.toInt = q * B.toInt + r := by rw [hq, hr]; exact (Int.tdiv_mul_add_tmod _ _).symm
  rw [← hq] at rq
  rw [← hr] at rm hml hsg
  obtain ⟨Q, hQ⟩ : ∃ Q : BitVec 32, q = Q.toInt := ⟨BitVec.ofInt 32 q, (ofIntR32 q (by omega)).symm⟩
  obtain ⟨R, hR⟩ : ∃ R : BitVec 32, r = R.toInt := ⟨BitVec.ofInt 32 r, (ofIntR32 r (by omega)).symm⟩
  clear hq hr
  subst hQ
  subst hR
  have hback : Q * B + R = A := by
    have := congrArg (BitVec.ofInt 32) hsum
    rw [BitVec.ofInt_add, BitVec.ofInt_mul, BitVec.ofInt_toInt, BitVec.ofInt_toInt, BitVec.ofInt_toInt, BitVec.ofInt_toInt] at this
    exact this.symm
  refine br (fun h1 => cF (by have h1 := vEq_t h1; rw [vEq_iff, decide_eq_false_iff_not]; intro h2; exact hm ⟨by omega, h2⟩) ?_) (fun h1 => cF (by rfl) ?_)
  all_goals
    refine CallP.mk (Fc.imp (width 106 false (by decide) _) ?_)
    rintro _ _ ⟨⟨r3, rfl, hr3⟩, rfl⟩
    refine CallP.mk (Fc.imp (width 108 false (by decide) _) ?_)
    rintro _ _ ⟨⟨r4, rfl, hr4⟩, rfl⟩
    refine CallP.mk (Fc.imp (two r4 _ _ (by rw [hr4]; decide) (rngI32 Q) (rngI32 B) _) ?_)
    rintro _ w7 ⟨⟨s1, rfl, hs1⟩, st⟩
    have g := g.trans (st.below _)
    rw [hr4, show widthS 108 false = 106 + 2 from rfl, rk32 Q B (by omega) (a32_2 Q B)] at hs1
    subst hs1
    refine CallP.mk (Fc.imp (two r3 _ _ (by rw [hr3]; decide) (rngI32 (Q * B)) (rngI32 R) _) ?_)
    rintro _ w8 ⟨⟨s2, rfl, hs2⟩, st⟩
    have g := g.trans (st.below _)
    rw [hr3, show widthS 106 false = 106 + 0 from rfl, rk32 (Q * B) R (by omega) (a32_0 (Q * B) R)] at hs2
    subst hs2
    refine br_t (by rw [vEq_iff]; simpa using he) ?_
    refine br_t (by rw [vEq_iff]; simpa using hf) ?_
    refine br_t (by rw [vEq_iff, decide_eq_true_eq]; exact congrArg BitVec.toInt hback) ?_
    refine CallP.mk (Fc.imp (size _ (rngI32 R) _) ?_)
    rintro _ _ ⟨⟨z1, rfl, hz1⟩, rfl⟩
    refine CallP.mk (Fc.imp (size _ (rngI32 B) _) ?_)
    rintro _ _ ⟨⟨z2, rfl, hz2⟩, rfl⟩
    refine br_t (by rw [vLt_iff, decide_eq_true_eq, hz1, hz2]; omega) ?_
    refine br (fun h5 => ?_) (fun h5 => ?_)
    · exact Done.mk ⟨rfl, g⟩
    · have h5 := vEq_f h5
      refine rBoolEq rfl ?_
      refine Done.mk ⟨congrArg Value.bool ?_, g⟩
      rw [vLt_iff, vLt_iff, beq_iff_eq, decide_eq_decide]
      omega
theorem numDivides64 (a b : Int) (ha : -9223372036854775808 ≤ a ∧ a ≤ 9223372036854775807) (hb : -9223372036854775808 ≤ b ∧ b ≤ 9223372036854775807) (w : World) : Fc Try.prog 5 #[.int .i64 a, .int .i64 b, .bool true] w (fun v w' => v = .bool true ∧ Below w.heap.size w w') := by
  refine Fc.of Try.func5 rfl (by kernel_rfl) ?_
  refine rBuildSlice (z := .int .i64 0) (sz := 1) rfl rfl rfl (by decide) ?_
  intro w2 n2
  obtain ⟨A, ea⟩ := fit64 a ha
  obtain ⟨B, eb⟩ := fit64 b hb
  refine CallP.mk (Fc.imp (fits true w.heap.size [a, b] [A.toInt, B.toInt] 2 rfl (by simp only [List.map, ea, eb]) (by decide) _ w2 n2.blk) ?_)
  rintro _ w3 ⟨rfl, b3, u3⟩
  have g3 : Below w.heap.size w w3 := u3.below n2.below (Nat.le_refl _)
  refine draws (fun wx => Blk wx w.heap.size (List.map (Value.int .i64) [A.toInt, B.toInt]) 2) [(0, true), (1, true), (2, true), (3, true), (4, true), (5, true), (6, true), (7, true)] mixed (by kernel_rfl) (fun w4 h4 => ⟨by rw [h4]; exact b3, ?_⟩)
  refine tk (fun wx hS => rIdx 1 0 0 rfl (by decide) rfl rfl rfl ⟨rfl, rfl⟩) ?_
  refine tk (v := .int .i64 A.toInt) (fun wx hS => rLoadC (hS.at.cell (i := 0) rfl) rfl rfl ⟨rfl, rfl⟩) ?_
  refine tk (fun wx hS => rIdx 1 1 1 rfl (by decide) rfl rfl rfl ⟨rfl, rfl⟩) ?_
  refine tk (v := .int .i64 B.toInt) (fun wx hS => rLoadC (hS.at.cell (i := 1) rfl) rfl rfl ⟨rfl, rfl⟩) ?_
  have g : Below w.heap.size w w4 := by rw [h4]; exact g3.drew
  refine cF (by rfl) ?_
  refine CallP.mk (Fc.imp (width 109 true (by decide) _) ?_)
  rintro _ _ ⟨⟨r1, rfl, hr1⟩, rfl⟩
  refine CallP.mk (Fc.imp (Two r1 _ _ (by rw [hr1]; decide) (rngI64 A) (rngI64 B) _) ?_)
  rintro _ w5 ⟨⟨q, e, rfl, hqe⟩, st⟩
  replace g := g.trans (st.below _)
  refine CallP.mk (Fc.imp (width 111 true (by decide) _) ?_)
  rintro _ _ ⟨⟨r2, rfl, hr2⟩, rfl⟩
  refine CallP.mk (Fc.imp (Two r2 _ _ (by rw [hr2]; decide) (rngI64 A) (rngI64 B) _) ?_)
  rintro _ w6 ⟨⟨r, f, rfl, hrf⟩, st⟩
  replace g := g.trans (st.below _)
  rw [hr1, show widthS 109 true = 127 from rfl] at hqe
  rw [hr2, show widthS 111 true = 129 from rfl] at hrf
  by_cases hz : B.toInt = 0
  · rw [(dz64 A B hz).1, Prod.mk.injEq] at hqe
    rw [(dz64 A B hz).2, Prod.mk.injEq] at hrf
    obtain ⟨hq, he⟩ := hqe
    obtain ⟨hr, hf⟩ := hrf
    refine cT (by rw [vEq_iff]; simpa using hz) ?_
    refine br_t (by rw [vEq_iff]; simpa using he) ?_
    refine br_t (by rw [vEq_iff]; simpa using hf) ?_
    refine br_t (by rw [vEq_iff]; simpa using hq) ?_
    exact Done.mk ⟨congrArg Value.bool (by rw [vEq_iff]; simpa using hr), g⟩
  refine cF (by rw [vEq_iff]; simpa using hz) ?_
  by_cases hm : A.toInt = -9223372036854775808 ∧ B.toInt = -1
  · rw [(dm64 A B hm.1 hm.2).1, Prod.mk.injEq] at hqe
    rw [(dm64 A B hm.1 hm.2).2, Prod.mk.injEq] at hrf
    obtain ⟨hq, he⟩ := hqe
    obtain ⟨hr, hf⟩ := hrf
    refine br_t (by rw [vEq_iff]; simpa using hm.1) ?_
    refine cT (by rw [vEq_iff]; simpa using hm.2) ?_
    refine br_t (by rw [vEq_iff]; simpa using he) ?_
    refine br_t (by rw [vEq_iff]; simpa using hf) ?_
    refine br_t (by rw [vEq_iff]; simpa using hq) ?_
    exact Done.mk ⟨congrArg Value.bool (by rw [vEq_iff]; simpa using hr), g⟩
  rw [(dq64 A B hz hm).1, Prod.mk.injEq] at hqe
  rw [(dq64 A B hz hm).2, Prod.mk.injEq] at hrf
  obtain ⟨hq, he⟩ := hqe
  obtain ⟨hr, hf⟩ := hrf
  have ra := rng64 A
  have rb := rng64 B
  have rq := tdiv_rng (M := 9223372036854775808) (by omega) (by omega) hz hm
  have rm := tmod_le A.toInt B.toInt
  have hml := tmod_lt (a := A.toInt) hz
  have hsg := tmod_sign A.toInt B.toInt
  have hsum : A.toInt = q * B.toInt + r := by rw [hq, hr]; exact (Int.tdiv_mul_add_tmod _ _).symm
  rw [← hq] at rq
  rw [← hr] at rm hml hsg
  obtain ⟨Q, hQ⟩ : ∃ Q : BitVec 64, q = Q.toInt := ⟨BitVec.ofInt 64 q, (ofIntR64 q (by omega)).symm⟩
  obtain ⟨R, hR⟩ : ∃ R : BitVec 64, r = R.toInt := ⟨BitVec.ofInt 64 r, (ofIntR64 r (by omega)).symm⟩
  clear hq hr
  subst hQ
  subst hR
  have hback : Q * B + R = A := by
    have := congrArg (BitVec.ofInt 64) hsum
    rw [BitVec.ofInt_add, BitVec.ofInt_mul, BitVec.ofInt_toInt, BitVec.ofInt_toInt, BitVec.ofInt_toInt, BitVec.ofInt_toInt] at this
    exact this.symm
  refine br (fun h1 => cF (by have h1 := vEq_t h1; rw [vEq_iff, decide_eq_false_iff_not]; intro h2; exact hm ⟨by omega, h2⟩) ?_) (fun h1 => cF (by rfl) ?_)
  all_goals
    refine CallP.mk (Fc.imp (width 106 true (by decide) _) ?_)
    rintro _ _ ⟨⟨r3, rfl, hr3⟩, rfl⟩
    refine CallP.mk (Fc.imp (width 108 true (by decide) _) ?_)
    rintro _ _ ⟨⟨r4, rfl, hr4⟩, rfl⟩
    refine CallP.mk (Fc.imp (two r4 _ _ (by rw [hr4]; decide) (rngI64 Q) (rngI64 B) _) ?_)
    rintro _ w7 ⟨⟨s1, rfl, hs1⟩, st⟩
    have g := g.trans (st.below _)
    rw [hr4, show widthS 108 true = 124 + 2 from rfl, rk64 Q B (by omega) (a64_2 Q B)] at hs1
    subst hs1
    refine CallP.mk (Fc.imp (two r3 _ _ (by rw [hr3]; decide) (rngI64 (Q * B)) (rngI64 R) _) ?_)
    rintro _ w8 ⟨⟨s2, rfl, hs2⟩, st⟩
    have g := g.trans (st.below _)
    rw [hr3, show widthS 106 true = 124 + 0 from rfl, rk64 (Q * B) R (by omega) (a64_0 (Q * B) R)] at hs2
    subst hs2
    refine br_t (by rw [vEq_iff]; simpa using he) ?_
    refine br_t (by rw [vEq_iff]; simpa using hf) ?_
    refine br_t (by rw [vEq_iff, decide_eq_true_eq]; exact congrArg BitVec.toInt hback) ?_
    refine CallP.mk (Fc.imp (size _ (rngI64 R) _) ?_)
    rintro _ _ ⟨⟨z1, rfl, hz1⟩, rfl⟩
    refine CallP.mk (Fc.imp (size _ (rngI64 B) _) ?_)
    rintro _ _ ⟨⟨z2, rfl, hz2⟩, rfl⟩
    refine br_t (by rw [vLt_iff, decide_eq_true_eq, hz1, hz2]; omega) ?_
    refine br (fun h5 => ?_) (fun h5 => ?_)
    · exact Done.mk ⟨rfl, g⟩
    · have h5 := vEq_f h5
      refine rBoolEq rfl ?_
      refine Done.mk ⟨congrArg Value.bool ?_, g⟩
      rw [vLt_iff, vLt_iff, beq_iff_eq, decide_eq_decide]
      omega
theorem numDivides (a b : Int) (wide : Bool) (ha : -9223372036854775808 ≤ a ∧ a ≤ 9223372036854775807) (hb : -9223372036854775808 ≤ b ∧ b ≤ 9223372036854775807) (w : World) : Fc Try.prog 5 #[.int .i64 a, .int .i64 b, .bool wide] w (fun v w' => v = .bool true ∧ Below w.heap.size w w') := by
  cases wide
  · exact numDivides32 a b ha hb w
  · exact numDivides64 a b ha hb w
end Go.Proofs.Ytobepdjhihjcdaa.Num
