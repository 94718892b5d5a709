/- The walk of the law NumPlainly. -/
import Derived.Test.YtobepdjhihjcdaaNumL
set_option maxRecDepth 100000
set_option linter.unusedVariables false
namespace Go.Proofs.Ytobepdjhihjcdaa.Num
open Go Go.Proofs.Ytobepdjhihjcdaa.Eng Go.RowKit
theorem toInt_zero {N : Nat} (B : BitVec N) (h : B.toNat = 0) : B.toInt = 0 := by
  have : B = 0#N := BitVec.eq_of_toNat_eq (by simpa using h)
  rw [this]; simp
theorem toInt_ne {N : Nat} (B : BitVec N) (h : B.toNat ≠ 0) : B.toInt ≠ 0 := by
  intro e
  have : B = 0#N := BitVec.eq_of_toInt_eq (by rw [e]; simp)
  rw [this] at h; simp at h
theorem pz32 (A B : BitVec 32) (hb : B.toNat = 0) : (twoS 110 A.toInt B.toInt).2 = 21 ∧ (twoS 112 A.toInt B.toInt).2 = 21 := by
  have hb := toInt_zero B hb
  constructor <;> rw [twoS, if_neg (by omega), if_neg (by omega), if_pos (by omega), i32_int, i32_int, u32_int, u32_int, divS, if_pos hb]
theorem pq32 (A B : BitVec 32) (hb : B.toNat ≠ 0) : twoS 110 A.toInt B.toInt = ((A / B).toInt, 0) ∧ twoS 112 A.toInt B.toInt = ((A % B).toInt, 0) := by
  have hz := toInt_ne B hb
  have hA := A.isLt
  have hB := B.isLt
  have hq : vQuo .u32 A.toNat B.toNat = ((A / B).toNat : Int) := by
    have h0 := (A / B).isLt
    have := wu32 (n := ((A / B).toNat : Int)) (by omega)
    unfold vWrap at this; unfold vQuo
    rw [BitVec.toNat_udiv] at this ⊢
    rw [← Int.ofNat_tdiv]; exact this
  have hr : vRem (A.toNat : Int) B.toNat = ((A % B).toNat : Int) := by
    unfold vRem
    rw [BitVec.toNat_umod, ← Int.ofNat_tmod]
  have hqb := (A / B).isLt
  have hrb := (A % B).isLt
  constructor
  · rw [twoS, if_neg (by omega), if_neg (by omega), if_pos (by omega), i32_int, i32_int, u32_int, u32_int, divS, if_neg hz, if_neg (by decide), if_pos (by decide)]
    rw [show (if IntKind.i32 = IntKind.i32 then IntKind.u32 else IntKind.u64) = IntKind.u32 from rfl, hq]
    dsimp only; rw [wi64 (n := ((A / B).toNat : Int)) (by omega), i32_nat, i64_int32]
  · rw [twoS, if_neg (by omega), if_neg (by omega), if_pos (by omega), i32_int, i32_int, u32_int, u32_int, divS, if_neg hz, if_neg (by decide), if_neg (by decide), if_neg (by decide)]
    rw [hr]
    dsimp only; rw [wi64 (n := ((A % B).toNat : Int)) (by omega), i32_nat, i64_int32]
theorem plain32 (X : BitVec 32) {w0 : World} {b : Nat} {w : World} (E : Env false w0 b w) : Fc Try.prog 20 #[.int .i64 X.toInt, .pointer (some ⟨b, 0, none⟩)] w (fun v w' => (∃ r, v = .int .u64 r ∧ r = (X.toNat : Int)) ∧ w = w') := by
  refine Fc.of Try.func20 rfl (by kernel_rfl) ?_
  refine rLoad0 E.at_ rfl rfl ?_
  refine cT (by rfl) ?_
  refine rConvInt rfl rfl ?_
  refine rConvInt rfl rfl ?_
  have := X.isLt
  exact Done.mk ⟨⟨_, rfl, by rw [u32_int, wu64 (by omega)]⟩, rfl⟩
theorem numPlainly32 (a b : Int) (ha : -9223372036854775808 ≤ a ∧ a ≤ 9223372036854775807) (hb : -9223372036854775808 ≤ b ∧ b ≤ 9223372036854775807) (w : World) : Fc Try.prog 6 #[.int .i64 a, .int .i64 b, .bool false] w (fun v w' => v = .bool true ∧ Below w.heap.size w w') := by
  refine Fc.of Try.func6 rfl (by kernel_rfl) ?_
  refine rBox ?_
  intro w1 n1
  refine rLoad0 n1.blk.at rfl rfl ?_
  refine rBuildSlice (z := .int .i64 0) (sz := 1) rfl rfl rfl (by decide) ?_
  intro w2 n2
  obtain ⟨A, ea⟩ := fit32 a
  obtain ⟨B, eb⟩ := fit32 b
  refine CallP.mk (Fc.imp (fits false w1.heap.size [a, b] [A.toInt, B.toInt] 2 rfl (by simp only [List.map, ea, eb]) (by decide) _ w2 n2.blk) ?_)
  rintro _ w3 ⟨rfl, b3, u3⟩
  have k1 : At w3 w.heap.size 0 [.bool false] := (n1.blk.at.below n2.below (by rw [n1.size]; omega)).keep (u3.block _ (by rw [n1.size]; omega))
  have g3 : Below w.heap.size w w3 := u3.below (n1.below.trans (n2.below.mono (by rw [n1.size]; omega))) (by rw [n1.size]; omega)
  have E : Env false w w.heap.size w3 := ⟨g3, k1⟩
  refine draws (fun wx => Env false w w.heap.size wx ∧ Blk wx w1.heap.size (List.map (Value.int .i64) [A.toInt, B.toInt]) 2) [(0, true), (2, true), (3, true), (4, true), (5, true), (6, true), (7, true), (1, false), (8, false), (9, true), (10, true), (11, true), (12, true), (13, true)] mixed (by kernel_rfl) (fun w4 h4 => ⟨⟨E.still (by rw [h4]; exact Still.drew _), by rw [h4]; exact b3⟩, ?_⟩)
  replace E : Env false w w.heap.size w4 := E.still (by rw [h4]; exact Still.drew _)
  replace b3 : Blk w4 w1.heap.size (List.map (Value.int .i64) [A.toInt, B.toInt]) 2 := by rw [h4]; exact b3
  clear h4
  refine tk (fun wx hS => rLoad0 hS.1.at_ rfl rfl ⟨rfl, rfl⟩) ?_
  refine tk (fun wx hS => rIdx 1 0 0 rfl (by decide) rfl rfl rfl ⟨rfl, rfl⟩) ?_
  refine tk (v := .int .i64 A.toInt) (fun wx hS => rLoadC (hS.2.at.cell (i := 0) rfl) rfl rfl ⟨rfl, rfl⟩) ?_
  refine tk (fun wx hS => rIdx 1 1 1 rfl (by decide) rfl rfl rfl ⟨rfl, rfl⟩) ?_
  refine tk (v := .int .i64 B.toInt) (fun wx hS => rLoadC (hS.2.at.cell (i := 1) rfl) rfl rfl ⟨rfl, rfl⟩) ?_
  refine CallP.mk (Fc.imp (width 110 false (by decide) _) ?_)
  rintro _ _ ⟨⟨r0, rfl, hr0⟩, rfl⟩
  refine KeepP.mk ⟨E, b3⟩ ?_
  refine CallP.mk (Fc.imp (Two r0 _ _ (by rw [hr0]; decide) (rngI32 A) (rngI32 B) _) ?_)
  rintro _ w5 ⟨⟨q, e, rfl, hq⟩, st⟩
  replace E := E.still st
  replace b3 : Blk w5 w1.heap.size (List.map (Value.int .i64) [A.toInt, B.toInt]) 2 := b3.keep (by rw [st.heap])
  refine KeepP.mk ⟨E, b3⟩ ?_
  rw [hr0, show widthS 110 false = 110 from rfl] at hq
  refine draws (fun wx => Env false w w.heap.size wx ∧ Blk wx w1.heap.size (List.map (Value.int .i64) [A.toInt, B.toInt]) 2) [(0, true), (2, true), (3, true), (4, true), (5, true), (6, true), (7, true), (1, false), (8, false), (9, true), (10, true), (11, true), (12, true), (13, true)] mixed (by kernel_rfl) (fun w4 h4 => ⟨⟨E.still (by rw [h4]; exact Still.drew _), by rw [h4]; exact b3⟩, ?_⟩)
  replace E : Env false w w.heap.size w4 := E.still (by rw [h4]; exact Still.drew _)
  replace b3 : Blk w4 w1.heap.size (List.map (Value.int .i64) [A.toInt, B.toInt]) 2 := by rw [h4]; exact b3
  clear h4
  refine tk (fun wx hS => rLoad0 hS.1.at_ rfl rfl ⟨rfl, rfl⟩) ?_
  refine tk (fun wx hS => rIdx 1 0 0 rfl (by decide) rfl rfl rfl ⟨rfl, rfl⟩) ?_
  refine tk (v := .int .i64 A.toInt) (fun wx hS => rLoadC (hS.2.at.cell (i := 0) rfl) rfl rfl ⟨rfl, rfl⟩) ?_
  refine tk (fun wx hS => rIdx 1 1 1 rfl (by decide) rfl rfl rfl ⟨rfl, rfl⟩) ?_
  refine tk (v := .int .i64 B.toInt) (fun wx hS => rLoadC (hS.2.at.cell (i := 1) rfl) rfl rfl ⟨rfl, rfl⟩) ?_
  refine CallP.mk (Fc.imp (width 112 false (by decide) _) ?_)
  rintro _ _ ⟨⟨r1, rfl, hr1⟩, rfl⟩
  refine KeepP.mk ⟨E, b3⟩ ?_
  refine CallP.mk (Fc.imp (Two r1 _ _ (by rw [hr1]; decide) (rngI32 A) (rngI32 B) _) ?_)
  rintro _ w5 ⟨⟨r, f, rfl, hr⟩, st⟩
  replace E := E.still st
  replace b3 : Blk w5 w1.heap.size (List.map (Value.int .i64) [A.toInt, B.toInt]) 2 := b3.keep (by rw [st.heap])
  refine KeepP.mk ⟨E, b3⟩ ?_
  rw [hr1, show widthS 112 false = 112 from rfl] at hr
  refine draws (fun wx => Env false w w.heap.size wx ∧ Blk wx w1.heap.size (List.map (Value.int .i64) [A.toInt, B.toInt]) 2) [(0, true), (1, true), (2, true), (3, true), (5, true), (6, true), (7, true), (8, true), (4, false), (9, false), (10, true), (11, true)] mixed (by kernel_rfl) (fun w4 h4 => ⟨⟨E.still (by rw [h4]; exact Still.drew _), by rw [h4]; exact b3⟩, ?_⟩)
  replace E : Env false w w.heap.size w4 := E.still (by rw [h4]; exact Still.drew _)
  replace b3 : Blk w4 w1.heap.size (List.map (Value.int .i64) [A.toInt, B.toInt]) 2 := by rw [h4]; exact b3
  clear h4
  refine tk (fun wx hS => rIdx 1 0 0 rfl (by decide) rfl rfl rfl ⟨rfl, rfl⟩) ?_
  refine tk (v := .int .i64 A.toInt) (fun wx hS => rLoadC (hS.2.at.cell (i := 0) rfl) rfl rfl ⟨rfl, rfl⟩) ?_
  refine tk (fun wx hS => rIdx 1 1 1 rfl (by decide) rfl rfl rfl ⟨rfl, rfl⟩) ?_
  refine tk (v := .int .i64 B.toInt) (fun wx hS => rLoadC (hS.2.at.cell (i := 1) rfl) rfl rfl ⟨rfl, rfl⟩) ?_
  refine CallP.mk (Fc.imp (plain32 A E) ?_)
  rintro _ _ ⟨⟨x, rfl, hx⟩, rfl⟩
  refine KeepP.mk ⟨E, b3⟩ ?_
  refine CallP.mk (Fc.imp (plain32 B E) ?_)
  rintro _ _ ⟨⟨y, rfl, hy⟩, rfl⟩
  refine KeepP.mk ⟨E, b3⟩ ?_
  by_cases hz : B.toNat = 0
  · have h1 := (pz32 A B hz).1
    have h2 := (pz32 A B hz).2
    rw [← hq] at h1
    rw [← hr] at h2
    refine cT (by rw [vEq_iff, hy, hz]; rfl) ?_
    refine br_t (by rw [vEq_iff]; simpa using h1) ?_
    exact Done.mk ⟨congrArg Value.bool (by rw [vEq_iff]; simpa using h2), E.below⟩
  refine cF (by rw [vEq_iff, hy, decide_eq_false_iff_not]; omega) ?_
  rw [(pq32 A B hz).1, Prod.mk.injEq] at hq
  rw [(pq32 A B hz).2, Prod.mk.injEq] at hr
  obtain ⟨rfl, he⟩ := hq
  obtain ⟨rfl, hf⟩ := hr
  have hA := A.isLt
  have e1 : (A / B).toNat = A.toNat / B.toNat := BitVec.toNat_udiv
  have e2 : (A % B).toNat = A.toNat % B.toNat := BitVec.toNat_umod
  have e3 := Nat.div_add_mod' A.toNat B.toNat
  have e4 := Nat.mod_lt A.toNat (Nat.pos_of_ne_zero hz)
  have e5 := Nat.div_le_self A.toNat B.toNat
  rw [← e1, ← e2] at e3
  rw [← e2] at e4
  rw [← e1] at e5
  refine br_t (by rw [vEq_iff]; simpa using he) ?_
  refine br_t (by rw [vEq_iff]; simpa using hf) ?_
  refine CallP.mk (Fc.imp (plain32 (A % B) E) ?_)
  rintro _ _ ⟨⟨z1, rfl, hz1⟩, rfl⟩
  refine br_t (by rw [vLt_iff, decide_eq_true_eq, hz1, hy]; omega) ?_
  refine CallP.mk (Fc.imp (plain32 (A / B) E) ?_)
  rintro _ _ ⟨⟨z2, rfl, hz2⟩, rfl⟩
  refine CallP.mk (Fc.imp (plain32 (A % B) E) ?_)
  rintro _ _ ⟨⟨z3, rfl, hz3⟩, rfl⟩
  have e6 : z2 * y = (((A / B).toNat * B.toNat : Nat) : Int) := by rw [hz2, hy]; push_cast; rfl
  obtain ⟨p, hp⟩ : ∃ p, p = (A / B).toNat * B.toNat := ⟨_, rfl⟩
  rw [← hp] at e3 e6
  refine br_t (by rw [vEq_iff, decide_eq_true_eq, e6, wu64 (n := (p : Int)) (by omega), hz3, hx, wu64 (n := (p : Int) + ((A % B).toNat : Int)) (by omega)]; omega) ?_
  refine CallP.mk (Fc.imp (plain32 (A / B) E) ?_)
  rintro _ _ ⟨⟨z4, rfl, hz4⟩, rfl⟩
  exact Done.mk ⟨congrArg Value.bool (by rw [vLe_iff, decide_eq_true_eq, hz4, hx]; omega), E.below⟩
theorem pz64 (A B : BitVec 64) (hb : B.toNat = 0) : (twoS 128 A.toInt B.toInt).2 = 21 ∧ (twoS 130 A.toInt B.toInt).2 = 21 := by
  have hb := toInt_zero B hb
  constructor <;> rw [twoS, if_neg (by omega), if_neg (by omega), if_neg (by omega), if_pos (by omega), u64_int, u64_int, divS, if_pos hb]
theorem pq64 (A B : BitVec 64) (hb : B.toNat ≠ 0) : twoS 128 A.toInt B.toInt = ((A / B).toInt, 0) ∧ twoS 130 A.toInt B.toInt = ((A % B).toInt, 0) := by
  have hz := toInt_ne B hb
  have hA := A.isLt
  have hB := B.isLt
  have hq : vQuo .u64 A.toNat B.toNat = ((A / B).toNat : Int) := by
    have h0 := (A / B).isLt
    have := wu64 (n := ((A / B).toNat : Int)) (by omega)
    unfold vWrap at this; unfold vQuo
    rw [BitVec.toNat_udiv] at this ⊢
    rw [← Int.ofNat_tdiv]; exact this
  have hr : vRem (A.toNat : Int) B.toNat = ((A % B).toNat : Int) := by
    unfold vRem
    rw [BitVec.toNat_umod, ← Int.ofNat_tmod]
  have hqb := (A / B).isLt
  have hrb := (A % B).isLt
  constructor
  · rw [twoS, if_neg (by omega), if_neg (by omega), if_neg (by omega), if_pos (by omega), u64_int, u64_int, divS, if_neg hz, if_neg (by decide), if_pos (by decide)]
    rw [show (if IntKind.i64 = IntKind.i32 then IntKind.u32 else IntKind.u64) = IntKind.u64 from rfl, hq]
    rw [i64_nat]
  · rw [twoS, if_neg (by omega), if_neg (by omega), if_neg (by omega), if_pos (by omega), u64_int, u64_int, divS, if_neg hz, if_neg (by decide), if_neg (by decide), if_neg (by decide)]
    rw [hr]
    rw [i64_nat]
theorem plain64 (X : BitVec 64) {w0 : World} {b : Nat} {w : World} (E : Env true w0 b w) : Fc Try.prog 20 #[.int .i64 X.toInt, .pointer (some ⟨b, 0, none⟩)] w (fun v w' => (∃ r, v = .int .u64 r ∧ r = (X.toNat : Int)) ∧ w = w') := by
  refine Fc.of Try.func20 rfl (by kernel_rfl) ?_
  refine rLoad0 E.at_ rfl rfl ?_
  refine cF (by rfl) ?_
  refine rConvInt rfl rfl ?_
  exact Done.mk ⟨⟨_, rfl, u64_int X⟩, rfl⟩
theorem numPlainly64 (a b : Int) (ha : -9223372036854775808 ≤ a ∧ a ≤ 9223372036854775807) (hb : -9223372036854775808 ≤ b ∧ b ≤ 9223372036854775807) (w : World) : Fc Try.prog 6 #[.int .i64 a, .int .i64 b, .bool true] w (fun v w' => v = .bool true ∧ Below w.heap.size w w') := by
  refine Fc.of Try.func6 rfl (by kernel_rfl) ?_
  refine rBox ?_
  intro w1 n1
  refine rLoad0 n1.blk.at rfl rfl ?_
  refine rBuildSlice (z := .int .i64 0) (sz := 1) rfl rfl rfl (by decide) ?_
  intro w2 n2
  obtain ⟨A, ea⟩ := fit64 a ha
  obtain ⟨B, eb⟩ := fit64 b hb
  refine CallP.mk (Fc.imp (fits true w1.heap.size [a, b] [A.toInt, B.toInt] 2 rfl (by simp only [List.map, ea, eb]) (by decide) _ w2 n2.blk) ?_)
  rintro _ w3 ⟨rfl, b3, u3⟩
  have k1 : At w3 w.heap.size 0 [.bool true] := (n1.blk.at.below n2.below (by rw [n1.size]; omega)).keep (u3.block _ (by rw [n1.size]; omega))
  have g3 : Below w.heap.size w w3 := u3.below (n1.below.trans (n2.below.mono (by rw [n1.size]; omega))) (by rw [n1.size]; omega)
  have E : Env true w w.heap.size w3 := ⟨g3, k1⟩
  refine draws (fun wx => Env true w w.heap.size wx ∧ Blk wx w1.heap.size (List.map (Value.int .i64) [A.toInt, B.toInt]) 2) [(0, true), (2, true), (3, true), (4, true), (5, true), (6, true), (7, true), (1, false), (8, false), (9, true), (10, true), (11, true), (12, true), (13, true)] mixed (by kernel_rfl) (fun w4 h4 => ⟨⟨E.still (by rw [h4]; exact Still.drew _), by rw [h4]; exact b3⟩, ?_⟩)
  replace E : Env true w w.heap.size w4 := E.still (by rw [h4]; exact Still.drew _)
  replace b3 : Blk w4 w1.heap.size (List.map (Value.int .i64) [A.toInt, B.toInt]) 2 := by rw [h4]; exact b3
  clear h4
  refine tk (fun wx hS => rLoad0 hS.1.at_ rfl rfl ⟨rfl, rfl⟩) ?_
  refine tk (fun wx hS => rIdx 1 0 0 rfl (by decide) rfl rfl rfl ⟨rfl, rfl⟩) ?_
  refine tk (v := .int .i64 A.toInt) (fun wx hS => rLoadC (hS.2.at.cell (i := 0) rfl) rfl rfl ⟨rfl, rfl⟩) ?_
  refine tk (fun wx hS => rIdx 1 1 1 rfl (by decide) rfl rfl rfl ⟨rfl, rfl⟩) ?_
  refine tk (v := .int .i64 B.toInt) (fun wx hS => rLoadC (hS.2.at.cell (i := 1) rfl) rfl rfl ⟨rfl, rfl⟩) ?_
  refine CallP.mk (Fc.imp (width 110 true (by decide) _) ?_)
  rintro _ _ ⟨⟨r0, rfl, hr0⟩, rfl⟩
  refine KeepP.mk ⟨E, b3⟩ ?_
  refine CallP.mk (Fc.imp (Two r0 _ _ (by rw [hr0]; decide) (rngI64 A) (rngI64 B) _) ?_)
  rintro _ w5 ⟨⟨q, e, rfl, hq⟩, st⟩
  replace E := E.still st
  replace b3 : Blk w5 w1.heap.size (List.map (Value.int .i64) [A.toInt, B.toInt]) 2 := b3.keep (by rw [st.heap])
  refine KeepP.mk ⟨E, b3⟩ ?_
  rw [hr0, show widthS 110 true = 128 from rfl] at hq
  refine draws (fun wx => Env true w w.heap.size wx ∧ Blk wx w1.heap.size (List.map (Value.int .i64) [A.toInt, B.toInt]) 2) [(0, true), (2, true), (3, true), (4, true), (5, true), (6, true), (7, true), (1, false), (8, false), (9, true), (10, true), (11, true), (12, true), (13, true)] mixed (by kernel_rfl) (fun w4 h4 => ⟨⟨E.still (by rw [h4]; exact Still.drew _), by rw [h4]; exact b3⟩, ?_⟩)
  replace E : Env true w w.heap.size w4 := E.still (by rw [h4]; exact Still.drew _)
  replace b3 : Blk w4 w1.heap.size (List.map (Value.int .i64) [A.toInt, B.toInt]) 2 := by rw [h4]; exact b3
  clear h4
  refine tk (fun wx hS => rLoad0 hS.1.at_ rfl rfl ⟨rfl, rfl⟩) ?_
  refine tk (fun wx hS => rIdx 1 0 0 rfl (by decide) rfl rfl rfl ⟨rfl, rfl⟩) ?_
  refine tk (v := .int .i64 A.toInt) (fun wx hS => rLoadC (hS.2.at.cell (i := 0) rfl) rfl rfl ⟨rfl, rfl⟩) ?_
  refine tk (fun wx hS => rIdx 1 1 1 rfl (by decide) rfl rfl rfl ⟨rfl, rfl⟩) ?_
  refine tk (v := .int .i64 B.toInt) (fun wx hS => rLoadC (hS.2.at.cell (i := 1) rfl) rfl rfl ⟨rfl, rfl⟩) ?_
  refine CallP.mk (Fc.imp (width 112 true (by decide) _) ?_)
  rintro _ _ ⟨⟨r1, rfl, hr1⟩, rfl⟩
  refine KeepP.mk ⟨E, b3⟩ ?_
  refine CallP.mk (Fc.imp (Two r1 _ _ (by rw [hr1]; decide) (rngI64 A) (rngI64 B) _) ?_)
  rintro _ w5 ⟨⟨r, f, rfl, hr⟩, st⟩
  replace E := E.still st
  replace b3 : Blk w5 w1.heap.size (List.map (Value.int .i64) [A.toInt, B.toInt]) 2 := b3.keep (by rw [st.heap])
  refine KeepP.mk ⟨E, b3⟩ ?_
  rw [hr1, show widthS 112 true = 130 from rfl] at hr
  refine draws (fun wx => Env true w w.heap.size wx ∧ Blk wx w1.heap.size (List.map (Value.int .i64) [A.toInt, B.toInt]) 2) [(0, true), (1, true), (2, true), (3, true), (5, true), (6, true), (7, true), (8, true), (4, false), (9, false), (10, true), (11, true)] mixed (by kernel_rfl) (fun w4 h4 => ⟨⟨E.still (by rw [h4]; exact Still.drew _), by rw [h4]; exact b3⟩, ?_⟩)
  replace E : Env true w w.heap.size w4 := E.still (by rw [h4]; exact Still.drew _)
  replace b3 : Blk w4 w1.heap.size (List.map (Value.int .i64) [A.toInt, B.toInt]) 2 := by rw [h4]; exact b3
  clear h4
  refine tk (fun wx hS => rIdx 1 0 0 rfl (by decide) rfl rfl rfl ⟨rfl, rfl⟩) ?_
  refine tk (v := .int .i64 A.toInt) (fun wx hS => rLoadC (hS.2.at.cell (i := 0) rfl) rfl rfl ⟨rfl, rfl⟩) ?_
  refine tk (fun wx hS => rIdx 1 1 1 rfl (by decide) rfl rfl rfl ⟨rfl, rfl⟩) ?_
  refine tk (v := .int .i64 B.toInt) (fun wx hS => rLoadC (hS.2.at.cell (i := 1) rfl) rfl rfl ⟨rfl, rfl⟩) ?_
  refine CallP.mk (Fc.imp (plain64 A E) ?_)
  rintro _ _ ⟨⟨x, rfl, hx⟩, rfl⟩
  refine KeepP.mk ⟨E, b3⟩ ?_
  refine CallP.mk (Fc.imp (plain64 B E) ?_)
  rintro _ _ ⟨⟨y, rfl, hy⟩, rfl⟩
  refine KeepP.mk ⟨E, b3⟩ ?_
  by_cases hz : B.toNat = 0
  · have h1 := (pz64 A B hz).1
    have h2 := (pz64 A B hz).2
    rw [← hq] at h1
    rw [← hr] at h2
    refine cT (by rw [vEq_iff, hy, hz]; rfl) ?_
    refine br_t (by rw [vEq_iff]; simpa using h1) ?_
    exact Done.mk ⟨congrArg Value.bool (by rw [vEq_iff]; simpa using h2), E.below⟩
  refine cF (by rw [vEq_iff, hy, decide_eq_false_iff_not]; omega) ?_
  rw [(pq64 A B hz).1, Prod.mk.injEq] at hq
  rw [(pq64 A B hz).2, Prod.mk.injEq] at hr
  obtain ⟨rfl, he⟩ := hq
  obtain ⟨rfl, hf⟩ := hr
  have hA := A.isLt
  have e1 : (A / B).toNat = A.toNat / B.toNat := BitVec.toNat_udiv
  have e2 : (A % B).toNat = A.toNat % B.toNat := BitVec.toNat_umod
  have e3 := Nat.div_add_mod' A.toNat B.toNat
  have e4 := Nat.mod_lt A.toNat (Nat.pos_of_ne_zero hz)
  have e5 := Nat.div_le_self A.toNat B.toNat
  rw [← e1, ← e2] at e3
  rw [← e2] at e4
  rw [← e1] at e5
  refine br_t (by rw [vEq_iff]; simpa using he) ?_
  refine br_t (by rw [vEq_iff]; simpa using hf) ?_
  refine CallP.mk (Fc.imp (plain64 (A % B) E) ?_)
  rintro _ _ ⟨⟨z1, rfl, hz1⟩, rfl⟩
  refine br_t (by rw [vLt_iff, decide_eq_true_eq, hz1, hy]; omega) ?_
  refine CallP.mk (Fc.imp (plain64 (A / B) E) ?_)
  rintro _ _ ⟨⟨z2, rfl, hz2⟩, rfl⟩
  refine CallP.mk (Fc.imp (plain64 (A % B) E) ?_)
  rintro _ _ ⟨⟨z3, rfl, hz3⟩, rfl⟩
  have e6 : z2 * y = (((A / B).toNat * B.toNat : Nat) : Int) := by rw [hz2, hy]; push_cast; rfl
  obtain ⟨p, hp⟩ : ∃ p, p = (A / B).toNat * B.toNat := ⟨_, rfl⟩
  rw [← hp] at e3 e6
  refine br_t (by rw [vEq_iff, decide_eq_true_eq, e6, wu64 (n := (p : Int)) (by omega), hz3, hx, wu64 (n := (p : Int) + ((A % B).toNat : Int)) (by omega)]; omega) ?_
  refine CallP.mk (Fc.imp (plain64 (A / B) E) ?_)
  rintro _ _ ⟨⟨z4, rfl, hz4⟩, rfl⟩
  exact Done.mk ⟨congrArg Value.bool (by rw [vLe_iff, decide_eq_true_eq, hz4, hx]; omega), E.below⟩
theorem numPlainly (a b : Int) (wide : Bool) (ha : -9223372036854775808 ≤ a ∧ a ≤ 9223372036854775807) (hb : -9223372036854775808 ≤ b ∧ b ≤ 9223372036854775807) (w : World) : Fc Try.prog 6 #[.int .i64 a, .int .i64 b, .bool wide] w (fun v w' => v = .bool true ∧ Below w.heap.size w w') := by
  cases wide
  · exact numPlainly32 a b ha hb w
  · exact numPlainly64 a b ha hb w
end Go.Proofs.Ytobepdjhihjcdaa.Num
