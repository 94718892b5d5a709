/- The walk of the law NumRing. -/
import Derived.Test.YtobepdjhihjcdaaNumL
set_option maxRecDepth 100000
set_option linter.unusedVariables false
namespace Go.Proofs.Ytobepdjhihjcdaa.Num
open Go Go.Proofs.Ytobepdjhihjcdaa.Eng Go.RowKit
theorem numRing32 (a b c : Int) (ha : -9223372036854775808 ≤ a ∧ a ≤ 9223372036854775807) (hb : -9223372036854775808 ≤ b ∧ b ≤ 9223372036854775807) (hc : -9223372036854775808 ≤ c ∧ c ≤ 9223372036854775807) (w : World) : Fc Try.prog 3 #[.int .i64 a, .int .i64 b, .int .i64 c, .bool false] w (fun v w' => v = .bool true ∧ Below w.heap.size w w') := by
  refine Fc.of Try.func3 rfl (by kernel_rfl) ?_
  refine rBox ?_
  intro w1 n1
  refine rLoad0 n1.blk.at rfl rfl ?_
  refine rBuildSlice (z := .int .i64 0) (sz := 1) rfl rfl rfl (by decide) ?_
  intro w2 n2
  obtain ⟨A, ea⟩ := fit32 a
  obtain ⟨B, eb⟩ := fit32 b
  obtain ⟨C, ec⟩ := fit32 c
  refine CallP.mk (Fc.imp (fits false w1.heap.size [a, b, c, 1, -1] [A.toInt, B.toInt, C.toInt, (1#32).toInt, (-1#32).toInt] 5 rfl (by simp only [List.map, ea, eb, ec, fl32p, fl32m]) (by decide) _ w2 n2.blk) ?_)
  rintro _ w3 ⟨rfl, b3, u3⟩
  have k1 : At w3 w.heap.size 0 [.bool false] := (n1.blk.at.below n2.below (by rw [n1.size]; omega)).keep (u3.block _ (by rw [n1.size]; omega))
  have g3 : Below w.heap.size w w3 := u3.below (n1.below.trans (n2.below.mono (by rw [n1.size]; omega))) (by rw [n1.size]; omega)
  refine draw (fun wx => Blk wx w1.heap.size (List.map (Value.int .i64) [A.toInt, B.toInt, C.toInt, (1#32).toInt, (-1#32).toInt]) 2) [(0, true), (1, true), (2, true), (3, true), (4, true), (5, true), (6, true), (7, true), (8, true), (9, true), (10, true), (11, true)] mixed (by kernel_rfl) (fun w4 h4 => ⟨by rw [h4]; exact b3, ?_⟩)
  refine tk (fun wx hS => rIdx 1 0 0 rfl (by decide) rfl rfl rfl ⟨rfl, rfl⟩) ?_
  refine tk (v := .int .i64 A.toInt) (fun wx hS => rLoadC (hS.at.cell (i := 0) rfl) rfl rfl ⟨rfl, rfl⟩) ?_
  refine tk (fun wx hS => rIdx 1 1 1 rfl (by decide) rfl rfl rfl ⟨rfl, rfl⟩) ?_
  refine tk (v := .int .i64 B.toInt) (fun wx hS => rLoadC (hS.at.cell (i := 1) rfl) rfl rfl ⟨rfl, rfl⟩) ?_
  refine tk (fun wx hS => rIdx 1 2 2 rfl (by decide) rfl rfl rfl ⟨rfl, rfl⟩) ?_
  refine tk (v := .int .i64 C.toInt) (fun wx hS => rLoadC (hS.at.cell (i := 2) rfl) rfl rfl ⟨rfl, rfl⟩) ?_
  have E : Env false w w.heap.size w4 := (⟨g3, k1⟩ : Env false w w.heap.size w3).still (by rw [h4]; exact Still.drew _)
  refine CallP.mk (Fc.imp (add32 _ _ E) ?_)
  clear E
  rintro _ w5 ⟨rfl, E⟩
  refine CallP.mk (Fc.imp (add32 _ _ E) ?_)
  clear E
  rintro _ w5 ⟨rfl, E⟩
  refine br_t (by rw [vEq_iff, decide_eq_true_eq]; exact congrArg BitVec.toInt ((by grind : A + B = B + A))) ?_
  refine CallP.mk (Fc.imp (add32 _ _ E) ?_)
  clear E
  rintro _ w5 ⟨rfl, E⟩
  refine CallP.mk (Fc.imp (add32 _ _ E) ?_)
  clear E
  rintro _ w5 ⟨rfl, E⟩
  refine CallP.mk (Fc.imp (add32 _ _ E) ?_)
  clear E
  rintro _ w5 ⟨rfl, E⟩
  refine CallP.mk (Fc.imp (add32 _ _ E) ?_)
  clear E
  rintro _ w5 ⟨rfl, E⟩
  refine br_t (by rw [vEq_iff, decide_eq_true_eq]; exact congrArg BitVec.toInt ((by grind : A + B + C = A + (B + C)))) ?_
  refine CallP.mk (Fc.imp (Fc.arg (add32 _ (0#32) E) rfl) ?_)
  clear E
  rintro _ w5 ⟨rfl, E⟩
  refine br_t (by rw [vEq_iff, decide_eq_true_eq]; exact congrArg BitVec.toInt ((by grind : A + 0#32 = A))) ?_
  refine CallP.mk (Fc.imp (sub32 _ _ E) ?_)
  clear E
  rintro _ w5 ⟨rfl, E⟩
  refine br_t (by rw [vEq_iff, decide_eq_true_eq]; exact congrArg BitVec.toInt ((by grind : A - A = 0#32))) ?_
  refine CallP.mk (Fc.imp (sub32 _ _ E) ?_)
  clear E
  rintro _ w5 ⟨rfl, E⟩
  refine CallP.mk (Fc.imp (add32 _ _ E) ?_)
  clear E
  rintro _ w5 ⟨rfl, E⟩
  refine br_t (by rw [vEq_iff, decide_eq_true_eq]; exact congrArg BitVec.toInt ((by grind : A - B + B = A))) ?_
  refine CallP.mk (Fc.imp (mul32 _ _ E) ?_)
  clear E
  rintro _ w5 ⟨rfl, E⟩
  refine CallP.mk (Fc.imp (mul32 _ _ E) ?_)
  clear E
  rintro _ w5 ⟨rfl, E⟩
  refine br_t (by rw [vEq_iff, decide_eq_true_eq]; exact congrArg BitVec.toInt ((by grind : A * B = B * A))) ?_
  refine CallP.mk (Fc.imp (mul32 _ _ E) ?_)
  clear E
  rintro _ w5 ⟨rfl, E⟩
  refine CallP.mk (Fc.imp (mul32 _ _ E) ?_)
  clear E
  rintro _ w5 ⟨rfl, E⟩
  refine CallP.mk (Fc.imp (mul32 _ _ E) ?_)
  clear E
  rintro _ w5 ⟨rfl, E⟩
  refine CallP.mk (Fc.imp (mul32 _ _ E) ?_)
  clear E
  rintro _ w5 ⟨rfl, E⟩
  refine br_t (by rw [vEq_iff, decide_eq_true_eq]; exact congrArg BitVec.toInt ((by grind : A * B * C = A * (B * C)))) ?_
  refine CallP.mk (Fc.imp (Fc.arg (mul32 _ (1#32) E) rfl) ?_)
  clear E
  rintro _ w5 ⟨rfl, E⟩
  refine br_t (by rw [vEq_iff, decide_eq_true_eq]; exact congrArg BitVec.toInt ((by grind : A * 1#32 = A))) ?_
  refine CallP.mk (Fc.imp (add32 _ _ E) ?_)
  clear E
  rintro _ w5 ⟨rfl, E⟩
  refine CallP.mk (Fc.imp (mul32 _ _ E) ?_)
  clear E
  rintro _ w5 ⟨rfl, E⟩
  refine CallP.mk (Fc.imp (mul32 _ _ E) ?_)
  clear E
  rintro _ w5 ⟨rfl, E⟩
  refine CallP.mk (Fc.imp (mul32 _ _ E) ?_)
  clear E
  rintro _ w5 ⟨rfl, E⟩
  refine CallP.mk (Fc.imp (add32 _ _ E) ?_)
  clear E
  rintro _ w5 ⟨rfl, E⟩
  refine br_t (by rw [vEq_iff, decide_eq_true_eq]; exact congrArg BitVec.toInt ((by grind : A * (B + C) = A * B + A * C))) ?_
  refine CallP.mk (Fc.imp (Fc.arg (sub32 (0#32) _ E) rfl) ?_)
  clear E
  rintro _ w5 ⟨rfl, E⟩
  refine CallP.mk (Fc.imp (Fc.arg (mul32 _ (-1#32) E) rfl) ?_)
  clear E
  rintro _ w5 ⟨rfl, E⟩
  refine Done.mk ⟨congrArg Value.bool (by rw [vEq_iff, decide_eq_true_eq]; exact congrArg BitVec.toInt ((by grind : 0#32 - A = A * (-1#32)))), E.below⟩
theorem numRing64 (a b c : Int) (ha : -9223372036854775808 ≤ a ∧ a ≤ 9223372036854775807) (hb : -9223372036854775808 ≤ b ∧ b ≤ 9223372036854775807) (hc : -9223372036854775808 ≤ c ∧ c ≤ 9223372036854775807) (w : World) : Fc Try.prog 3 #[.int .i64 a, .int .i64 b, .int .i64 c, .bool true] w (fun v w' => v = .bool true ∧ Below w.heap.size w w') := by
  refine Fc.of Try.func3 rfl (by kernel_rfl) ?_
  refine rBox ?_
  intro w1 n1
  refine rLoad0 n1.blk.at rfl rfl ?_
  refine rBuildSlice (z := .int .i64 0) (sz := 1) rfl rfl rfl (by decide) ?_
  intro w2 n2
  obtain ⟨A, ea⟩ := fit64 a ha
  obtain ⟨B, eb⟩ := fit64 b hb
  obtain ⟨C, ec⟩ := fit64 c hc
  refine CallP.mk (Fc.imp (fits true w1.heap.size [a, b, c, 1, -1] [A.toInt, B.toInt, C.toInt, (1#64).toInt, (-1#64).toInt] 5 rfl (by simp only [List.map, ea, eb, ec, fl64p, fl64m]) (by decide) _ w2 n2.blk) ?_)
  rintro _ w3 ⟨rfl, b3, u3⟩
  have k1 : At w3 w.heap.size 0 [.bool true] := (n1.blk.at.below n2.below (by rw [n1.size]; omega)).keep (u3.block _ (by rw [n1.size]; omega))
  have g3 : Below w.heap.size w w3 := u3.below (n1.below.trans (n2.below.mono (by rw [n1.size]; omega))) (by rw [n1.size]; omega)
  refine draw (fun wx => Blk wx w1.heap.size (List.map (Value.int .i64) [A.toInt, B.toInt, C.toInt, (1#64).toInt, (-1#64).toInt]) 2) [(0, true), (1, true), (2, true), (3, true), (4, true), (5, true), (6, true), (7, true), (8, true), (9, true), (10, true), (11, true)] mixed (by kernel_rfl) (fun w4 h4 => ⟨by rw [h4]; exact b3, ?_⟩)
  refine tk (fun wx hS => rIdx 1 0 0 rfl (by decide) rfl rfl rfl ⟨rfl, rfl⟩) ?_
  refine tk (v := .int .i64 A.toInt) (fun wx hS => rLoadC (hS.at.cell (i := 0) rfl) rfl rfl ⟨rfl, rfl⟩) ?_
  refine tk (fun wx hS => rIdx 1 1 1 rfl (by decide) rfl rfl rfl ⟨rfl, rfl⟩) ?_
  refine tk (v := .int .i64 B.toInt) (fun wx hS => rLoadC (hS.at.cell (i := 1) rfl) rfl rfl ⟨rfl, rfl⟩) ?_
  refine tk (fun wx hS => rIdx 1 2 2 rfl (by decide) rfl rfl rfl ⟨rfl, rfl⟩) ?_
  refine tk (v := .int .i64 C.toInt) (fun wx hS => rLoadC (hS.at.cell (i := 2) rfl) rfl rfl ⟨rfl, rfl⟩) ?_
  have E : Env true w w.heap.size w4 := (⟨g3, k1⟩ : Env true w w.heap.size w3).still (by rw [h4]; exact Still.drew _)
  refine CallP.mk (Fc.imp (add64 _ _ E) ?_)
  clear E
  rintro _ w5 ⟨rfl, E⟩
  refine CallP.mk (Fc.imp (add64 _ _ E) ?_)
  clear E
  rintro _ w5 ⟨rfl, E⟩
  refine br_t (by rw [vEq_iff, decide_eq_true_eq]; exact congrArg BitVec.toInt ((by grind : A + B = B + A))) ?_
  refine CallP.mk (Fc.imp (add64 _ _ E) ?_)
  clear E
  rintro _ w5 ⟨rfl, E⟩
  refine CallP.mk (Fc.imp (add64 _ _ E) ?_)
  clear E
  rintro _ w5 ⟨rfl, E⟩
  refine CallP.mk (Fc.imp (add64 _ _ E) ?_)
  clear E
  rintro _ w5 ⟨rfl, E⟩
  refine CallP.mk (Fc.imp (add64 _ _ E) ?_)
  clear E
  rintro _ w5 ⟨rfl, E⟩
  refine br_t (by rw [vEq_iff, decide_eq_true_eq]; exact congrArg BitVec.toInt ((by grind : A + B + C = A + (B + C)))) ?_
  refine CallP.mk (Fc.imp (Fc.arg (add64 _ (0#64) E) rfl) ?_)
  clear E
  rintro _ w5 ⟨rfl, E⟩
  refine br_t (by rw [vEq_iff, decide_eq_true_eq]; exact congrArg BitVec.toInt ((by grind : A + 0#64 = A))) ?_
  refine CallP.mk (Fc.imp (sub64 _ _ E) ?_)
  clear E
  rintro _ w5 ⟨rfl, E⟩
  refine br_t (by rw [vEq_iff, decide_eq_true_eq]; exact congrArg BitVec.toInt ((by grind : A - A = 0#64))) ?_
  refine CallP.mk (Fc.imp (sub64 _ _ E) ?_)
  clear E
  rintro _ w5 ⟨rfl, E⟩
  refine CallP.mk (Fc.imp (add64 _ _ E) ?_)
  clear E
  rintro _ w5 ⟨rfl, E⟩
  refine br_t (by rw [vEq_iff, decide_eq_true_eq]; exact congrArg BitVec.toInt ((by grind : A - B + B = A))) ?_
  refine CallP.mk (Fc.imp (mul64 _ _ E) ?_)
  clear E
  rintro _ w5 ⟨rfl, E⟩
  refine CallP.mk (Fc.imp (mul64 _ _ E) ?_)
  clear E
  rintro _ w5 ⟨rfl, E⟩
  refine br_t (by rw [vEq_iff, decide_eq_true_eq]; exact congrArg BitVec.toInt ((by grind : A * B = B * A))) ?_
  refine CallP.mk (Fc.imp (mul64 _ _ E) ?_)
  clear E
  rintro _ w5 ⟨rfl, E⟩
  refine CallP.mk (Fc.imp (mul64 _ _ E) ?_)
  clear E
  rintro _ w5 ⟨rfl, E⟩
  refine CallP.mk (Fc.imp (mul64 _ _ E) ?_)
  clear E
  rintro _ w5 ⟨rfl, E⟩
  refine CallP.mk (Fc.imp (mul64 _ _ E) ?_)
  clear E
  rintro _ w5 ⟨rfl, E⟩
  refine br_t (by rw [vEq_iff, decide_eq_true_eq]; exact congrArg BitVec.toInt ((by grind : A * B * C = A * (B * C)))) ?_
  refine CallP.mk (Fc.imp (Fc.arg (mul64 _ (1#64) E) rfl) ?_)
  clear E
  rintro _ w5 ⟨rfl, E⟩
  refine br_t (by rw [vEq_iff, decide_eq_true_eq]; exact congrArg BitVec.toInt ((by grind : A * 1#64 = A))) ?_
  refine CallP.mk (Fc.imp (add64 _ _ E) ?_)
  clear E
  rintro _ w5 ⟨rfl, E⟩
  refine CallP.mk (Fc.imp (mul64 _ _ E) ?_)
  clear E
  rintro _ w5 ⟨rfl, E⟩
  refine CallP.mk (Fc.imp (mul64 _ _ E) ?_)
  clear E
  rintro _ w5 ⟨rfl, E⟩
  refine CallP.mk (Fc.imp (mul64 _ _ E) ?_)
  clear E
  rintro _ w5 ⟨rfl, E⟩
  refine CallP.mk (Fc.imp (add64 _ _ E) ?_)
  clear E
  rintro _ w5 ⟨rfl, E⟩
  refine br_t (by rw [vEq_iff, decide_eq_true_eq]; exact congrArg BitVec.toInt ((by grind : A * (B + C) = A * B + A * C))) ?_
  refine CallP.mk (Fc.imp (Fc.arg (sub64 (0#64) _ E) rfl) ?_)
  clear E
  rintro _ w5 ⟨rfl, E⟩
  refine CallP.mk (Fc.imp (Fc.arg (mul64 _ (-1#64) E) rfl) ?_)
  clear E
  rintro _ w5 ⟨rfl, E⟩
  refine Done.mk ⟨congrArg Value.bool (by rw [vEq_iff, decide_eq_true_eq]; exact congrArg BitVec.toInt ((by grind : 0#64 - A = A * (-1#64)))), E.below⟩
theorem numRing (a b c : Int) (wide : Bool) (ha : -9223372036854775808 ≤ a ∧ a ≤ 9223372036854775807) (hb : -9223372036854775808 ≤ b ∧ b ≤ 9223372036854775807) (hc : -9223372036854775808 ≤ c ∧ c ≤ 9223372036854775807) (w : World) : Fc Try.prog 3 #[.int .i64 a, .int .i64 b, .int .i64 c, .bool wide] w (fun v w' => v = .bool true ∧ Below w.heap.size w w') := by
  cases wide
  · exact numRing32 a b c ha hb hc w
  · exact numRing64 a b c ha hb hc w
end Go.Proofs.Ytobepdjhihjcdaa.Num
