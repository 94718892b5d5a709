/- The walk of the law NumNarrow. -/
import Derived.Test.YtobepdjhihjcdaaDoorNumOne
import Derived.Test.YtobepdjhihjcdaaDoorNumBv
set_option maxRecDepth 100000
set_option linter.unusedVariables false
set_option linter.unusedSimpArgs false
namespace Go.Proofs.YtobepdjhihjcdaaDoor.Num
open Go Go.Proofs.YtobepdjhihjcdaaDoor.Eng Go.RowKit
theorem w3264 (X : BitVec 64) : vWrap .i32 X.toInt = (X.setWidth 32).toInt := by
  rw [← i32_nat, BitVec.toNat_setWidth, BitVec.toInt_eq_toNat_cond]
  have := X.isLt
  unfold vWrap; simp [IntKind.wrap, IntKind.bits, IntKind.signed]
  split <;> omega
theorem u3264 (X : BitVec 64) : vWrap .u32 X.toInt = (X.setWidth 32).toNat := by
  rw [BitVec.toNat_setWidth, BitVec.toInt_eq_toNat_cond]
  have := X.isLt
  unfold vWrap; simp [IntKind.wrap, IntKind.bits, IntKind.signed]
  split <;> omega
theorem of64 (a : Int) (ha : -9223372036854775808 ≤ a ∧ a ≤ 9223372036854775807) : ∃ A : BitVec 64, a = A.toInt := by
  obtain ⟨A, hA⟩ := fit64 a ha
  exact ⟨A, hA⟩
theorem sub_setWidth (X Y : BitVec 64) : (X - Y).setWidth 32 = X.setWidth 32 - Y.setWidth 32 := by
  apply BitVec.eq_of_toNat_eq
  have h1 := X.isLt
  have h2 := Y.isLt
  simp only [BitVec.toNat_setWidth, BitVec.toNat_sub]
  omega
/-- The operations of which the I64 one, cut, is the I32 one. -/
theorem narrow (op : Int) (A B : BitVec 64) (hop : op = 106 ∨ op = 107 ∨ op = 108 ∨ op = 113 ∨ op = 114 ∨ op = 115) : (twoS op A.toInt B.toInt).1 = vWrap .i64 (vWrap .i32 (twoS (op + 18) A.toInt B.toInt).1) := by
  have key : ∀ (k : Int) (R : BitVec 64) (R' : BitVec 32), (0 ≤ k ∧ k ≤ 2 ∨ 7 ≤ k ∧ k ≤ 14) → rkS .u64 64 k A.toNat B.toNat = R.toNat → rkS .u32 32 k (A.setWidth 32).toNat (B.setWidth 32).toNat = R'.toNat → R.setWidth 32 = R' →
      (twoS (106 + k) A.toInt B.toInt).1 = vWrap .i64 (vWrap .i32 (twoS (124 + k) A.toInt B.toInt).1) := by
    intro k R R' hk h1 h2 h3
    rw [rk64 A B hk h1]
    rw [twoS, if_neg (by omega), if_neg (by omega), if_neg (by omega), if_neg (by omega), if_pos (by omega), u3264, u3264, show 106 + k - 106 = k by omega, h2, i32_nat]
    dsimp only
    rw [w3264, h3]
  rcases hop with rfl | rfl | rfl | rfl | rfl | rfl
  · exact key 0 _ _ (by omega) (a64_0 A B) (a32_0 _ _) (BitVec.setWidth_add _ _ (by decide))
  · exact key 1 _ _ (by omega) (a64_1 A B) (a32_1 _ _) (sub_setWidth _ _)
  · exact key 2 _ _ (by omega) (a64_2 A B) (a32_2 _ _) (BitVec.setWidth_mul _ _ (by decide))
  · exact key 7 _ _ (by omega) (a64_7 A B) (a32_7 _ _) BitVec.setWidth_and
  · exact key 8 _ _ (by omega) (a64_8 A B) (a32_8 _ _) BitVec.setWidth_or
  · exact key 9 _ _ (by omega) (a64_9 A B) (a32_9 _ _) BitVec.setWidth_xor
theorem high0 (A : BitVec 32) : (A.setWidth 64) &&& (-4294967296#64) = 0#64 := by
  apply BitVec.eq_of_getLsbD_eq
  intro i hi
  rw [BitVec.getLsbD_and, BitVec.getLsbD_setWidth]
  by_cases h : i < 32
  · have : (-4294967296#64 : BitVec 64) = BitVec.allOnes 64 <<< 32 := by decide
    rw [this, BitVec.getLsbD_shiftLeft]
    simp [h]
  · rw [BitVec.getLsbD_of_ge A i (by omega)]; simp
theorem cutC (n : Int) (w : World) (T : Bm.Tabs w) : Fc Tryd.prog 12 #[.int .i64 n] w (fun v w' => (∃ r, v = .int .i64 r ∧ r = vWrap .i64 (vWrap .i32 n)) ∧ Still w w') := by
  refine Fc.of Tryd.func12 rfl (by kernel_rfl) ?_
  refine CallP.mk (Fc.imp (one 167 n _ T) ?_)
  rintro _ w1 ⟨⟨r, rfl, hr⟩, st⟩
  exact Done.mk ⟨⟨r, rfl, by rw [hr, oneS, if_neg (by decide), if_neg (by decide), if_neg (by decide), if_neg (by decide), if_neg (by decide), if_neg (by decide), if_neg (by decide), if_neg (by decide), if_neg (by decide), if_neg (by decide), if_pos (by decide)]⟩, st⟩
theorem one172 (a : Int) : (oneS 172 a).1 = vWrap .i64 (vWrap .i32 a) := by rw [oneS, if_neg (by decide), if_neg (by decide), if_neg (by decide), if_neg (by decide), if_neg (by decide), if_neg (by decide), if_neg (by decide), if_neg (by decide), if_neg (by decide), if_neg (by decide), if_pos (by decide)]
theorem one196 (a : Int) : (oneS 196 a).1 = vWrap .i64 (vWrap .i32 a) := by rw [oneS, if_neg (by decide), if_neg (by decide), if_neg (by decide), if_neg (by decide), if_neg (by decide), if_neg (by decide), if_neg (by decide), if_neg (by decide), if_neg (by decide), if_neg (by decide), if_pos (by decide)]
theorem one173 (a : Int) : (oneS 173 a).1 = vWrap .i64 (vWrap .u32 a) := by rw [oneS, if_neg (by decide), if_neg (by decide), if_neg (by decide), if_neg (by decide), if_neg (by decide), if_neg (by decide), if_neg (by decide), if_neg (by decide), if_neg (by decide), if_neg (by decide), if_neg (by decide), if_pos rfl]
theorem one192 (a : Int) : (oneS 192 a).1 = vWrap .i64 (vWrap .i8 a) := by rw [oneS, if_neg (by decide), if_neg (by decide), if_neg (by decide), if_neg (by decide), if_neg (by decide), if_neg (by decide), if_neg (by decide), if_neg (by decide), if_pos (by decide)]
theorem one194 (a : Int) : (oneS 194 a).1 = vWrap .i64 (vWrap .i8 a) := by rw [oneS, if_neg (by decide), if_neg (by decide), if_neg (by decide), if_neg (by decide), if_neg (by decide), if_neg (by decide), if_neg (by decide), if_neg (by decide), if_pos (by decide)]
theorem one193 (a : Int) : (oneS 193 a).1 = vWrap .i64 (vWrap .i16 a) := by rw [oneS, if_neg (by decide), if_neg (by decide), if_neg (by decide), if_neg (by decide), if_neg (by decide), if_neg (by decide), if_neg (by decide), if_neg (by decide), if_neg (by decide), if_pos (by decide)]
theorem sgn32 (a : Int) : (twoS 117 (vWrap .i64 (vWrap .i32 a)) 31).1 = vWrap .i64 (vWrap .i32 (twoS 135 (vWrap .i64 (vWrap .i32 a)) 32).1) := by
  obtain ⟨X, hX⟩ := fit32 a
  have hX : vWrap .i64 (vWrap .i32 a) = X.toInt := hX
  rw [hX, show (31 : Int) = (31#32).toInt from rfl, show (117 : Int) = 106 + 11 from rfl, rk32 X 31#32 (by omega) (b32_11 X 31#32)]
  have e1 : X.toInt = (X.signExtend 64).toInt := (BitVec.toInt_signExtend_of_le (by decide)).symm
  rw [e1, show (32 : Int) = (32#64).toInt from rfl, show (135 : Int) = 124 + 11 from rfl, rk64 (X.signExtend 64) 32#64 (by omega) (b64_11 (X.signExtend 64) 32#64)]
  dsimp only
  rw [w3264, i64_int32]
  congr 1
  rw [show (31#32).toNat % 32 = 32 - 1 from rfl, show (32#64).toNat % 64 = 32 from rfl, ssr_neg X (by decide)]
  have h2 : ((X.signExtend 64).sshiftRight 32).toInt = X.toInt / 2 ^ 32 := by
    rw [BitVec.toInt_sshiftRight, ← e1, Int.shiftRight_eq_div_pow]; rfl
  have hx := rng32 X
  split
  · rename_i hn
    have : (X.signExtend 64).sshiftRight 32 = BitVec.allOnes 64 := BitVec.eq_of_toInt_eq (by rw [h2, show (BitVec.allOnes 64).toInt = -1 by decide]; omega)
    rw [this]; decide
  · rename_i hn
    have : (X.signExtend 64).sshiftRight 32 = 0#64 := BitVec.eq_of_toInt_eq (by rw [h2, show (0#64).toInt = 0 by decide]; omega)
    rw [this]; decide
theorem Fit (k a : Int) (w : World) : Fc Tryd.prog 13 #[.int .u8 k, .int .i64 a] w (fun v w' => (∃ r, v = .int .i64 r ∧ r = if k = 127 then vWrap .i64 (vWrap .i32 a) else a) ∧ w = w') := by
  refine Fc.of Tryd.func13 rfl (by kernel_rfl) ?_
  refine cI (fun h => ?_) (fun h => ?_)
  · have h := vEq_t h
    refine rConvInt rfl rfl ?_
    refine rConvInt rfl rfl ?_
    exact Done.mk ⟨⟨_, rfl, by rw [if_pos h]⟩, rfl⟩
  have h := vEq_f h
  exact Done.mk ⟨⟨_, rfl, by rw [if_neg h]⟩, rfl⟩
theorem i32i32 (a : Int) : vWrap .i64 (vWrap .i32 (vWrap .i64 (vWrap .i32 a))) = vWrap .i64 (vWrap .i32 a) := by
  unfold vWrap; simp [IntKind.wrap, IntKind.bits, IntKind.signed]; omega
theorem i32u32 (a : Int) : vWrap .i64 (vWrap .i32 (vWrap .i64 (vWrap .u32 a))) = vWrap .i64 (vWrap .i32 a) := by
  unfold vWrap; simp [IntKind.wrap, IntKind.bits, IntKind.signed]; omega
theorem i8i32 (a : Int) : vWrap .i64 (vWrap .i8 (vWrap .i64 (vWrap .i32 a))) = vWrap .i64 (vWrap .i8 a) := by
  unfold vWrap; simp [IntKind.wrap, IntKind.bits, IntKind.signed]; omega
theorem i16i8 (a : Int) : vWrap .i64 (vWrap .i16 (vWrap .i64 (vWrap .i8 a))) = vWrap .i64 (vWrap .i8 a) := by
  unfold vWrap; simp [IntKind.wrap, IntKind.bits, IntKind.signed]; omega
theorem u32hi (a : Int) : (twoS 131 (vWrap .i64 (vWrap .u32 a)) (-4294967296)).1 = 0 := by
  have h := vWrap_range .u32 a
  rw [show IntKind.min .u32 = 0 from rfl, show IntKind.max .u32 = 4294967295 from rfl] at h
  have e : vWrap .i64 (vWrap .u32 a) = ((BitVec.ofInt 32 a).setWidth 64).toInt := by
    rw [wz32' a, wi64 (by have := (BitVec.ofInt 32 a).isLt; omega), BitVec.toInt_eq_toNat_cond, BitVec.toNat_setWidth]
    have := (BitVec.ofInt 32 a).isLt
    rw [Nat.mod_eq_of_lt (by omega), if_pos (by omega)]
  rw [e, show (-4294967296 : Int) = (-4294967296#64).toInt by decide, show (131 : Int) = 124 + 7 from rfl, rk64 _ _ (by omega) (a64_7 _ _), high0]
  rfl
theorem ri64 (x : Int) : -9223372036854775808 ≤ vWrap .i64 x ∧ vWrap .i64 x ≤ 9223372036854775807 := by
  have h := vWrap_range .i64 x
  rw [show IntKind.min .i64 = -9223372036854775808 from rfl, show IntKind.max .i64 = 9223372036854775807 from rfl] at h
  exact h
theorem numNarrow (a b : Int) (ha : -9223372036854775808 ≤ a ∧ a ≤ 9223372036854775807) (hb : -9223372036854775808 ≤ b ∧ b ≤ 9223372036854775807) (w : World) (T : Bm.Tabs w) :
    Fc Tryd.prog 5 #[.int .i64 a, .int .i64 b] w (fun v w' => v = .bool true ∧ Below w.heap.size w w') := by
  refine Fc.of Tryd.func5 rfl (by kernel_rfl) ?_
  refine rBuildSlice (z := .int .u8 0) (sz := 1) rfl rfl rfl (by decide) ?_
  intro w1 n1
  refine rLenSl rfl ?_
  obtain ⟨A, hA⟩ := of64 a ha
  obtain ⟨B, hB⟩ := of64 b hb
  refine LoopP.rule (α := Nat) 0 (fun i => [(12, .int .i64 i)]) (fun i w' => i ≤ 6 ∧ Below w.heap.size w w' ∧ Blk w' w.heap.size [.int .u8 106, .int .u8 107, .int .u8 108, .int .u8 113, .int .u8 114, .int .u8 115] 5) (fun i => 6 - i) (mt_cons rfl mt_nil) ⟨by decide, n1.below, n1.blk⟩ ?_
  clear n1
  rintro i f w2 ⟨hi, G, hO⟩
  dsimp only at *
  refine cI (fun h => ?_) (fun h => ?_)
  · have h := vLt_t h
    refine bk ?_
    obtain ⟨op, hop, hget⟩ : ∃ op : Int, (op = 106 ∨ op = 107 ∨ op = 108 ∨ op = 113 ∨ op = 114 ∨ op = 115) ∧ [Value.int .u8 106, .int .u8 107, .int .u8 108, .int .u8 113, .int .u8 114, .int .u8 115][i]? = some (.int .u8 op) := by
      have : i = 0 ∨ i = 1 ∨ i = 2 ∨ i = 3 ∨ i = 4 ∨ i = 5 := by omega
      rcases this with rfl | rfl | rfl | rfl | rfl | rfl
      · exact ⟨106, by decide, rfl⟩
      · exact ⟨107, by decide, rfl⟩
      · exact ⟨108, by decide, rfl⟩
      · exact ⟨113, by decide, rfl⟩
      · exact ⟨114, by decide, rfl⟩
      · exact ⟨115, by decide, rfl⟩
    refine rIdx 1 i i rfl (by omega) (by omega) rfl rfl ?_
    refine rLoadC (v := .int .u8 op) (by have := hO.at.cell hget; rwa [Nat.zero_add] at this) rfl rfl ?_
    refine CallP.mk (Fc.imp (two op a b (by unfold okOp; omega) ha hb _) ?_)
    rintro _ w3 ⟨⟨s1, rfl, hs1⟩, st⟩
    replace G := G.trans (st.below _)
    replace hO := hO.keep (w' := w3) (by rw [st.heap])
    clear st
    refine CallP.mk (Fc.imp (Fc.arg (two (op + 18) a b (by unfold okOp; omega) ha hb _) (by rw [wu8 (by omega)])) ?_)
    rintro _ w4 ⟨⟨s2, rfl, hs2⟩, st⟩
    replace G := G.trans (st.below _)
    replace hO := hO.keep (w' := w4) (by rw [st.heap])
    clear st
    refine CallP.mk (Fc.imp (cutC s2 _ (T.below G (Nat.le_refl _))) ?_)
    rintro _ w5 ⟨⟨s3, rfl, hs3⟩, st⟩
    replace G := G.trans (st.below _)
    replace hO := hO.keep (w' := w5) (by rw [st.heap])
    clear st
    refine cF (by rw [vNe_iff, hs1, hs3, hs2, hA, hB, narrow op A B hop]; simp) ?_
    exact Nxt.mk (i + 1) (mt_i rfl (by rw [wi64 (by omega)]; omega) mt_nil) ⟨by omega, G, hO⟩ (by omega)
  have h := vLt_f h
  clear hi h hO
  -- THE LAST PART
  refine CallP.mk (Fc.imp (one 172 a _ (T.below G (Nat.le_refl _))) ?_)
  rintro _ w9 ⟨⟨p1, rfl, hp1⟩, st⟩
  replace G := G.trans (st.below _)
  clear st
  rw [one172] at hp1
  refine CallP.mk (Fc.imp (one 173 a _ (T.below G (Nat.le_refl _))) ?_)
  rintro _ w9 ⟨⟨p2, rfl, hp2⟩, st⟩
  replace G := G.trans (st.below _)
  clear st
  rw [one173] at hp2
  refine CallP.mk (Fc.imp (cutC p1 _ (T.below G (Nat.le_refl _))) ?_)
  rintro _ w9 ⟨⟨p3, rfl, hp3⟩, st⟩
  replace G := G.trans (st.below _)
  clear st
  refine CallP.mk (Fc.imp (cutC a _ (T.below G (Nat.le_refl _))) ?_)
  rintro _ w9 ⟨⟨p4, rfl, hp4⟩, st⟩
  replace G := G.trans (st.below _)
  clear st
  refine br_t (by rw [vEq_iff, hp3, hp4, hp1, i32i32]; simp) ?_
  refine CallP.mk (Fc.imp (cutC p2 _ (T.below G (Nat.le_refl _))) ?_)
  rintro _ w9 ⟨⟨p5, rfl, hp5⟩, st⟩
  replace G := G.trans (st.below _)
  clear st
  refine CallP.mk (Fc.imp (cutC a _ (T.below G (Nat.le_refl _))) ?_)
  rintro _ w9 ⟨⟨p6, rfl, hp6⟩, st⟩
  replace G := G.trans (st.below _)
  clear st
  refine br_t (by rw [vEq_iff, hp5, hp6, hp2, i32u32]; simp) ?_
  refine CallP.mk (Fc.imp (two 131 p2 (-4294967296) (by decide) (by rw [hp2]; exact ri64 _) (by decide) _) ?_)
  rintro _ w9 ⟨⟨p7, rfl, hp7⟩, st⟩
  replace G := G.trans (st.below _)
  clear st
  refine br_t (by rw [vEq_iff, hp7, hp2, u32hi]; rfl) ?_
  refine CallP.mk (Fc.imp (cutC a _ (T.below G (Nat.le_refl _))) ?_)
  rintro _ w9 ⟨⟨p8, rfl, hp8⟩, st⟩
  replace G := G.trans (st.below _)
  clear st
  refine CallP.mk (Fc.imp (two 117 p8 31 (by decide) (by rw [hp8]; exact ri64 _) (by decide) _) ?_)
  rintro _ w9 ⟨⟨p9, rfl, hp9⟩, st⟩
  replace G := G.trans (st.below _)
  clear st
  refine CallP.mk (Fc.imp (two 135 p1 32 (by decide) (by rw [hp1]; exact ri64 _) (by decide) _) ?_)
  rintro _ w9 ⟨⟨p10, rfl, hp10⟩, st⟩
  replace G := G.trans (st.below _)
  clear st
  refine CallP.mk (Fc.imp (cutC p10 _ (T.below G (Nat.le_refl _))) ?_)
  rintro _ w9 ⟨⟨p11, rfl, hp11⟩, st⟩
  replace G := G.trans (st.below _)
  clear st
  refine br_t (by rw [vEq_iff, hp9, hp8, hp11, hp10, hp1, sgn32]; simp) ?_
  refine CallP.mk (Fc.imp (Fit 127 a _) ?_)
  rintro _ _ ⟨⟨p12, rfl, hp12⟩, rfl⟩
  refine CallP.mk (Fc.imp (cutC a _ (T.below G (Nat.le_refl _))) ?_)
  rintro _ w9 ⟨⟨p13, rfl, hp13⟩, st⟩
  replace G := G.trans (st.below _)
  clear st
  refine br_t (by rw [vEq_iff, hp12, hp13, if_pos rfl]; simp) ?_
  refine CallP.mk (Fc.imp (Fit 126 a _) ?_)
  rintro _ _ ⟨⟨p14, rfl, hp14⟩, rfl⟩
  refine br_t (by rw [vEq_iff, hp14, if_neg (by decide)]; simp) ?_
  refine CallP.mk (Fc.imp (one 196 a _ (T.below G (Nat.le_refl _))) ?_)
  rintro _ w9 ⟨⟨p15, rfl, hp15⟩, st⟩
  replace G := G.trans (st.below _)
  clear st
  rw [one196] at hp15
  refine br_t (by rw [vEq_iff, hp15, hp1]; simp) ?_
  refine CallP.mk (Fc.imp (one 192 a _ (T.below G (Nat.le_refl _))) ?_)
  rintro _ w9 ⟨⟨p16, rfl, hp16⟩, st⟩
  replace G := G.trans (st.below _)
  clear st
  rw [one192] at hp16
  refine CallP.mk (Fc.imp (cutC a _ (T.below G (Nat.le_refl _))) ?_)
  rintro _ w9 ⟨⟨p17, rfl, hp17⟩, st⟩
  replace G := G.trans (st.below _)
  clear st
  refine CallP.mk (Fc.imp (one 194 p17 _ (T.below G (Nat.le_refl _))) ?_)
  rintro _ w9 ⟨⟨p18, rfl, hp18⟩, st⟩
  replace G := G.trans (st.below _)
  clear st
  rw [one194] at hp18
  refine br_t (by rw [vEq_iff, hp16, hp18, hp17, i8i32]; simp) ?_
  refine CallP.mk (Fc.imp (one 192 a _ (T.below G (Nat.le_refl _))) ?_)
  rintro _ w9 ⟨⟨p19, rfl, hp19⟩, st⟩
  replace G := G.trans (st.below _)
  clear st
  rw [one192] at hp19
  refine CallP.mk (Fc.imp (one 193 p19 _ (T.below G (Nat.le_refl _))) ?_)
  rintro _ w9 ⟨⟨p20, rfl, hp20⟩, st⟩
  replace G := G.trans (st.below _)
  clear st
  rw [one193] at hp20
  refine CallP.mk (Fc.imp (one 192 a _ (T.below G (Nat.le_refl _))) ?_)
  rintro _ w9 ⟨⟨p21, rfl, hp21⟩, st⟩
  replace G := G.trans (st.below _)
  clear st
  rw [one192] at hp21
  exact Done.mk ⟨congrArg Value.bool (by rw [vEq_iff, hp20, hp19, hp21, i16i8]; simp), G⟩
end Go.Proofs.YtobepdjhihjcdaaDoor.Num
