/- The walk of the law NumBits. -/
import Derived.Test.YtobepdjhihjcdaaNumL
set_option maxRecDepth 100000
set_option linter.unusedVariables false
namespace Go.Proofs.Ytobepdjhihjcdaa.Num
open Go Go.Proofs.Ytobepdjhihjcdaa.Eng Go.RowKit
theorem natxa (k : Nat) : ∀ a b : Nat, a < 2^k → (a ^^^ b) + 2 * (a &&& b) = a + b := by
  induction k with
  | zero => intro a b h; have : a = 0 := by omega
            subst this; simp
  | succ k ih =>
    intro a b h
    have h1 := ih (a/2) (b/2) (by omega)
    have hx := @Nat.xor_div_two a b
    have ha := @Nat.and_div_two a b
    have hx2 := @Nat.xor_mod_two_pow a b 1
    have ha2 := @Nat.and_mod_two_pow a b 1
    rw [← hx, ← ha] at h1
    have e0 : (a ^^^ b) % 2 = (a % 2) ^^^ (b % 2) := by simpa using hx2
    have e1 : (a &&& b) % 2 = (a % 2) &&& (b % 2) := by simpa using ha2
    rcases Nat.mod_two_eq_zero_or_one a with h | h <;> rcases Nat.mod_two_eq_zero_or_one b with h' | h' <;> rw [h, h'] at e0 e1 <;> simp only [Nat.xor_self, Nat.zero_xor, Nat.xor_zero, Nat.and_self, Nat.zero_and, Nat.and_zero] at e0 e1 <;> omega
theorem bit32_1 (A B : BitVec 32) : ~~~(A &&& B) = ~~~A ||| ~~~B := by
  ext i hi; simp
theorem bit32_2 (A B C : BitVec 32) : A &&& (B ||| C) = A &&& B ||| A &&& C := by
  ext i hi; simp; cases A[i] <;> simp
theorem bit32_3 (A B : BitVec 32) : A ^^^ B = (A ||| B) &&& ~~~(A &&& B) := by
  ext i hi; simp; cases A[i] <;> cases B[i] <;> rfl
theorem bit32_4 (A : BitVec 32) : ~~~ ~~~A = A := by simp
theorem bit32_5 (A : BitVec 32) : A &&& ~~~A = 0#32 := by ext i hi; simp
theorem bit32_6 (A : BitVec 32) : A ||| ~~~A = -1#32 := by rw [show (-1#32) = BitVec.allOnes 32 from rfl]; ext i hi; simp
theorem bit32_7 (A : BitVec 32) : A ^^^ (-1#32) = ~~~A := by rw [show (-1#32) = BitVec.allOnes 32 from rfl, BitVec.xor_allOnes]
theorem bit32_8 (A B : BitVec 32) : (A ^^^ B) + ((A &&& B) <<< 1) = A + B := by
  apply BitVec.eq_of_toNat_eq
  have := natxa 32 A.toNat B.toNat A.isLt
  simp [BitVec.toNat_add, BitVec.toNat_shiftLeft, Nat.shiftLeft_eq]
  omega
theorem bit64_1 (A B : BitVec 64) : ~~~(A &&& B) = ~~~A ||| ~~~B := by
  ext i hi; simp
theorem bit64_2 (A B C : BitVec 64) : A &&& (B ||| C) = A &&& B ||| A &&& C := by
  ext i hi; simp; cases A[i] <;> simp
theorem bit64_3 (A B : BitVec 64) : A ^^^ B = (A ||| B) &&& ~~~(A &&& B) := by
  ext i hi; simp; cases A[i] <;> cases B[i] <;> rfl
theorem bit64_4 (A : BitVec 64) : ~~~ ~~~A = A := by simp
theorem bit64_5 (A : BitVec 64) : A &&& ~~~A = 0#64 := by ext i hi; simp
theorem bit64_6 (A : BitVec 64) : A ||| ~~~A = -1#64 := by rw [show (-1#64) = BitVec.allOnes 64 from rfl]; ext i hi; simp
theorem bit64_7 (A : BitVec 64) : A ^^^ (-1#64) = ~~~A := by rw [show (-1#64) = BitVec.allOnes 64 from rfl, BitVec.xor_allOnes]
theorem bit64_8 (A B : BitVec 64) : (A ^^^ B) + ((A &&& B) <<< 1) = A + B := by
  apply BitVec.eq_of_toNat_eq
  have := natxa 64 A.toNat B.toNat A.isLt
  simp [BitVec.toNat_add, BitVec.toNat_shiftLeft, Nat.shiftLeft_eq]
  omega
theorem a32_10 (X : BitVec 32) : rkS .u32 32 10 X.toNat (1#32).toNat = (X <<< 1).toNat := by
  rw [rkS, if_neg (by decide), if_neg (by decide), if_neg (by decide), if_neg (by decide), if_neg (by decide), if_neg (by decide), if_pos rfl]
  have h := vShl_eq .u32 (X.toNat : Int) 1 (by decide)
  rw [show (((1#32).toNat : Nat) : Int) % 32 = ((1 : Nat) : Int) from rfl, h, show ((X.toNat : Int) * 2 ^ 1) = ((X.toNat * 2 : Nat) : Int) by push_cast; rfl, w32]
  congr 1
  simp [BitVec.toNat_shiftLeft, Nat.shiftLeft_eq]
theorem a64_10 (X : BitVec 64) : rkS .u64 64 10 X.toNat (1#64).toNat = (X <<< 1).toNat := by
  rw [rkS, if_neg (by decide), if_neg (by decide), if_neg (by decide), if_neg (by decide), if_neg (by decide), if_neg (by decide), if_pos rfl]
  have h := vShl_eq .u64 (X.toNat : Int) 1 (by decide)
  rw [show (((1#64).toNat : Nat) : Int) % 64 = ((1 : Nat) : Int) from rfl, h, show ((X.toNat : Int) * 2 ^ 1) = ((X.toNat * 2 : Nat) : Int) by push_cast; rfl, w64]
  congr 1
  simp [BitVec.toNat_shiftLeft, Nat.shiftLeft_eq]
/-- Beside 'wide', the variable 'xor' that 'not' holds. -/
structure EnvB (wide : Bool) (w0 : World) (b bx : Nat) (w : World) : Prop where
  env : Env wide w0 b w
  fn : At w bx 0 [.func (.func 16) #[] #[.pointer (some ⟨b, 0, none⟩)]]
theorem EnvB.still {wide : Bool} {w0 : World} {b bx : Nat} {w w' : World} (h : EnvB wide w0 b bx w) (s : Still w w') : EnvB wide w0 b bx w' := ⟨h.env.still s, At.still h.fn s⟩
theorem band32 (X Y : BitVec 32) {w0 : World} {b bx : Nat} {w : World} (E : EnvB false w0 b bx w) :
    Fc Try.prog 14 #[.int .i64 X.toInt, .int .i64 Y.toInt, .pointer (some ⟨b, 0, none⟩)] w (fun v w' => v = .int .i64 (X &&& Y).toInt ∧ EnvB false w0 b bx w') := by
  refine Fc.of Try.func14 rfl (by kernel_rfl) ?_
  refine rLoad0 E.env.at_ rfl rfl ?_
  refine CallP.mk (Fc.imp (width 113 false (by decide) _) ?_)
  rintro _ _ ⟨⟨r, rfl, hr⟩, rfl⟩
  refine CallP.mk (Fc.imp (two r _ _ (by rw [hr]; decide) (rngI32 X) (rngI32 Y) _) ?_)
  rintro _ w1 ⟨⟨s, rfl, hs⟩, hst⟩
  exact Done.mk ⟨by rw [hs, hr, show widthS 113 false = 106 + 7 from rfl, rk32 X Y (by omega) (a32_7 X Y)], E.still hst⟩
theorem bor32 (X Y : BitVec 32) {w0 : World} {b bx : Nat} {w : World} (E : EnvB false w0 b bx w) :
    Fc Try.prog 15 #[.int .i64 X.toInt, .int .i64 Y.toInt, .pointer (some ⟨b, 0, none⟩)] w (fun v w' => v = .int .i64 (X ||| Y).toInt ∧ EnvB false w0 b bx w') := by
  refine Fc.of Try.func15 rfl (by kernel_rfl) ?_
  refine rLoad0 E.env.at_ rfl rfl ?_
  refine CallP.mk (Fc.imp (width 114 false (by decide) _) ?_)
  rintro _ _ ⟨⟨r, rfl, hr⟩, rfl⟩
  refine CallP.mk (Fc.imp (two r _ _ (by rw [hr]; decide) (rngI32 X) (rngI32 Y) _) ?_)
  rintro _ w1 ⟨⟨s, rfl, hs⟩, hst⟩
  exact Done.mk ⟨by rw [hs, hr, show widthS 114 false = 106 + 8 from rfl, rk32 X Y (by omega) (a32_8 X Y)], E.still hst⟩
theorem bxor32 (X Y : BitVec 32) {w0 : World} {b bx : Nat} {w : World} (E : EnvB false w0 b bx w) :
    Fc Try.prog 16 #[.int .i64 X.toInt, .int .i64 Y.toInt, .pointer (some ⟨b, 0, none⟩)] w (fun v w' => v = .int .i64 (X ^^^ Y).toInt ∧ EnvB false w0 b bx w') := by
  refine Fc.of Try.func16 rfl (by kernel_rfl) ?_
  refine rLoad0 E.env.at_ rfl rfl ?_
  refine CallP.mk (Fc.imp (width 115 false (by decide) _) ?_)
  rintro _ _ ⟨⟨r, rfl, hr⟩, rfl⟩
  refine CallP.mk (Fc.imp (two r _ _ (by rw [hr]; decide) (rngI32 X) (rngI32 Y) _) ?_)
  rintro _ w1 ⟨⟨s, rfl, hs⟩, hst⟩
  exact Done.mk ⟨by rw [hs, hr, show widthS 115 false = 106 + 9 from rfl, rk32 X Y (by omega) (a32_9 X Y)], E.still hst⟩
theorem bnot32 (X : BitVec 32) {w0 : World} {b bx : Nat} {w : World} (E : EnvB false w0 b bx w) :
    Fc Try.prog 17 #[.int .i64 X.toInt, .pointer (some ⟨bx, 0, none⟩)] w (fun v w' => v = .int .i64 (~~~X).toInt ∧ EnvB false w0 b bx w') := by
  refine Fc.of Try.func17 rfl (by kernel_rfl) ?_
  refine rLoad0 E.fn rfl rfl ?_
  refine CallP.mk (Fc.imp (Fc.arg (bxor32 X (-1#32) E) rfl) ?_)
  rintro _ w1 ⟨rfl, E⟩
  exact Done.mk ⟨by rw [bit32_7], E⟩
theorem numBits32 (a b c : Int) (ha : -9223372036854775808 ≤ a ∧ a ≤ 9223372036854775807) (hb : -9223372036854775808 ≤ b ∧ b ≤ 9223372036854775807) (hc : -9223372036854775808 ≤ c ∧ c ≤ 9223372036854775807) (w : World) : Fc Try.prog 4 #[.int .i64 a, .int .i64 b, .int .i64 c, .bool false] w (fun v w' => v = .bool true ∧ Below w.heap.size w w') := by
  refine Fc.of Try.func4 rfl (by kernel_rfl) ?_
  refine rBox ?_
  intro w1 n1
  refine rLoad0 n1.blk.at rfl rfl ?_
  refine rBuildSlice (z := .int .i64 0) (sz := 1) rfl rfl rfl (by decide) ?_
  intro w2 n2
  obtain ⟨A, ea⟩ := fit32 a
  obtain ⟨B, eb⟩ := fit32 b
  obtain ⟨C, ec⟩ := fit32 c
  refine CallP.mk (Fc.imp (fits false w1.heap.size [a, b, c] [A.toInt, B.toInt, C.toInt] 3 rfl (by simp only [List.map, ea, eb, ec]) (by decide) _ w2 n2.blk) ?_)
  rintro _ w3 ⟨rfl, b3, u3⟩
  have k1 : At w3 w.heap.size 0 [.bool false] := (n1.blk.at.below n2.below (by rw [n1.size]; omega)).keep (u3.block _ (by rw [n1.size]; omega))
  have g3 : Below w.heap.size w w3 := u3.below (n1.below.trans (n2.below.mono (by rw [n1.size]; omega))) (by rw [n1.size]; omega)
  refine draw (fun wx => Blk wx w1.heap.size (List.map (Value.int .i64) [A.toInt, B.toInt, C.toInt]) 2) [(0, true), (1, true), (2, true), (3, true), (4, true), (5, true), (6, true), (7, true), (8, true), (9, true), (10, true), (11, true)] mixed (by kernel_rfl) (fun w4 h4 => ⟨by rw [h4]; exact b3, ?_⟩)
  refine tk (fun wx hS => rIdx 1 0 0 rfl (by decide) rfl rfl rfl ⟨rfl, rfl⟩) ?_
  refine tk (v := .int .i64 A.toInt) (fun wx hS => rLoadC (hS.at.cell (i := 0) rfl) rfl rfl ⟨rfl, rfl⟩) ?_
  refine tk (fun wx hS => rIdx 1 1 1 rfl (by decide) rfl rfl rfl ⟨rfl, rfl⟩) ?_
  refine tk (v := .int .i64 B.toInt) (fun wx hS => rLoadC (hS.at.cell (i := 1) rfl) rfl rfl ⟨rfl, rfl⟩) ?_
  refine tk (fun wx hS => rIdx 1 2 2 rfl (by decide) rfl rfl rfl ⟨rfl, rfl⟩) ?_
  refine tk (v := .int .i64 C.toInt) (fun wx hS => rLoadC (hS.at.cell (i := 2) rfl) rfl rfl ⟨rfl, rfl⟩) ?_
  have E : Env false w w.heap.size w4 := (⟨g3, k1⟩ : Env false w w.heap.size w3).still (by rw [h4]; exact Still.drew _)
  refine rAlloc rfl ?_
  intro w5 n5
  refine rStoreL n5.blk (by decide) rfl rfl ?_
  intro w6 u6 b6
  have hlt : w.heap.size < w4.heap.size := E.at_.lt
  have E : EnvB false w w.heap.size w4.heap.size w6 := ⟨⟨u6.below (E.below.trans (n5.below.mono (Nat.le_of_lt hlt))) (Nat.le_of_lt hlt), (E.at_.below n5.below hlt).keep (u6.block _ (Nat.ne_of_lt hlt))⟩, b6.at⟩
  refine draws (fun wx => EnvB false w w.heap.size w4.heap.size wx) [(0, true), (1, true), (2, true), (3, true), (6, true), (7, true), (8, true), (10, true), (11, true), (4, false), (5, false), (9, false), (12, false), (13, false), (14, true), (15, true), (16, true), (17, true), (18, true), (19, true), (20, true), (23, true), (24, true), (25, true), (26, true), (28, true), (29, true), (30, true), (21, false), (22, false), (27, false), (31, false), (32, false), (33, true), (34, true), (35, true), (36, true), (37, true), (38, true), (40, true), (41, true), (42, true), (43, true), (45, true), (46, true), (47, true), (48, true), (39, false), (44, false), (49, false), (50, false), (51, false), (52, true), (53, true), (54, true), (55, true), (56, true), (57, true), (60, true), (58, false), (59, false), (61, true), (62, true), (63, true), (64, true), (65, true), (66, true), (67, true), (68, false), (69, false), (70, true), (71, true), (72, true), (73, true), (74, true), (75, true), (76, true), (77, false), (78, false), (79, true), (80, true), (81, true), (82, true), (84, true), (85, true), (86, true), (88, true), (90, true), (91, true), (92, true), (96, true), (98, true), (99, true), (83, false), (87, false), (89, false), (93, false), (94, false), (95, false), (97, false), (100, false), (101, true), (102, true), (103, true)] mixed (by kernel_rfl) (fun w7 h7 => ⟨E.still (by rw [h7]; exact Still.drew _), ?_⟩)
  replace E : EnvB false w w.heap.size w4.heap.size w7 := E.still (by rw [h7]; exact Still.drew _)
  refine CallP.mk (Fc.imp (band32 _ _ E) ?_)
  clear E
  rintro _ w8 ⟨rfl, E⟩
  refine KeepP.mk E ?_
  refine CallP.mk (Fc.imp (bnot32 _ E) ?_)
  clear E
  rintro _ w8 ⟨rfl, E⟩
  refine KeepP.mk E ?_
  refine CallP.mk (Fc.imp (bnot32 _ E) ?_)
  clear E
  rintro _ w8 ⟨rfl, E⟩
  refine KeepP.mk E ?_
  refine CallP.mk (Fc.imp (bnot32 _ E) ?_)
  clear E
  rintro _ w8 ⟨rfl, E⟩
  refine KeepP.mk E ?_
  refine CallP.mk (Fc.imp (bor32 _ _ E) ?_)
  clear E
  rintro _ w8 ⟨rfl, E⟩
  refine KeepP.mk E ?_
  refine br_t (by rw [vEq_iff, decide_eq_true_eq]; exact congrArg BitVec.toInt (bit32_1 A B)) ?_
  refine CallP.mk (Fc.imp (bor32 _ _ E) ?_)
  clear E
  rintro _ w8 ⟨rfl, E⟩
  refine KeepP.mk E ?_
  refine CallP.mk (Fc.imp (band32 _ _ E) ?_)
  clear E
  rintro _ w8 ⟨rfl, E⟩
  refine KeepP.mk E ?_
  refine CallP.mk (Fc.imp (band32 _ _ E) ?_)
  clear E
  rintro _ w8 ⟨rfl, E⟩
  refine KeepP.mk E ?_
  refine CallP.mk (Fc.imp (band32 _ _ E) ?_)
  clear E
  rintro _ w8 ⟨rfl, E⟩
  refine KeepP.mk E ?_
  refine CallP.mk (Fc.imp (bor32 _ _ E) ?_)
  clear E
  rintro _ w8 ⟨rfl, E⟩
  refine KeepP.mk E ?_
  refine br_t (by rw [vEq_iff, decide_eq_true_eq]; exact congrArg BitVec.toInt (bit32_2 A B C)) ?_
  refine tk (fun wx hS => rLoad0 hS.fn rfl rfl ⟨rfl, rfl⟩) ?_
  refine CallP.mk (Fc.imp (bxor32 _ _ E) ?_)
  clear E
  rintro _ w8 ⟨rfl, E⟩
  refine KeepP.mk E ?_
  refine CallP.mk (Fc.imp (bor32 _ _ E) ?_)
  clear E
  rintro _ w8 ⟨rfl, E⟩
  refine KeepP.mk E ?_
  refine CallP.mk (Fc.imp (band32 _ _ E) ?_)
  clear E
  rintro _ w8 ⟨rfl, E⟩
  refine KeepP.mk E ?_
  refine CallP.mk (Fc.imp (bnot32 _ E) ?_)
  clear E
  rintro _ w8 ⟨rfl, E⟩
  refine KeepP.mk E ?_
  refine CallP.mk (Fc.imp (band32 _ _ E) ?_)
  clear E
  rintro _ w8 ⟨rfl, E⟩
  refine KeepP.mk E ?_
  refine br_t (by rw [vEq_iff, decide_eq_true_eq]; exact congrArg BitVec.toInt (bit32_3 A B)) ?_
  refine CallP.mk (Fc.imp (bnot32 _ E) ?_)
  clear E
  rintro _ w8 ⟨rfl, E⟩
  refine KeepP.mk E ?_
  refine CallP.mk (Fc.imp (bnot32 _ E) ?_)
  clear E
  rintro _ w8 ⟨rfl, E⟩
  refine KeepP.mk E ?_
  refine br_t (by rw [vEq_iff, decide_eq_true_eq]; exact congrArg BitVec.toInt (bit32_4 A)) ?_
  refine CallP.mk (Fc.imp (bnot32 _ E) ?_)
  clear E
  rintro _ w8 ⟨rfl, E⟩
  refine KeepP.mk E ?_
  refine CallP.mk (Fc.imp (band32 _ _ E) ?_)
  clear E
  rintro _ w8 ⟨rfl, E⟩
  refine KeepP.mk E ?_
  refine br_t (by rw [vEq_iff, decide_eq_true_eq]; exact congrArg BitVec.toInt (bit32_5 A)) ?_
  refine CallP.mk (Fc.imp (bnot32 _ E) ?_)
  clear E
  rintro _ w8 ⟨rfl, E⟩
  refine KeepP.mk E ?_
  refine CallP.mk (Fc.imp (bor32 _ _ E) ?_)
  clear E
  rintro _ w8 ⟨rfl, E⟩
  refine KeepP.mk E ?_
  refine br_t (by rw [vEq_iff, decide_eq_true_eq]; exact congrArg BitVec.toInt (bit32_6 A)) ?_
  refine tk (fun wx hS => rLoad0 hS.env.at_ rfl rfl ⟨rfl, rfl⟩) ?_
  refine tk (fun wx hS => rLoad0 hS.fn rfl rfl ⟨rfl, rfl⟩) ?_
  refine tk (fun wx hS => rLoad0 hS.env.at_ rfl rfl ⟨rfl, rfl⟩) ?_
  refine tk (fun wx hS => rLoad0 hS.env.at_ rfl rfl ⟨rfl, rfl⟩) ?_
  refine CallP.mk (Fc.imp (width 106 false (by decide) _) ?_)
  rintro _ _ ⟨⟨r1, rfl, hr1⟩, rfl⟩
  refine KeepP.mk E ?_
  refine CallP.mk (Fc.imp (bxor32 _ _ E) ?_)
  clear E
  rintro _ w8 ⟨rfl, E⟩
  refine KeepP.mk E ?_
  refine CallP.mk (Fc.imp (width 116 false (by decide) _) ?_)
  rintro _ _ ⟨⟨r2, rfl, hr2⟩, rfl⟩
  refine KeepP.mk E ?_
  refine CallP.mk (Fc.imp (band32 _ _ E) ?_)
  clear E
  rintro _ w8 ⟨rfl, E⟩
  refine KeepP.mk E ?_
  refine CallP.mk (Fc.imp (Fc.arg (two r2 (A &&& B).toInt (1#32).toInt (by rw [hr2]; decide) (rngI32 _) (rngI32 (1#32)) _) rfl) ?_)
  rintro _ w8 ⟨⟨s1, rfl, hs1⟩, hst⟩
  replace E := E.still hst
  refine KeepP.mk E ?_
  rw [hr2, show widthS 116 false = 106 + 10 from rfl, rk32 (A &&& B) (1#32) (by omega) (a32_10 _)] at hs1
  subst hs1
  refine CallP.mk (Fc.imp (two r1 (A ^^^ B).toInt ((A &&& B) <<< 1).toInt (by rw [hr1]; decide) (rngI32 _) (rngI32 ((A &&& B) <<< 1)) _) ?_)
  rintro _ w8 ⟨⟨s2, rfl, hs2⟩, hst⟩
  replace E := E.still hst
  refine KeepP.mk E ?_
  rw [hr1, show widthS 106 false = 106 + 0 from rfl, rk32 (A ^^^ B) ((A &&& B) <<< 1) (by omega) (a32_0 _ _)] at hs2
  subst hs2
  refine CallP.mk (Fc.imp (width 106 false (by decide) _) ?_)
  rintro _ _ ⟨⟨r3, rfl, hr3⟩, rfl⟩
  refine KeepP.mk E ?_
  refine CallP.mk (Fc.imp (two r3 (A).toInt (B).toInt (by rw [hr3]; decide) (rngI32 _) (rngI32 (B)) _) ?_)
  rintro _ w8 ⟨⟨s3, rfl, hs3⟩, hst⟩
  replace E := E.still hst
  refine KeepP.mk E ?_
  rw [hr3, show widthS 106 false = 106 + 0 from rfl, rk32 (A) (B) (by omega) (a32_0 _ _)] at hs3
  subst hs3
  refine Done.mk ⟨congrArg Value.bool (by rw [vEq_iff, decide_eq_true_eq]; exact congrArg BitVec.toInt (bit32_8 A B)), E.env.below⟩
theorem band64 (X Y : BitVec 64) {w0 : World} {b bx : Nat} {w : World} (E : EnvB true w0 b bx w) :
    Fc Try.prog 14 #[.int .i64 X.toInt, .int .i64 Y.toInt, .pointer (some ⟨b, 0, none⟩)] w (fun v w' => v = .int .i64 (X &&& Y).toInt ∧ EnvB true w0 b bx w') := by
  refine Fc.of Try.func14 rfl (by kernel_rfl) ?_
  refine rLoad0 E.env.at_ rfl rfl ?_
  refine CallP.mk (Fc.imp (width 113 true (by decide) _) ?_)
  rintro _ _ ⟨⟨r, rfl, hr⟩, rfl⟩
  refine CallP.mk (Fc.imp (two r _ _ (by rw [hr]; decide) (rngI64 X) (rngI64 Y) _) ?_)
  rintro _ w1 ⟨⟨s, rfl, hs⟩, hst⟩
  exact Done.mk ⟨by rw [hs, hr, show widthS 113 true = 124 + 7 from rfl, rk64 X Y (by omega) (a64_7 X Y)], E.still hst⟩
theorem bor64 (X Y : BitVec 64) {w0 : World} {b bx : Nat} {w : World} (E : EnvB true w0 b bx w) :
    Fc Try.prog 15 #[.int .i64 X.toInt, .int .i64 Y.toInt, .pointer (some ⟨b, 0, none⟩)] w (fun v w' => v = .int .i64 (X ||| Y).toInt ∧ EnvB true w0 b bx w') := by
  refine Fc.of Try.func15 rfl (by kernel_rfl) ?_
  refine rLoad0 E.env.at_ rfl rfl ?_
  refine CallP.mk (Fc.imp (width 114 true (by decide) _) ?_)
  rintro _ _ ⟨⟨r, rfl, hr⟩, rfl⟩
  refine CallP.mk (Fc.imp (two r _ _ (by rw [hr]; decide) (rngI64 X) (rngI64 Y) _) ?_)
  rintro _ w1 ⟨⟨s, rfl, hs⟩, hst⟩
  exact Done.mk ⟨by rw [hs, hr, show widthS 114 true = 124 + 8 from rfl, rk64 X Y (by omega) (a64_8 X Y)], E.still hst⟩
theorem bxor64 (X Y : BitVec 64) {w0 : World} {b bx : Nat} {w : World} (E : EnvB true w0 b bx w) :
    Fc Try.prog 16 #[.int .i64 X.toInt, .int .i64 Y.toInt, .pointer (some ⟨b, 0, none⟩)] w (fun v w' => v = .int .i64 (X ^^^ Y).toInt ∧ EnvB true w0 b bx w') := by
  refine Fc.of Try.func16 rfl (by kernel_rfl) ?_
  refine rLoad0 E.env.at_ rfl rfl ?_
  refine CallP.mk (Fc.imp (width 115 true (by decide) _) ?_)
  rintro _ _ ⟨⟨r, rfl, hr⟩, rfl⟩
  refine CallP.mk (Fc.imp (two r _ _ (by rw [hr]; decide) (rngI64 X) (rngI64 Y) _) ?_)
  rintro _ w1 ⟨⟨s, rfl, hs⟩, hst⟩
  exact Done.mk ⟨by rw [hs, hr, show widthS 115 true = 124 + 9 from rfl, rk64 X Y (by omega) (a64_9 X Y)], E.still hst⟩
theorem bnot64 (X : BitVec 64) {w0 : World} {b bx : Nat} {w : World} (E : EnvB true w0 b bx w) :
    Fc Try.prog 17 #[.int .i64 X.toInt, .pointer (some ⟨bx, 0, none⟩)] w (fun v w' => v = .int .i64 (~~~X).toInt ∧ EnvB true w0 b bx w') := by
  refine Fc.of Try.func17 rfl (by kernel_rfl) ?_
  refine rLoad0 E.fn rfl rfl ?_
  refine CallP.mk (Fc.imp (Fc.arg (bxor64 X (-1#64) E) rfl) ?_)
  rintro _ w1 ⟨rfl, E⟩
  exact Done.mk ⟨by rw [bit64_7], E⟩
theorem numBits64 (a b c : Int) (ha : -9223372036854775808 ≤ a ∧ a ≤ 9223372036854775807) (hb : -9223372036854775808 ≤ b ∧ b ≤ 9223372036854775807) (hc : -9223372036854775808 ≤ c ∧ c ≤ 9223372036854775807) (w : World) : Fc Try.prog 4 #[.int .i64 a, .int .i64 b, .int .i64 c, .bool true] w (fun v w' => v = .bool true ∧ Below w.heap.size w w') := by
  refine Fc.of Try.func4 rfl (by kernel_rfl) ?_
  refine rBox ?_
  intro w1 n1
  refine rLoad0 n1.blk.at rfl rfl ?_
  refine rBuildSlice (z := .int .i64 0) (sz := 1) rfl rfl rfl (by decide) ?_
  intro w2 n2
  obtain ⟨A, ea⟩ := fit64 a ha
  obtain ⟨B, eb⟩ := fit64 b hb
  obtain ⟨C, ec⟩ := fit64 c hc
  refine CallP.mk (Fc.imp (fits true w1.heap.size [a, b, c] [A.toInt, B.toInt, C.toInt] 3 rfl (by simp only [List.map, ea, eb, ec]) (by decide) _ w2 n2.blk) ?_)
  rintro _ w3 ⟨rfl, b3, u3⟩
  have k1 : At w3 w.heap.size 0 [.bool true] := (n1.blk.at.below n2.below (by rw [n1.size]; omega)).keep (u3.block _ (by rw [n1.size]; omega))
  have g3 : Below w.heap.size w w3 := u3.below (n1.below.trans (n2.below.mono (by rw [n1.size]; omega))) (by rw [n1.size]; omega)
  refine draw (fun wx => Blk wx w1.heap.size (List.map (Value.int .i64) [A.toInt, B.toInt, C.toInt]) 2) [(0, true), (1, true), (2, true), (3, true), (4, true), (5, true), (6, true), (7, true), (8, true), (9, true), (10, true), (11, true)] mixed (by kernel_rfl) (fun w4 h4 => ⟨by rw [h4]; exact b3, ?_⟩)
  refine tk (fun wx hS => rIdx 1 0 0 rfl (by decide) rfl rfl rfl ⟨rfl, rfl⟩) ?_
  refine tk (v := .int .i64 A.toInt) (fun wx hS => rLoadC (hS.at.cell (i := 0) rfl) rfl rfl ⟨rfl, rfl⟩) ?_
  refine tk (fun wx hS => rIdx 1 1 1 rfl (by decide) rfl rfl rfl ⟨rfl, rfl⟩) ?_
  refine tk (v := .int .i64 B.toInt) (fun wx hS => rLoadC (hS.at.cell (i := 1) rfl) rfl rfl ⟨rfl, rfl⟩) ?_
  refine tk (fun wx hS => rIdx 1 2 2 rfl (by decide) rfl rfl rfl ⟨rfl, rfl⟩) ?_
  refine tk (v := .int .i64 C.toInt) (fun wx hS => rLoadC (hS.at.cell (i := 2) rfl) rfl rfl ⟨rfl, rfl⟩) ?_
  have E : Env true w w.heap.size w4 := (⟨g3, k1⟩ : Env true w w.heap.size w3).still (by rw [h4]; exact Still.drew _)
  refine rAlloc rfl ?_
  intro w5 n5
  refine rStoreL n5.blk (by decide) rfl rfl ?_
  intro w6 u6 b6
  have hlt : w.heap.size < w4.heap.size := E.at_.lt
  have E : EnvB true w w.heap.size w4.heap.size w6 := ⟨⟨u6.below (E.below.trans (n5.below.mono (Nat.le_of_lt hlt))) (Nat.le_of_lt hlt), (E.at_.below n5.below hlt).keep (u6.block _ (Nat.ne_of_lt hlt))⟩, b6.at⟩
  refine draws (fun wx => EnvB true w w.heap.size w4.heap.size wx) [(0, true), (1, true), (2, true), (3, true), (6, true), (7, true), (8, true), (10, true), (11, true), (4, false), (5, false), (9, false), (12, false), (13, false), (14, true), (15, true), (16, true), (17, true), (18, true), (19, true), (20, true), (23, true), (24, true), (25, true), (26, true), (28, true), (29, true), (30, true), (21, false), (22, false), (27, false), (31, false), (32, false), (33, true), (34, true), (35, true), (36, true), (37, true), (38, true), (40, true), (41, true), (42, true), (43, true), (45, true), (46, true), (47, true), (48, true), (39, false), (44, false), (49, false), (50, false), (51, false), (52, true), (53, true), (54, true), (55, true), (56, true), (57, true), (60, true), (58, false), (59, false), (61, true), (62, true), (63, true), (64, true), (65, true), (66, true), (67, true), (68, false), (69, false), (70, true), (71, true), (72, true), (73, true), (74, true), (75, true), (76, true), (77, false), (78, false), (79, true), (80, true), (81, true), (82, true), (84, true), (85, true), (86, true), (88, true), (90, true), (91, true), (92, true), (96, true), (98, true), (99, true), (83, false), (87, false), (89, false), (93, false), (94, false), (95, false), (97, false), (100, false), (101, true), (102, true), (103, true)] mixed (by kernel_rfl) (fun w7 h7 => ⟨E.still (by rw [h7]; exact Still.drew _), ?_⟩)
  replace E : EnvB true w w.heap.size w4.heap.size w7 := E.still (by rw [h7]; exact Still.drew _)
  refine CallP.mk (Fc.imp (band64 _ _ E) ?_)
  clear E
  rintro _ w8 ⟨rfl, E⟩
  refine KeepP.mk E ?_
  refine CallP.mk (Fc.imp (bnot64 _ E) ?_)
  clear E
  rintro _ w8 ⟨rfl, E⟩
  refine KeepP.mk E ?_
  refine CallP.mk (Fc.imp (bnot64 _ E) ?_)
  clear E
  rintro _ w8 ⟨rfl, E⟩
  refine KeepP.mk E ?_
  refine CallP.mk (Fc.imp (bnot64 _ E) ?_)
  clear E
  rintro _ w8 ⟨rfl, E⟩
  refine KeepP.mk E ?_
  refine CallP.mk (Fc.imp (bor64 _ _ E) ?_)
  clear E
  rintro _ w8 ⟨rfl, E⟩
  refine KeepP.mk E ?_
  refine br_t (by rw [vEq_iff, decide_eq_true_eq]; exact congrArg BitVec.toInt (bit64_1 A B)) ?_
  refine CallP.mk (Fc.imp (bor64 _ _ E) ?_)
  clear E
  rintro _ w8 ⟨rfl, E⟩
  refine KeepP.mk E ?_
  refine CallP.mk (Fc.imp (band64 _ _ E) ?_)
  clear E
  rintro _ w8 ⟨rfl, E⟩
  refine KeepP.mk E ?_
  refine CallP.mk (Fc.imp (band64 _ _ E) ?_)
  clear E
  rintro _ w8 ⟨rfl, E⟩
  refine KeepP.mk E ?_
  refine CallP.mk (Fc.imp (band64 _ _ E) ?_)
  clear E
  rintro _ w8 ⟨rfl, E⟩
  refine KeepP.mk E ?_
  refine CallP.mk (Fc.imp (bor64 _ _ E) ?_)
  clear E
  rintro _ w8 ⟨rfl, E⟩
  refine KeepP.mk E ?_
  refine br_t (by rw [vEq_iff, decide_eq_true_eq]; exact congrArg BitVec.toInt (bit64_2 A B C)) ?_
  refine tk (fun wx hS => rLoad0 hS.fn rfl rfl ⟨rfl, rfl⟩) ?_
  refine CallP.mk (Fc.imp (bxor64 _ _ E) ?_)
  clear E
  rintro _ w8 ⟨rfl, E⟩
  refine KeepP.mk E ?_
  refine CallP.mk (Fc.imp (bor64 _ _ E) ?_)
  clear E
  rintro _ w8 ⟨rfl, E⟩
  refine KeepP.mk E ?_
  refine CallP.mk (Fc.imp (band64 _ _ E) ?_)
  clear E
  rintro _ w8 ⟨rfl, E⟩
  refine KeepP.mk E ?_
  refine CallP.mk (Fc.imp (bnot64 _ E) ?_)
  clear E
  rintro _ w8 ⟨rfl, E⟩
  refine KeepP.mk E ?_
  refine CallP.mk (Fc.imp (band64 _ _ E) ?_)
  clear E
  rintro _ w8 ⟨rfl, E⟩
  refine KeepP.mk E ?_
  refine br_t (by rw [vEq_iff, decide_eq_true_eq]; exact congrArg BitVec.toInt (bit64_3 A B)) ?_
  refine CallP.mk (Fc.imp (bnot64 _ E) ?_)
  clear E
  rintro _ w8 ⟨rfl, E⟩
  refine KeepP.mk E ?_
  refine CallP.mk (Fc.imp (bnot64 _ E) ?_)
  clear E
  rintro _ w8 ⟨rfl, E⟩
  refine KeepP.mk E ?_
  refine br_t (by rw [vEq_iff, decide_eq_true_eq]; exact congrArg BitVec.toInt (bit64_4 A)) ?_
  refine CallP.mk (Fc.imp (bnot64 _ E) ?_)
  clear E
  rintro _ w8 ⟨rfl, E⟩
  refine KeepP.mk E ?_
  refine CallP.mk (Fc.imp (band64 _ _ E) ?_)
  clear E
  rintro _ w8 ⟨rfl, E⟩
  refine KeepP.mk E ?_
  refine br_t (by rw [vEq_iff, decide_eq_true_eq]; exact congrArg BitVec.toInt (bit64_5 A)) ?_
  refine CallP.mk (Fc.imp (bnot64 _ E) ?_)
  clear E
  rintro _ w8 ⟨rfl, E⟩
  refine KeepP.mk E ?_
  refine CallP.mk (Fc.imp (bor64 _ _ E) ?_)
  clear E
  rintro _ w8 ⟨rfl, E⟩
  refine KeepP.mk E ?_
  refine br_t (by rw [vEq_iff, decide_eq_true_eq]; exact congrArg BitVec.toInt (bit64_6 A)) ?_
  refine tk (fun wx hS => rLoad0 hS.env.at_ rfl rfl ⟨rfl, rfl⟩) ?_
  refine tk (fun wx hS => rLoad0 hS.fn rfl rfl ⟨rfl, rfl⟩) ?_
  refine tk (fun wx hS => rLoad0 hS.env.at_ rfl rfl ⟨rfl, rfl⟩) ?_
  refine tk (fun wx hS => rLoad0 hS.env.at_ rfl rfl ⟨rfl, rfl⟩) ?_
  refine CallP.mk (Fc.imp (width 106 true (by decide) _) ?_)
  rintro _ _ ⟨⟨r1, rfl, hr1⟩, rfl⟩
  refine KeepP.mk E ?_
  refine CallP.mk (Fc.imp (bxor64 _ _ E) ?_)
  clear E
  rintro _ w8 ⟨rfl, E⟩
  refine KeepP.mk E ?_
  refine CallP.mk (Fc.imp (width 116 true (by decide) _) ?_)
  rintro _ _ ⟨⟨r2, rfl, hr2⟩, rfl⟩
  refine KeepP.mk E ?_
  refine CallP.mk (Fc.imp (band64 _ _ E) ?_)
  clear E
  rintro _ w8 ⟨rfl, E⟩
  refine KeepP.mk E ?_
  refine CallP.mk (Fc.imp (Fc.arg (two r2 (A &&& B).toInt (1#64).toInt (by rw [hr2]; decide) (rngI64 _) (rngI64 (1#64)) _) rfl) ?_)
  rintro _ w8 ⟨⟨s1, rfl, hs1⟩, hst⟩
  replace E := E.still hst
  refine KeepP.mk E ?_
  rw [hr2, show widthS 116 true = 124 + 10 from rfl, rk64 (A &&& B) (1#64) (by omega) (a64_10 _)] at hs1
  subst hs1
  refine CallP.mk (Fc.imp (two r1 (A ^^^ B).toInt ((A &&& B) <<< 1).toInt (by rw [hr1]; decide) (rngI64 _) (rngI64 ((A &&& B) <<< 1)) _) ?_)
  rintro _ w8 ⟨⟨s2, rfl, hs2⟩, hst⟩
  replace E := E.still hst
  refine KeepP.mk E ?_
  rw [hr1, show widthS 106 true = 124 + 0 from rfl, rk64 (A ^^^ B) ((A &&& B) <<< 1) (by omega) (a64_0 _ _)] at hs2
  subst hs2
  refine CallP.mk (Fc.imp (width 106 true (by decide) _) ?_)
  rintro _ _ ⟨⟨r3, rfl, hr3⟩, rfl⟩
  refine KeepP.mk E ?_
  refine CallP.mk (Fc.imp (two r3 (A).toInt (B).toInt (by rw [hr3]; decide) (rngI64 _) (rngI64 (B)) _) ?_)
  rintro _ w8 ⟨⟨s3, rfl, hs3⟩, hst⟩
  replace E := E.still hst
  refine KeepP.mk E ?_
  rw [hr3, show widthS 106 true = 124 + 0 from rfl, rk64 (A) (B) (by omega) (a64_0 _ _)] at hs3
  subst hs3
  refine Done.mk ⟨congrArg Value.bool (by rw [vEq_iff, decide_eq_true_eq]; exact congrArg BitVec.toInt (bit64_8 A B)), E.env.below⟩
theorem numBits (a b c : Int) (wide : Bool) (ha : -9223372036854775808 ≤ a ∧ a ≤ 9223372036854775807) (hb : -9223372036854775808 ≤ b ∧ b ≤ 9223372036854775807) (hc : -9223372036854775808 ≤ c ∧ c ≤ 9223372036854775807) (w : World) : Fc Try.prog 4 #[.int .i64 a, .int .i64 b, .int .i64 c, .bool wide] w (fun v w' => v = .bool true ∧ Below w.heap.size w w') := by
  cases wide
  · exact numBits32 a b c ha hb hc w
  · exact numBits64 a b c ha hb hc w
end Go.Proofs.Ytobepdjhihjcdaa.Num
