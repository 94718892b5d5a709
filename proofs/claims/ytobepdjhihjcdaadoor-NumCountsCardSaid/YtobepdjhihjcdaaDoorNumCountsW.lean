/- The walk of the law NumCounts. -/
import Derived.Test.YtobepdjhihjcdaaDoorNumOne
set_option maxRecDepth 100000
set_option linter.unusedVariables false
set_option linter.unusedSimpArgs false
namespace Go.Proofs.YtobepdjhihjcdaaDoor.Num
open Go Go.Proofs.YtobepdjhihjcdaaDoor.Eng Go.RowKit
open Bm (popF ctz blen)
theorem pop_and_or (f : Nat) : ∀ a b, popF f (a &&& b) + popF f (a ||| b) = popF f a + popF f b := by
  induction f with
  | zero => intro a b; rfl
  | succ f ih =>
    intro a b
    have h1 := ih (a / 2) (b / 2)
    have a1 := @Nat.and_div_two a b
    have o1 := @Nat.or_div_two a b
    have a2 := @Nat.and_mod_two_pow a b 1
    have o2 := @Nat.or_mod_two_pow a b 1
    simp only [Nat.pow_one] at a2 o2
    rw [Bm.popF_succ, Bm.popF_succ, Bm.popF_succ, Bm.popF_succ, a1, o1, a2, o2]
    rcases Nat.mod_two_eq_zero_or_one a with h | h <;> rcases Nat.mod_two_eq_zero_or_one b with h' | h' <;> rw [h, h'] <;> simp <;> omega
theorem pop_not (f : Nat) : ∀ a, a < 2 ^ f → popF f a + popF f (2 ^ f - 1 - a) = f := by
  induction f with
  | zero => intro a h; rfl
  | succ f ih =>
    intro a h
    have hp : 2 ^ (f + 1) = 2 * 2 ^ f := by rw [Nat.pow_succ]; omega
    have h1 := ih (a / 2) (by omega)
    rw [Bm.popF_succ, Bm.popF_succ, show (2 ^ (f + 1) - 1 - a) / 2 = 2 ^ f - 1 - a / 2 by omega]
    omega
theorem pop_pow (f : Nat) : ∀ k, k < f → popF f (2 ^ k) = 1 := by
  induction f with
  | zero => intro k h; omega
  | succ f ih =>
    intro k h
    rw [Bm.popF_succ]
    cases k with
    | zero => simp [Bm.popF_zero]
    | succ k => rw [show 2 ^ (k + 1) % 2 = 0 by rw [Nat.pow_succ]; omega, show 2 ^ (k + 1) / 2 = 2 ^ k by rw [Nat.pow_succ]; omega, ih k (by omega)]
theorem ctz_pow (f : Nat) : ∀ k, k < f → ctz f (2 ^ k) = k := by
  induction f with
  | zero => intro k h; omega
  | succ f ih =>
    intro k h
    unfold Bm.ctz
    cases k with
    | zero => simp
    | succ k => rw [if_neg (by rw [Nat.pow_succ]; omega), show 2 ^ (k + 1) / 2 = 2 ^ k by rw [Nat.pow_succ]; omega, ih k (by omega)]
theorem blen_pow (k : Nat) : blen (2 ^ k) = k + 1 := by
  have := Nat.two_pow_pos k
  unfold Bm.blen
  rw [if_neg (by omega), Nat.log2_two_pow]
theorem ctz_lt_blen (f n : Nat) (h0 : n ≠ 0) (h : n < 2 ^ f) : ctz f n < blen n := by
  have h1 := Bm.low_one f n h0 h
  have h2 : n &&& (2 ^ f - n) ≤ n := Nat.and_le_left
  rw [h1] at h2
  have h3 := Bm.blen_shift h2
  have := Nat.div_pos h2 (Nat.two_pow_pos _)
  have h4 : 0 < blen (n / 2 ^ ctz f n) := by unfold Bm.blen; rw [if_neg (by omega)]; omega
  omega
theorem cclz32 (X : BitVec 32) {w0 : World} {b : Nat} {w : World} (E : Env false w0 b w) (T : Bm.Tabs w) : Fc Tryd.prog 11 #[.int .u8 103, .int .i64 X.toInt, .pointer (some ⟨b, 0, none⟩)] w (fun v w' => (∃ r, v = .int .i64 r ∧ r = 32 - (blen X.toNat : Int)) ∧ Still w w') := by
  refine Fc.of Tryd.func11 rfl (by kernel_rfl) ?_
  refine rLoad0 E.at_ rfl rfl ?_
  refine cF (rfl) ?_
  refine CallP.mk (Fc.imp (one 103 _ _ T) ?_)
  rintro _ w1 ⟨⟨r, rfl, hr⟩, st⟩
  exact Done.mk ⟨⟨r, rfl, by rw [hr, oneS, if_neg (by decide), if_neg (by decide), if_pos rfl, u32_int, Int.toNat_natCast]⟩, st⟩
theorem cctz32 (X : BitVec 32) {w0 : World} {b : Nat} {w : World} (E : Env false w0 b w) (T : Bm.Tabs w) : Fc Tryd.prog 11 #[.int .u8 104, .int .i64 X.toInt, .pointer (some ⟨b, 0, none⟩)] w (fun v w' => (∃ r, v = .int .i64 r ∧ r = (ctz 32 X.toNat : Int)) ∧ Still w w') := by
  refine Fc.of Tryd.func11 rfl (by kernel_rfl) ?_
  refine rLoad0 E.at_ rfl rfl ?_
  refine cF (rfl) ?_
  refine CallP.mk (Fc.imp (one 104 _ _ T) ?_)
  rintro _ w1 ⟨⟨r, rfl, hr⟩, st⟩
  exact Done.mk ⟨⟨r, rfl, by rw [hr, oneS, if_neg (by decide), if_neg (by decide), if_neg (by decide), if_pos rfl, u32_int, Int.toNat_natCast]⟩, st⟩
theorem cpop32 (X : BitVec 32) {w0 : World} {b : Nat} {w : World} (E : Env false w0 b w) (T : Bm.Tabs w) : Fc Tryd.prog 11 #[.int .u8 105, .int .i64 X.toInt, .pointer (some ⟨b, 0, none⟩)] w (fun v w' => (∃ r, v = .int .i64 r ∧ r = (popF 32 X.toNat : Int)) ∧ Still w w') := by
  refine Fc.of Tryd.func11 rfl (by kernel_rfl) ?_
  refine rLoad0 E.at_ rfl rfl ?_
  refine cF (rfl) ?_
  refine CallP.mk (Fc.imp (one 105 _ _ T) ?_)
  rintro _ w1 ⟨⟨r, rfl, hr⟩, st⟩
  exact Done.mk ⟨⟨r, rfl, by rw [hr, oneS, if_neg (by decide), if_neg (by decide), if_neg (by decide), if_neg (by decide), if_pos rfl, u32_int, Int.toNat_natCast]⟩, st⟩
theorem numCounts32 (a b : Int) (ha : -9223372036854775808 ≤ a ∧ a ≤ 9223372036854775807) (hb : -9223372036854775808 ≤ b ∧ b ≤ 9223372036854775807) (w : World) (T : Bm.Tabs w) : Fc Tryd.prog 4 #[.int .i64 a, .int .i64 b, .bool false] w (fun v w' => v = .bool true ∧ Below w.heap.size w w') := by
  refine Fc.of Tryd.func4 rfl (by kernel_rfl) ?_
  refine rBox ?_
  intro w1 n1
  refine rLoad0 n1.blk.at rfl rfl ?_
  refine rBuildSlice (z := .int .i64 0) (sz := 1) rfl rfl rfl (by decide) ?_
  intro w2 n2
  obtain ⟨A, ea⟩ := fit32 a
  obtain ⟨B, eb⟩ := fit32 b
  refine CallP.mk (Fc.imp (fits false w1.heap.size [a, b] [A.toInt, B.toInt] 2 rfl (by simp only [List.map, ea, eb]) (by decide) _ w2 n2.blk) ?_)
  rintro _ w3 ⟨rfl, b3, u3⟩
  have k1 : At w3 w.heap.size 0 [.bool false] := (n1.blk.at.below n2.below (by rw [n1.size]; omega)).keep (u3.block _ (by rw [n1.size]; omega))
  have g3 : Below w.heap.size w w3 := u3.below (n1.below.trans (n2.below.mono (by rw [n1.size]; omega))) (by rw [n1.size]; omega)
  refine draw (fun wx => Blk wx w1.heap.size (List.map (Value.int .i64) [A.toInt, B.toInt]) 2) [(0, true), (1, true), (2, true), (3, true), (4, true), (5, true), (6, true), (7, true)] Bm.mixed (by kernel_rfl) (fun w4 h4 => ⟨by rw [h4]; exact b3, ?_⟩)
  refine tk (fun wx hS => rIdx 1 0 0 rfl (by decide) rfl rfl rfl ⟨rfl, rfl⟩) ?_
  refine tk (v := .int .i64 A.toInt) (fun wx hS => rLoadC (hS.at.cell (i := 0) rfl) rfl rfl ⟨rfl, rfl⟩) ?_
  refine tk (fun wx hS => rIdx 1 1 1 rfl (by decide) rfl rfl rfl ⟨rfl, rfl⟩) ?_
  refine tk (v := .int .i64 B.toInt) (fun wx hS => rLoadC (hS.at.cell (i := 1) rfl) rfl rfl ⟨rfl, rfl⟩) ?_
  have E : Env false w w.heap.size w4 := (⟨g3, k1⟩ : Env false w w.heap.size w3).still (by rw [h4]; exact Still.drew _)
  refine rLoad0 E.at_ rfl rfl ?_
  refine cF (rfl) ?_
  refine draws (fun wx => Env false w w.heap.size wx) [(0, true), (2, true), (3, true), (5, true), (7, true), (8, true), (1, false), (4, false), (6, false), (9, false), (10, true), (11, true)] Bm.mixed (by kernel_rfl) (fun w9 h9 => ⟨E.still (by rw [h9]; exact Still.drew _), ?_⟩)
  replace E := E.still (by rw [h9]; exact Still.drew _ : Still _ w9)
  clear h9
  refine tk (fun wx hS => rLoad0 hS.at_ rfl rfl ⟨rfl, rfl⟩) ?_
  refine tk (fun wx hS => rLoad0 hS.at_ rfl rfl ⟨rfl, rfl⟩) ?_
  refine CallP.mk (Fc.imp (width 113 false (by decide) _) ?_)
  rintro _ _ ⟨⟨r1, rfl, hr1⟩, rfl⟩
  refine KeepP.mk (E) ?_
  refine CallP.mk (Fc.imp (two r1 (A).toInt (B).toInt (by rw [hr1]; decide) (rngI32 _) (rngI32 _) _) ?_)
  rintro _ w8 ⟨⟨s1, rfl, hs1⟩, st⟩
  replace E := E.still st
  clear st
  refine KeepP.mk (E) ?_
  rw [hr1, show widthS 113 false = 106 + 7 from rfl, rk32 (A) (B) (by omega) (a32_7 _ _)] at hs1
  subst hs1
  refine CallP.mk (Fc.imp (width 114 false (by decide) _) ?_)
  rintro _ _ ⟨⟨r2, rfl, hr2⟩, rfl⟩
  refine KeepP.mk (E) ?_
  refine CallP.mk (Fc.imp (two r2 (A).toInt (B).toInt (by rw [hr2]; decide) (rngI32 _) (rngI32 _) _) ?_)
  rintro _ w8 ⟨⟨s2, rfl, hs2⟩, st⟩
  replace E := E.still st
  clear st
  refine KeepP.mk (E) ?_
  rw [hr2, show widthS 114 false = 106 + 8 from rfl, rk32 (A) (B) (by omega) (a32_8 _ _)] at hs2
  subst hs2
  refine draws (fun wx => Env false w w.heap.size wx) [(0, true), (2, true), (3, true), (5, true), (1, false), (4, false), (6, false), (7, false), (8, true)] Bm.mixed (by kernel_rfl) (fun w9 h9 => ⟨E.still (by rw [h9]; exact Still.drew _), ?_⟩)
  replace E := E.still (by rw [h9]; exact Still.drew _ : Still _ w9)
  clear h9
  refine tk (fun wx hS => rLoad0 hS.at_ rfl rfl ⟨rfl, rfl⟩) ?_
  refine tk (fun wx hS => rLoad0 hS.at_ rfl rfl ⟨rfl, rfl⟩) ?_
  refine CallP.mk (Fc.imp (width 113 false (by decide) _) ?_)
  rintro _ _ ⟨⟨r3, rfl, hr3⟩, rfl⟩
  refine KeepP.mk (E) ?_
  refine CallP.mk (Fc.imp (width 107 false (by decide) _) ?_)
  rintro _ _ ⟨⟨r4, rfl, hr4⟩, rfl⟩
  refine KeepP.mk (E) ?_
  refine CallP.mk (Fc.imp (Fc.arg (two r4 (0#32).toInt (A).toInt (by rw [hr4]; decide) (rngI32 _) (rngI32 _) _) (by rfl)) ?_)
  rintro _ w8 ⟨⟨s4, rfl, hs4⟩, st⟩
  replace E := E.still st
  clear st
  refine KeepP.mk (E) ?_
  rw [hr4, show widthS 107 false = 106 + 1 from rfl, rk32 (0#32) (A) (by omega) (a32_1 _ _)] at hs4
  subst hs4
  refine CallP.mk (Fc.imp (two r3 (A).toInt (0#32 - A).toInt (by rw [hr3]; decide) (rngI32 _) (rngI32 _) _) ?_)
  rintro _ w8 ⟨⟨s3, rfl, hs3⟩, st⟩
  replace E := E.still st
  clear st
  refine KeepP.mk (E) ?_
  rw [hr3, show widthS 113 false = 106 + 7 from rfl, rk32 (A) (0#32 - A) (by omega) (a32_7 _ _)] at hs3
  subst hs3
  have hA := A.isLt
  have e1 := pop_and_or 32 A.toNat B.toNat
  rw [← BitVec.toNat_and, ← BitVec.toNat_or] at e1
  have e2 := pop_not 32 A.toNat hA
  rw [show 2 ^ 32 - 1 - A.toNat = (A ^^^ (-1#32)).toNat by rw [show (-1#32) = BitVec.allOnes 32 from rfl, BitVec.xor_allOnes, BitVec.toNat_not]] at e2
  have p1 := Bm.popF_le 32 (A &&& B).toNat
  have p2 := Bm.popF_le 32 (A ||| B).toNat
  have p3 := Bm.popF_le 32 A.toNat
  have p4 := Bm.popF_le 32 B.toNat
  have p5 := Bm.popF_le 32 (A ^^^ (-1#32)).toNat
  obtain ⟨Lw, hLw⟩ : ∃ L, L = A &&& (0#32 - A) := ⟨_, rfl⟩
  rw [← hLw]
  refine draws (fun wx => Env false w w.heap.size wx) [(0, true), (1, true), (3, true), (4, true), (7, true), (8, true), (10, true), (11, true), (2, false), (5, false), (6, true), (9, false), (12, false), (13, true), (14, true), (15, true), (16, true), (17, true), (19, true), (20, true), (22, true), (26, true), (18, false), (21, false), (23, false), (24, false), (25, true), (27, true), (28, true)] Bm.mixed (by kernel_rfl) (fun w9 h9 => ⟨E.still (by rw [h9]; exact Still.drew _), ?_⟩)
  replace E := E.still (by rw [h9]; exact Still.drew _ : Still _ w9)
  clear h9
  refine CallP.mk (Fc.imp (cpop32 (A &&& B) E (T.below E.below (Nat.le_refl _))) ?_)
  rintro _ w8 ⟨⟨c1, rfl, hc1⟩, st⟩
  replace E := E.still st
  clear st
  refine KeepP.mk (E) ?_
  refine CallP.mk (Fc.imp (cpop32 (A ||| B) E (T.below E.below (Nat.le_refl _))) ?_)
  rintro _ w8 ⟨⟨c2, rfl, hc2⟩, st⟩
  replace E := E.still st
  clear st
  refine KeepP.mk (E) ?_
  refine CallP.mk (Fc.imp (cpop32 (A) E (T.below E.below (Nat.le_refl _))) ?_)
  rintro _ w8 ⟨⟨c3, rfl, hc3⟩, st⟩
  replace E := E.still st
  clear st
  refine KeepP.mk (E) ?_
  refine CallP.mk (Fc.imp (cpop32 (B) E (T.below E.below (Nat.le_refl _))) ?_)
  rintro _ w8 ⟨⟨c4, rfl, hc4⟩, st⟩
  replace E := E.still st
  clear st
  refine KeepP.mk (E) ?_
  refine br_f (by rw [vNe_iff, hc1, hc2, hc3, hc4, wi64 (by omega), wi64 (by omega), Bool.not_eq_false', decide_eq_true_eq]; omega) ?_
  refine tk (fun wx hS => rLoad0 hS.at_ rfl rfl ⟨rfl, rfl⟩) ?_
  refine CallP.mk (Fc.imp (cpop32 (A) E (T.below E.below (Nat.le_refl _))) ?_)
  rintro _ w8 ⟨⟨c5, rfl, hc5⟩, st⟩
  replace E := E.still st
  clear st
  refine KeepP.mk (E) ?_
  refine CallP.mk (Fc.imp (width 115 false (by decide) _) ?_)
  rintro _ _ ⟨⟨r5, rfl, hr5⟩, rfl⟩
  refine KeepP.mk (E) ?_
  refine CallP.mk (Fc.imp (Fc.arg (two r5 (A).toInt (-1#32).toInt (by rw [hr5]; decide) (rngI32 _) (rngI32 _) _) (by rfl)) ?_)
  rintro _ w8 ⟨⟨s5, rfl, hs5⟩, st⟩
  replace E := E.still st
  clear st
  refine KeepP.mk (E) ?_
  rw [hr5, show widthS 115 false = 106 + 9 from rfl, rk32 (A) (-1#32) (by omega) (a32_9 _ _)] at hs5
  subst hs5
  refine CallP.mk (Fc.imp (cpop32 (A ^^^ (-1#32)) E (T.below E.below (Nat.le_refl _))) ?_)
  rintro _ w8 ⟨⟨c6, rfl, hc6⟩, st⟩
  replace E := E.still st
  clear st
  refine KeepP.mk (E) ?_
  refine cF (by rw [vNe_iff, hc5, hc6, wi64 (by omega), Bool.not_eq_false', decide_eq_true_eq]; omega) ?_
  refine cI (fun h0 => ?_) (fun h0 => ?_)
  · have h0 := vEq_t h0
    have hz : A.toNat = 0 := by
      have := BitVec.toInt_eq_toNat_cond A
      rw [h0] at this
      split at this <;> omega
    refine CallP.mk (Fc.imp (cclz32 (A) E (T.below E.below (Nat.le_refl _))) ?_)
    rintro _ w8 ⟨⟨d1, rfl, hd1⟩, st⟩
    replace E := E.still st
    clear st
    refine br_t (by rw [vEq_iff, hd1, hz]; rfl) ?_
    refine CallP.mk (Fc.imp (cctz32 (A) E (T.below E.below (Nat.le_refl _))) ?_)
    rintro _ w8 ⟨⟨d2, rfl, hd2⟩, st⟩
    replace E := E.still st
    clear st
    exact Done.mk ⟨congrArg Value.bool (by rw [vEq_iff, hd2, hz]; rfl), E.below⟩
  have h0 := vEq_f h0
  have hz : A.toNat ≠ 0 := by
    intro e; apply h0
    have := BitVec.toInt_eq_toNat_cond A
    rw [e] at this; simpa using this
  have hl : Lw.toNat = 2 ^ ctz 32 A.toNat := by
    rw [hLw, BitVec.toNat_and, BitVec.toNat_sub, BitVec.toNat_ofNat, Nat.zero_mod, Nat.add_zero, Nat.mod_eq_of_lt (by omega), Bm.low_one 32 A.toNat hz hA]
  have k0 := Bm.ctz_lt hz hA
  have k1 := ctz_lt_blen 32 A.toNat hz hA
  have k2 := Bm.blen_le hA
  refine CallP.mk (Fc.imp (cpop32 (Lw) E (T.below E.below (Nat.le_refl _))) ?_)
  rintro _ w8 ⟨⟨d1, rfl, hd1⟩, st⟩
  replace E := E.still st
  clear st
  rw [hl, pop_pow 32 _ k0] at hd1
  refine br_t (by rw [vEq_iff, hd1]; rfl) ?_
  refine CallP.mk (Fc.imp (cctz32 (A) E (T.below E.below (Nat.le_refl _))) ?_)
  rintro _ w8 ⟨⟨d2, rfl, hd2⟩, st⟩
  replace E := E.still st
  clear st
  refine CallP.mk (Fc.imp (cctz32 (Lw) E (T.below E.below (Nat.le_refl _))) ?_)
  rintro _ w8 ⟨⟨d3, rfl, hd3⟩, st⟩
  replace E := E.still st
  clear st
  rw [hl, ctz_pow 32 _ k0] at hd3
  refine br_t (by rw [vEq_iff, hd2, hd3]; simp) ?_
  refine CallP.mk (Fc.imp (cclz32 (Lw) E (T.below E.below (Nat.le_refl _))) ?_)
  rintro _ w8 ⟨⟨d4, rfl, hd4⟩, st⟩
  replace E := E.still st
  clear st
  rw [hl, blen_pow] at hd4
  refine CallP.mk (Fc.imp (cctz32 (Lw) E (T.below E.below (Nat.le_refl _))) ?_)
  rintro _ w8 ⟨⟨d5, rfl, hd5⟩, st⟩
  replace E := E.still st
  clear st
  rw [hl, ctz_pow 32 _ k0] at hd5
  refine br_t (by rw [vEq_iff, hd4, hd5, wi64 (by omega), wi64 (by decide), decide_eq_true_eq]; omega) ?_
  refine CallP.mk (Fc.imp (cclz32 (A) E (T.below E.below (Nat.le_refl _))) ?_)
  rintro _ w8 ⟨⟨d6, rfl, hd6⟩, st⟩
  replace E := E.still st
  clear st
  refine CallP.mk (Fc.imp (cclz32 (Lw) E (T.below E.below (Nat.le_refl _))) ?_)
  rintro _ w8 ⟨⟨d7, rfl, hd7⟩, st⟩
  replace E := E.still st
  clear st
  rw [hl, blen_pow] at hd7
  refine br_t (by rw [vLe_iff, hd6, hd7, decide_eq_true_eq]; omega) ?_
  refine CallP.mk (Fc.imp (cclz32 (A) E (T.below E.below (Nat.le_refl _))) ?_)
  rintro _ w8 ⟨⟨d8, rfl, hd8⟩, st⟩
  replace E := E.still st
  clear st
  refine rBoolEq rfl ?_
  refine Done.mk ⟨congrArg Value.bool ?_, E.below⟩
  have hneg : A.toInt < 0 ↔ blen A.toNat = 32 := by
    rw [BitVec.toInt_eq_toNat_cond]
    constructor
    · intro h
      have : 2 ^ 31 ≤ A.toNat := by split at h <;> omega
      have h2 := Bm.blen_shift this
      have : 0 < A.toNat / 2 ^ 31 := Nat.div_pos this (by decide)
      have h4 : 0 < blen (A.toNat / 2 ^ 31) := by unfold Bm.blen; rw [if_neg (by omega)]; omega
      omega
    · intro h
      have : ¬ A.toNat < 2 ^ 31 := fun hh => by
        have := Bm.blen_le hh
        omega
      split <;> omega
  rw [vEq_iff, vLt_iff, hd8, beq_iff_eq, decide_eq_decide, hneg]
  omega
theorem cclz64 (X : BitVec 64) {w0 : World} {b : Nat} {w : World} (E : Env true w0 b w) (T : Bm.Tabs w) : Fc Tryd.prog 11 #[.int .u8 103, .int .i64 X.toInt, .pointer (some ⟨b, 0, none⟩)] w (fun v w' => (∃ r, v = .int .i64 r ∧ r = 64 - (blen X.toNat : Int)) ∧ Still w w') := by
  refine Fc.of Tryd.func11 rfl (by kernel_rfl) ?_
  refine rLoad0 E.at_ rfl rfl ?_
  refine cT (rfl) ?_
  refine CallP.mk (Fc.imp (Fc.arg (one 121 _ _ T) (by rw [wu8 (by decide)]; rfl)) ?_)
  rintro _ w1 ⟨⟨r, rfl, hr⟩, st⟩
  exact Done.mk ⟨⟨r, rfl, by rw [hr, oneS, if_neg (by decide), if_neg (by decide), if_neg (by decide), if_neg (by decide), if_neg (by decide), if_pos rfl, u64_int, Int.toNat_natCast]⟩, st⟩
theorem cctz64 (X : BitVec 64) {w0 : World} {b : Nat} {w : World} (E : Env true w0 b w) (T : Bm.Tabs w) : Fc Tryd.prog 11 #[.int .u8 104, .int .i64 X.toInt, .pointer (some ⟨b, 0, none⟩)] w (fun v w' => (∃ r, v = .int .i64 r ∧ r = (ctz 64 X.toNat : Int)) ∧ Still w w') := by
  refine Fc.of Tryd.func11 rfl (by kernel_rfl) ?_
  refine rLoad0 E.at_ rfl rfl ?_
  refine cT (rfl) ?_
  refine CallP.mk (Fc.imp (Fc.arg (one 122 _ _ T) (by rw [wu8 (by decide)]; rfl)) ?_)
  rintro _ w1 ⟨⟨r, rfl, hr⟩, st⟩
  exact Done.mk ⟨⟨r, rfl, by rw [hr, oneS, if_neg (by decide), if_neg (by decide), if_neg (by decide), if_neg (by decide), if_neg (by decide), if_neg (by decide), if_pos rfl, u64_int, Int.toNat_natCast]⟩, st⟩
theorem cpop64 (X : BitVec 64) {w0 : World} {b : Nat} {w : World} (E : Env true w0 b w) (T : Bm.Tabs w) : Fc Tryd.prog 11 #[.int .u8 105, .int .i64 X.toInt, .pointer (some ⟨b, 0, none⟩)] w (fun v w' => (∃ r, v = .int .i64 r ∧ r = (popF 64 X.toNat : Int)) ∧ Still w w') := by
  refine Fc.of Tryd.func11 rfl (by kernel_rfl) ?_
  refine rLoad0 E.at_ rfl rfl ?_
  refine cT (rfl) ?_
  refine CallP.mk (Fc.imp (Fc.arg (one 123 _ _ T) (by rw [wu8 (by decide)]; rfl)) ?_)
  rintro _ w1 ⟨⟨r, rfl, hr⟩, st⟩
  exact Done.mk ⟨⟨r, rfl, by rw [hr, oneS, if_neg (by decide), if_neg (by decide), if_neg (by decide), if_neg (by decide), if_neg (by decide), if_neg (by decide), if_neg (by decide), if_pos rfl, u64_int, Int.toNat_natCast]⟩, st⟩
theorem numCounts64 (a b : Int) (ha : -9223372036854775808 ≤ a ∧ a ≤ 9223372036854775807) (hb : -9223372036854775808 ≤ b ∧ b ≤ 9223372036854775807) (w : World) (T : Bm.Tabs w) : Fc Tryd.prog 4 #[.int .i64 a, .int .i64 b, .bool true] w (fun v w' => v = .bool true ∧ Below w.heap.size w w') := by
  refine Fc.of Tryd.func4 rfl (by kernel_rfl) ?_
  refine rBox ?_
  intro w1 n1
  refine rLoad0 n1.blk.at rfl rfl ?_
  refine rBuildSlice (z := .int .i64 0) (sz := 1) rfl rfl rfl (by decide) ?_
  intro w2 n2
  obtain ⟨A, ea⟩ := fit64 a ha
  obtain ⟨B, eb⟩ := fit64 b hb
  refine CallP.mk (Fc.imp (fits true w1.heap.size [a, b] [A.toInt, B.toInt] 2 rfl (by simp only [List.map, ea, eb]) (by decide) _ w2 n2.blk) ?_)
  rintro _ w3 ⟨rfl, b3, u3⟩
  have k1 : At w3 w.heap.size 0 [.bool true] := (n1.blk.at.below n2.below (by rw [n1.size]; omega)).keep (u3.block _ (by rw [n1.size]; omega))
  have g3 : Below w.heap.size w w3 := u3.below (n1.below.trans (n2.below.mono (by rw [n1.size]; omega))) (by rw [n1.size]; omega)
  refine draw (fun wx => Blk wx w1.heap.size (List.map (Value.int .i64) [A.toInt, B.toInt]) 2) [(0, true), (1, true), (2, true), (3, true), (4, true), (5, true), (6, true), (7, true)] Bm.mixed (by kernel_rfl) (fun w4 h4 => ⟨by rw [h4]; exact b3, ?_⟩)
  refine tk (fun wx hS => rIdx 1 0 0 rfl (by decide) rfl rfl rfl ⟨rfl, rfl⟩) ?_
  refine tk (v := .int .i64 A.toInt) (fun wx hS => rLoadC (hS.at.cell (i := 0) rfl) rfl rfl ⟨rfl, rfl⟩) ?_
  refine tk (fun wx hS => rIdx 1 1 1 rfl (by decide) rfl rfl rfl ⟨rfl, rfl⟩) ?_
  refine tk (v := .int .i64 B.toInt) (fun wx hS => rLoadC (hS.at.cell (i := 1) rfl) rfl rfl ⟨rfl, rfl⟩) ?_
  have E : Env true w w.heap.size w4 := (⟨g3, k1⟩ : Env true w w.heap.size w3).still (by rw [h4]; exact Still.drew _)
  refine rLoad0 E.at_ rfl rfl ?_
  refine cT (rfl) ?_
  refine draws (fun wx => Env true w w.heap.size wx) [(0, true), (2, true), (3, true), (5, true), (7, true), (8, true), (1, false), (4, false), (6, false), (9, false), (10, true), (11, true)] Bm.mixed (by kernel_rfl) (fun w9 h9 => ⟨E.still (by rw [h9]; exact Still.drew _), ?_⟩)
  replace E := E.still (by rw [h9]; exact Still.drew _ : Still _ w9)
  clear h9
  refine tk (fun wx hS => rLoad0 hS.at_ rfl rfl ⟨rfl, rfl⟩) ?_
  refine tk (fun wx hS => rLoad0 hS.at_ rfl rfl ⟨rfl, rfl⟩) ?_
  refine CallP.mk (Fc.imp (width 113 true (by decide) _) ?_)
  rintro _ _ ⟨⟨r1, rfl, hr1⟩, rfl⟩
  refine KeepP.mk (E) ?_
  refine CallP.mk (Fc.imp (two r1 (A).toInt (B).toInt (by rw [hr1]; decide) (rngI64 _) (rngI64 _) _) ?_)
  rintro _ w8 ⟨⟨s1, rfl, hs1⟩, st⟩
  replace E := E.still st
  clear st
  refine KeepP.mk (E) ?_
  rw [hr1, show widthS 113 true = 124 + 7 from rfl, rk64 (A) (B) (by omega) (a64_7 _ _)] at hs1
  subst hs1
  refine CallP.mk (Fc.imp (width 114 true (by decide) _) ?_)
  rintro _ _ ⟨⟨r2, rfl, hr2⟩, rfl⟩
  refine KeepP.mk (E) ?_
  refine CallP.mk (Fc.imp (two r2 (A).toInt (B).toInt (by rw [hr2]; decide) (rngI64 _) (rngI64 _) _) ?_)
  rintro _ w8 ⟨⟨s2, rfl, hs2⟩, st⟩
  replace E := E.still st
  clear st
  refine KeepP.mk (E) ?_
  rw [hr2, show widthS 114 true = 124 + 8 from rfl, rk64 (A) (B) (by omega) (a64_8 _ _)] at hs2
  subst hs2
  refine draws (fun wx => Env true w w.heap.size wx) [(0, true), (2, true), (3, true), (5, true), (1, false), (4, false), (6, false), (7, false), (8, true)] Bm.mixed (by kernel_rfl) (fun w9 h9 => ⟨E.still (by rw [h9]; exact Still.drew _), ?_⟩)
  replace E := E.still (by rw [h9]; exact Still.drew _ : Still _ w9)
  clear h9
  refine tk (fun wx hS => rLoad0 hS.at_ rfl rfl ⟨rfl, rfl⟩) ?_
  refine tk (fun wx hS => rLoad0 hS.at_ rfl rfl ⟨rfl, rfl⟩) ?_
  refine CallP.mk (Fc.imp (width 113 true (by decide) _) ?_)
  rintro _ _ ⟨⟨r3, rfl, hr3⟩, rfl⟩
  refine KeepP.mk (E) ?_
  refine CallP.mk (Fc.imp (width 107 true (by decide) _) ?_)
  rintro _ _ ⟨⟨r4, rfl, hr4⟩, rfl⟩
  refine KeepP.mk (E) ?_
  refine CallP.mk (Fc.imp (Fc.arg (two r4 (0#64).toInt (A).toInt (by rw [hr4]; decide) (rngI64 _) (rngI64 _) _) (by rfl)) ?_)
  rintro _ w8 ⟨⟨s4, rfl, hs4⟩, st⟩
  replace E := E.still st
  clear st
  refine KeepP.mk (E) ?_
  rw [hr4, show widthS 107 true = 124 + 1 from rfl, rk64 (0#64) (A) (by omega) (a64_1 _ _)] at hs4
  subst hs4
  refine CallP.mk (Fc.imp (two r3 (A).toInt (0#64 - A).toInt (by rw [hr3]; decide) (rngI64 _) (rngI64 _) _) ?_)
  rintro _ w8 ⟨⟨s3, rfl, hs3⟩, st⟩
  replace E := E.still st
  clear st
  refine KeepP.mk (E) ?_
  rw [hr3, show widthS 113 true = 124 + 7 from rfl, rk64 (A) (0#64 - A) (by omega) (a64_7 _ _)] at hs3
  subst hs3
  have hA := A.isLt
  have e1 := pop_and_or 64 A.toNat B.toNat
  rw [← BitVec.toNat_and, ← BitVec.toNat_or] at e1
  have e2 := pop_not 64 A.toNat hA
  rw [show 2 ^ 64 - 1 - A.toNat = (A ^^^ (-1#64)).toNat by rw [show (-1#64) = BitVec.allOnes 64 from rfl, BitVec.xor_allOnes, BitVec.toNat_not]] at e2
  have p1 := Bm.popF_le 64 (A &&& B).toNat
  have p2 := Bm.popF_le 64 (A ||| B).toNat
  have p3 := Bm.popF_le 64 A.toNat
  have p4 := Bm.popF_le 64 B.toNat
  have p5 := Bm.popF_le 64 (A ^^^ (-1#64)).toNat
  obtain ⟨Lw, hLw⟩ : ∃ L, L = A &&& (0#64 - A) := ⟨_, rfl⟩
  rw [← hLw]
  refine draws (fun wx => Env true w w.heap.size wx) [(0, true), (1, true), (3, true), (4, true), (7, true), (8, true), (10, true), (11, true), (2, false), (5, false), (6, true), (9, false), (12, false), (13, true), (14, true), (15, true), (16, true), (17, true), (19, true), (20, true), (22, true), (26, true), (18, false), (21, false), (23, false), (24, false), (25, true), (27, true), (28, true)] Bm.mixed (by kernel_rfl) (fun w9 h9 => ⟨E.still (by rw [h9]; exact Still.drew _), ?_⟩)
  replace E := E.still (by rw [h9]; exact Still.drew _ : Still _ w9)
  clear h9
  refine CallP.mk (Fc.imp (cpop64 (A &&& B) E (T.below E.below (Nat.le_refl _))) ?_)
  rintro _ w8 ⟨⟨c1, rfl, hc1⟩, st⟩
  replace E := E.still st
  clear st
  refine KeepP.mk (E) ?_
  refine CallP.mk (Fc.imp (cpop64 (A ||| B) E (T.below E.below (Nat.le_refl _))) ?_)
  rintro _ w8 ⟨⟨c2, rfl, hc2⟩, st⟩
  replace E := E.still st
  clear st
  refine KeepP.mk (E) ?_
  refine CallP.mk (Fc.imp (cpop64 (A) E (T.below E.below (Nat.le_refl _))) ?_)
  rintro _ w8 ⟨⟨c3, rfl, hc3⟩, st⟩
  replace E := E.still st
  clear st
  refine KeepP.mk (E) ?_
  refine CallP.mk (Fc.imp (cpop64 (B) E (T.below E.below (Nat.le_refl _))) ?_)
  rintro _ w8 ⟨⟨c4, rfl, hc4⟩, st⟩
  replace E := E.still st
  clear st
  refine KeepP.mk (E) ?_
  refine br_f (by rw [vNe_iff, hc1, hc2, hc3, hc4, wi64 (by omega), wi64 (by omega), Bool.not_eq_false', decide_eq_true_eq]; omega) ?_
  refine tk (fun wx hS => rLoad0 hS.at_ rfl rfl ⟨rfl, rfl⟩) ?_
  refine CallP.mk (Fc.imp (cpop64 (A) E (T.below E.below (Nat.le_refl _))) ?_)
  rintro _ w8 ⟨⟨c5, rfl, hc5⟩, st⟩
  replace E := E.still st
  clear st
  refine KeepP.mk (E) ?_
  refine CallP.mk (Fc.imp (width 115 true (by decide) _) ?_)
  rintro _ _ ⟨⟨r5, rfl, hr5⟩, rfl⟩
  refine KeepP.mk (E) ?_
  refine CallP.mk (Fc.imp (Fc.arg (two r5 (A).toInt (-1#64).toInt (by rw [hr5]; decide) (rngI64 _) (rngI64 _) _) (by rfl)) ?_)
  rintro _ w8 ⟨⟨s5, rfl, hs5⟩, st⟩
  replace E := E.still st
  clear st
  refine KeepP.mk (E) ?_
  rw [hr5, show widthS 115 true = 124 + 9 from rfl, rk64 (A) (-1#64) (by omega) (a64_9 _ _)] at hs5
  subst hs5
  refine CallP.mk (Fc.imp (cpop64 (A ^^^ (-1#64)) E (T.below E.below (Nat.le_refl _))) ?_)
  rintro _ w8 ⟨⟨c6, rfl, hc6⟩, st⟩
  replace E := E.still st
  clear st
  refine KeepP.mk (E) ?_
  refine cF (by rw [vNe_iff, hc5, hc6, wi64 (by omega), Bool.not_eq_false', decide_eq_true_eq]; omega) ?_
  refine cI (fun h0 => ?_) (fun h0 => ?_)
  · have h0 := vEq_t h0
    have hz : A.toNat = 0 := by
      have := BitVec.toInt_eq_toNat_cond A
      rw [h0] at this
      split at this <;> omega
    refine CallP.mk (Fc.imp (cclz64 (A) E (T.below E.below (Nat.le_refl _))) ?_)
    rintro _ w8 ⟨⟨d1, rfl, hd1⟩, st⟩
    replace E := E.still st
    clear st
    refine br_t (by rw [vEq_iff, hd1, hz]; rfl) ?_
    refine CallP.mk (Fc.imp (cctz64 (A) E (T.below E.below (Nat.le_refl _))) ?_)
    rintro _ w8 ⟨⟨d2, rfl, hd2⟩, st⟩
    replace E := E.still st
    clear st
    exact Done.mk ⟨congrArg Value.bool (by rw [vEq_iff, hd2, hz]; rfl), E.below⟩
  have h0 := vEq_f h0
  have hz : A.toNat ≠ 0 := by
    intro e; apply h0
    have := BitVec.toInt_eq_toNat_cond A
    rw [e] at this; simpa using this
  have hl : Lw.toNat = 2 ^ ctz 64 A.toNat := by
    rw [hLw, BitVec.toNat_and, BitVec.toNat_sub, BitVec.toNat_ofNat, Nat.zero_mod, Nat.add_zero, Nat.mod_eq_of_lt (by omega), Bm.low_one 64 A.toNat hz hA]
  have k0 := Bm.ctz_lt hz hA
  have k1 := ctz_lt_blen 64 A.toNat hz hA
  have k2 := Bm.blen_le hA
  refine CallP.mk (Fc.imp (cpop64 (Lw) E (T.below E.below (Nat.le_refl _))) ?_)
  rintro _ w8 ⟨⟨d1, rfl, hd1⟩, st⟩
  replace E := E.still st
  clear st
  rw [hl, pop_pow 64 _ k0] at hd1
  refine br_t (by rw [vEq_iff, hd1]; rfl) ?_
  refine CallP.mk (Fc.imp (cctz64 (A) E (T.below E.below (Nat.le_refl _))) ?_)
  rintro _ w8 ⟨⟨d2, rfl, hd2⟩, st⟩
  replace E := E.still st
  clear st
  refine CallP.mk (Fc.imp (cctz64 (Lw) E (T.below E.below (Nat.le_refl _))) ?_)
  rintro _ w8 ⟨⟨d3, rfl, hd3⟩, st⟩
  replace E := E.still st
  clear st
  rw [hl, ctz_pow 64 _ k0] at hd3
  refine br_t (by rw [vEq_iff, hd2, hd3]; simp) ?_
  refine CallP.mk (Fc.imp (cclz64 (Lw) E (T.below E.below (Nat.le_refl _))) ?_)
  rintro _ w8 ⟨⟨d4, rfl, hd4⟩, st⟩
  replace E := E.still st
  clear st
  rw [hl, blen_pow] at hd4
  refine CallP.mk (Fc.imp (cctz64 (Lw) E (T.below E.below (Nat.le_refl _))) ?_)
  rintro _ w8 ⟨⟨d5, rfl, hd5⟩, st⟩
  replace E := E.still st
  clear st
  rw [hl, ctz_pow 64 _ k0] at hd5
  refine br_t (by rw [vEq_iff, hd4, hd5, wi64 (by omega), wi64 (by decide), decide_eq_true_eq]; omega) ?_
  refine CallP.mk (Fc.imp (cclz64 (A) E (T.below E.below (Nat.le_refl _))) ?_)
  rintro _ w8 ⟨⟨d6, rfl, hd6⟩, st⟩
  replace E := E.still st
  clear st
  refine CallP.mk (Fc.imp (cclz64 (Lw) E (T.below E.below (Nat.le_refl _))) ?_)
  rintro _ w8 ⟨⟨d7, rfl, hd7⟩, st⟩
  replace E := E.still st
  clear st
  rw [hl, blen_pow] at hd7
  refine br_t (by rw [vLe_iff, hd6, hd7, decide_eq_true_eq]; omega) ?_
  refine CallP.mk (Fc.imp (cclz64 (A) E (T.below E.below (Nat.le_refl _))) ?_)
  rintro _ w8 ⟨⟨d8, rfl, hd8⟩, st⟩
  replace E := E.still st
  clear st
  refine rBoolEq rfl ?_
  refine Done.mk ⟨congrArg Value.bool ?_, E.below⟩
  have hneg : A.toInt < 0 ↔ blen A.toNat = 64 := by
    rw [BitVec.toInt_eq_toNat_cond]
    constructor
    · intro h
      have : 2 ^ 63 ≤ A.toNat := by split at h <;> omega
      have h2 := Bm.blen_shift this
      have : 0 < A.toNat / 2 ^ 63 := Nat.div_pos this (by decide)
      have h4 : 0 < blen (A.toNat / 2 ^ 63) := by unfold Bm.blen; rw [if_neg (by omega)]; omega
      omega
    · intro h
      have : ¬ A.toNat < 2 ^ 63 := fun hh => by
        have := Bm.blen_le hh
        omega
      split <;> omega
  rw [vEq_iff, vLt_iff, hd8, beq_iff_eq, decide_eq_decide, hneg]
  omega
theorem numCounts (a b : Int) (wide : Bool) (ha : -9223372036854775808 ≤ a ∧ a ≤ 9223372036854775807) (hb : -9223372036854775808 ≤ b ∧ b ≤ 9223372036854775807) (w : World) (T : Bm.Tabs w) : Fc Tryd.prog 4 #[.int .i64 a, .int .i64 b, .bool wide] w (fun v w' => v = .bool true ∧ Below w.heap.size w w') := by
  cases wide
  · exact numCounts32 a b ha hb w T
  · exact numCounts64 a b ha hb w T
end Go.Proofs.YtobepdjhihjcdaaDoor.Num
