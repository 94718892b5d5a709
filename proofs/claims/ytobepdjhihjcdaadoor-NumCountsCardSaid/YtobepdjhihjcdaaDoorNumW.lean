/- The walks of package num: what each function computes. -/
import Derived.Test.YtobepdjhihjcdaaDoorNumM
import Derived.Test.YtobepdjhihjcdaaDoorDraw
import Derived.Test.YtobepdjhihjcdaaDoorRows
set_option maxRecDepth 100000
set_option linter.unusedVariables false
namespace Go.Proofs.YtobepdjhihjcdaaDoor.Num
open Go Go.Proofs.YtobepdjhihjcdaaDoor.Eng Go.RowKit
theorem mixed : (Tryd.prog).follows .mixedOrders = true := by kernel_rfl
theorem truth (b : Bool) (w : World) : Fc Tryd.prog 22 #[.bool b] w (fun v w' => (∃ r, v = .int .i64 r ∧ r = b2i b) ∧ Still w w') := by
  refine Fc.of Tryd.func22 rfl (by kernel_rfl) ?_
  refine cI (fun h => ?_) (fun h => ?_)
  · exact Done.mk ⟨⟨_, rfl, by rw [h]; rfl⟩, Still.refl _⟩
  · exact Done.mk ⟨⟨_, rfl, by rw [h]; rfl⟩, Still.refl _⟩
theorem reckon32 (which a b : Int) (hb : 0 ≤ b ∧ b ≤ 4294967295) (w : World) : Fc Tryd.prog 20 #[.int .u8 which, .int .u32 a, .int .u32 b, .int .i64 32] w
    (fun v w' => (∃ r, v = .int .u32 r ∧ r = rkS .u32 32 which a b) ∧ Still w w') := by
  refine Fc.of Tryd.func20 rfl (by kernel_rfl) ?_
  have hn0 : 0 ≤ b % 32 := Int.emod_nonneg _ (by decide)
  have hn1 : b % 32 < 32 := Int.emod_lt_of_pos _ (by decide)
  have hm : vAnd .u32 b 31 = b % 32 := vAnd_mask .u32 b 5 (by decide)
  refine rConvIntE 31 (by rw [wi64 (by omega), wu32 (by omega)]; rfl) rfl rfl ?_
  refine rConvIntE (b % 32) (by rw [hm, wi64 (by omega)]) rfl rfl ?_
  refine bk ?_
  refine cI (fun h0 => ?_) (fun h0 => ?_)
  · have h0 := vEq_t h0
    exact Done.mk ⟨⟨_, rfl, by rw [rkS, if_pos h0]⟩, Still.refl _⟩
  have h0 := vEq_f h0
  refine cI (fun h1 => ?_) (fun h1 => ?_)
  · have h1 := vEq_t h1
    exact Done.mk ⟨⟨_, rfl, by rw [rkS, if_neg h0, if_pos h1]⟩, Still.refl _⟩
  have h1 := vEq_f h1
  refine cI (fun h2 => ?_) (fun h2 => ?_)
  · have h2 := vEq_t h2
    exact Done.mk ⟨⟨_, rfl, by rw [rkS, if_neg h0, if_neg h1, if_pos h2]⟩, Still.refl _⟩
  have h2 := vEq_f h2
  refine cI (fun h7 => ?_) (fun h7 => ?_)
  · have h7 := vEq_t h7
    exact Done.mk ⟨⟨_, rfl, by rw [rkS, if_neg h0, if_neg h1, if_neg h2, if_pos h7]⟩, Still.refl _⟩
  have h7 := vEq_f h7
  refine cI (fun h8 => ?_) (fun h8 => ?_)
  · have h8 := vEq_t h8
    exact Done.mk ⟨⟨_, rfl, by rw [rkS, if_neg h0, if_neg h1, if_neg h2, if_neg h7, if_pos h8]⟩, Still.refl _⟩
  have h8 := vEq_f h8
  refine cI (fun h9 => ?_) (fun h9 => ?_)
  · have h9 := vEq_t h9
    exact Done.mk ⟨⟨_, rfl, by rw [rkS, if_neg h0, if_neg h1, if_neg h2, if_neg h7, if_neg h8, if_pos h9]⟩, Still.refl _⟩
  have h9 := vEq_f h9
  refine cI (fun h10 => ?_) (fun h10 => ?_)
  · have h10 := vEq_t h10
    refine ShiftP.mk hn0 ?_
    exact Done.mk ⟨⟨_, rfl, by rw [rkS, if_neg h0, if_neg h1, if_neg h2, if_neg h7, if_neg h8, if_neg h9, if_pos h10]⟩, Still.refl _⟩
  have h10 := vEq_f h10
  refine cI (fun h11 => ?_) (fun h11 => ?_)
  · have h11 := vEq_t h11
    refine ShiftP.mk hn0 ?_
    refine br (fun g0 => ?_) (fun g0 => ?_)
    · have g0 := vLt_t g0
      refine ShiftP.mk (by rw [wi64 (by omega)]; omega) ?_
      refine cI (fun g1 => ?_) (fun g1 => ?_)
      · have g1 := vNe_t g1
        rw [wi64 (by omega)] at g1
        refine rConvIntE 0 (by rw [wu32 (by omega)]) rfl rfl ?_
        refine rCompl 4294967295 (by kernel_rfl) ?_
        refine ShiftP.mk (by rw [wi64 (by omega)]; omega) ?_
        exact Done.mk ⟨⟨_, rfl, by rw [rkS, if_neg h0, if_neg h1, if_neg h2, if_neg h7, if_neg h8, if_neg h9, if_neg h10, if_pos h11, if_pos ⟨g0, g1⟩, wi64 (by omega)]; rfl⟩, Still.refl _⟩
      · have g1 := vNe_f g1
        rw [wi64 (by omega)] at g1
        exact Done.mk ⟨⟨_, rfl, by rw [rkS, if_neg h0, if_neg h1, if_neg h2, if_neg h7, if_neg h8, if_neg h9, if_neg h10, if_pos h11, if_neg (fun g => g.2 g1)]⟩, Still.refl _⟩
    · have g0 := vLt_f g0
      refine cF rfl ?_
      exact Done.mk ⟨⟨_, rfl, by rw [rkS, if_neg h0, if_neg h1, if_neg h2, if_neg h7, if_neg h8, if_neg h9, if_neg h10, if_pos h11, if_neg (fun g => by omega)]⟩, Still.refl _⟩
  have h11 := vEq_f h11
  refine cI (fun h12 => ?_) (fun h12 => ?_)
  · have h12 := vEq_t h12
    refine ShiftP.mk hn0 ?_
    exact Done.mk ⟨⟨_, rfl, by rw [rkS, if_neg h0, if_neg h1, if_neg h2, if_neg h7, if_neg h8, if_neg h9, if_neg h10, if_neg h11, if_pos h12]⟩, Still.refl _⟩
  have h12 := vEq_f h12
  refine cI (fun h13 => ?_) (fun h13 => ?_)
  · have h13 := vEq_t h13
    refine draw (fun _ => True) [(0, true), (1, true), (2, true), (3, true), (4, true), (5, true), (6, true), (7, true), (8, true), (9, true)] mixed (by kernel_rfl) (fun w1 hw1 => ⟨trivial, ?_⟩)
    refine ShiftP.mk hn0 ?_
    refine ShiftP.mk (by rw [wi64 (by omega)]; omega) ?_
    exact Done.mk ⟨⟨_, rfl, by rw [rkS, if_neg h0, if_neg h1, if_neg h2, if_neg h7, if_neg h8, if_neg h9, if_neg h10, if_neg h11, if_neg h12, if_pos h13, wi64 (by omega)]⟩, by rw [hw1]; exact Still.drew _⟩
  have h13 := vEq_f h13
  refine draw (fun _ => True) [(0, true), (1, true), (2, true), (3, true), (4, true), (5, true), (6, true), (7, true), (8, true), (9, true)] mixed (by kernel_rfl) (fun w1 hw1 => ⟨trivial, ?_⟩)
  refine ShiftP.mk hn0 ?_
  refine ShiftP.mk (by rw [wi64 (by omega)]; omega) ?_
  exact Done.mk ⟨⟨_, rfl, by rw [rkS, if_neg h0, if_neg h1, if_neg h2, if_neg h7, if_neg h8, if_neg h9, if_neg h10, if_neg h11, if_neg h12, if_neg h13, wi64 (by omega)]⟩, by rw [hw1]; exact Still.drew _⟩
theorem reckon64 (which a b : Int) (hb : 0 ≤ b ∧ b ≤ 18446744073709551615) (w : World) : Fc Tryd.prog 21 #[.int .u8 which, .int .u64 a, .int .u64 b, .int .i64 64] w
    (fun v w' => (∃ r, v = .int .u64 r ∧ r = rkS .u64 64 which a b) ∧ Still w w') := by
  refine Fc.of Tryd.func21 rfl (by kernel_rfl) ?_
  have hn0 : 0 ≤ b % 64 := Int.emod_nonneg _ (by decide)
  have hn1 : b % 64 < 64 := Int.emod_lt_of_pos _ (by decide)
  have hm : vAnd .u64 b 63 = b % 64 := vAnd_mask .u64 b 6 (by decide)
  refine rConvIntE 63 (by rw [wi64 (by omega), wu64 (by omega)]; rfl) rfl rfl ?_
  refine rConvIntE (b % 64) (by rw [hm, wi64 (by omega)]) rfl rfl ?_
  refine bk ?_
  refine cI (fun h0 => ?_) (fun h0 => ?_)
  · have h0 := vEq_t h0
    exact Done.mk ⟨⟨_, rfl, by rw [rkS, if_pos h0]⟩, Still.refl _⟩
  have h0 := vEq_f h0
  refine cI (fun h1 => ?_) (fun h1 => ?_)
  · have h1 := vEq_t h1
    exact Done.mk ⟨⟨_, rfl, by rw [rkS, if_neg h0, if_pos h1]⟩, Still.refl _⟩
  have h1 := vEq_f h1
  refine cI (fun h2 => ?_) (fun h2 => ?_)
  · have h2 := vEq_t h2
    exact Done.mk ⟨⟨_, rfl, by rw [rkS, if_neg h0, if_neg h1, if_pos h2]⟩, Still.refl _⟩
  have h2 := vEq_f h2
  refine cI (fun h7 => ?_) (fun h7 => ?_)
  · have h7 := vEq_t h7
    exact Done.mk ⟨⟨_, rfl, by rw [rkS, if_neg h0, if_neg h1, if_neg h2, if_pos h7]⟩, Still.refl _⟩
  have h7 := vEq_f h7
  refine cI (fun h8 => ?_) (fun h8 => ?_)
  · have h8 := vEq_t h8
    exact Done.mk ⟨⟨_, rfl, by rw [rkS, if_neg h0, if_neg h1, if_neg h2, if_neg h7, if_pos h8]⟩, Still.refl _⟩
  have h8 := vEq_f h8
  refine cI (fun h9 => ?_) (fun h9 => ?_)
  · have h9 := vEq_t h9
    exact Done.mk ⟨⟨_, rfl, by rw [rkS, if_neg h0, if_neg h1, if_neg h2, if_neg h7, if_neg h8, if_pos h9]⟩, Still.refl _⟩
  have h9 := vEq_f h9
  refine cI (fun h10 => ?_) (fun h10 => ?_)
  · have h10 := vEq_t h10
    refine ShiftP.mk hn0 ?_
    exact Done.mk ⟨⟨_, rfl, by rw [rkS, if_neg h0, if_neg h1, if_neg h2, if_neg h7, if_neg h8, if_neg h9, if_pos h10]⟩, Still.refl _⟩
  have h10 := vEq_f h10
  refine cI (fun h11 => ?_) (fun h11 => ?_)
  · have h11 := vEq_t h11
    refine ShiftP.mk hn0 ?_
    refine br (fun g0 => ?_) (fun g0 => ?_)
    · have g0 := vLt_t g0
      refine ShiftP.mk (by rw [wi64 (by omega)]; omega) ?_
      refine cI (fun g1 => ?_) (fun g1 => ?_)
      · have g1 := vNe_t g1
        rw [wi64 (by omega)] at g1
        refine rConvIntE 0 (by rw [wu64 (by omega)]) rfl rfl ?_
        refine rCompl 18446744073709551615 (by kernel_rfl) ?_
        refine ShiftP.mk (by rw [wi64 (by omega)]; omega) ?_
        exact Done.mk ⟨⟨_, rfl, by rw [rkS, if_neg h0, if_neg h1, if_neg h2, if_neg h7, if_neg h8, if_neg h9, if_neg h10, if_pos h11, if_pos ⟨g0, g1⟩, wi64 (by omega)]; rfl⟩, Still.refl _⟩
      · have g1 := vNe_f g1
        rw [wi64 (by omega)] at g1
        exact Done.mk ⟨⟨_, rfl, by rw [rkS, if_neg h0, if_neg h1, if_neg h2, if_neg h7, if_neg h8, if_neg h9, if_neg h10, if_pos h11, if_neg (fun g => g.2 g1)]⟩, Still.refl _⟩
    · have g0 := vLt_f g0
      refine cF rfl ?_
      exact Done.mk ⟨⟨_, rfl, by rw [rkS, if_neg h0, if_neg h1, if_neg h2, if_neg h7, if_neg h8, if_neg h9, if_neg h10, if_pos h11, if_neg (fun g => by omega)]⟩, Still.refl _⟩
  have h11 := vEq_f h11
  refine cI (fun h12 => ?_) (fun h12 => ?_)
  · have h12 := vEq_t h12
    refine ShiftP.mk hn0 ?_
    exact Done.mk ⟨⟨_, rfl, by rw [rkS, if_neg h0, if_neg h1, if_neg h2, if_neg h7, if_neg h8, if_neg h9, if_neg h10, if_neg h11, if_pos h12]⟩, Still.refl _⟩
  have h12 := vEq_f h12
  refine cI (fun h13 => ?_) (fun h13 => ?_)
  · have h13 := vEq_t h13
    refine draw (fun _ => True) [(0, true), (1, true), (2, true), (3, true), (4, true), (5, true), (6, true), (7, true), (8, true), (9, true)] mixed (by kernel_rfl) (fun w1 hw1 => ⟨trivial, ?_⟩)
    refine ShiftP.mk hn0 ?_
    refine ShiftP.mk (by rw [wi64 (by omega)]; omega) ?_
    exact Done.mk ⟨⟨_, rfl, by rw [rkS, if_neg h0, if_neg h1, if_neg h2, if_neg h7, if_neg h8, if_neg h9, if_neg h10, if_neg h11, if_neg h12, if_pos h13, wi64 (by omega)]⟩, by rw [hw1]; exact Still.drew _⟩
  have h13 := vEq_f h13
  refine draw (fun _ => True) [(0, true), (1, true), (2, true), (3, true), (4, true), (5, true), (6, true), (7, true), (8, true), (9, true)] mixed (by kernel_rfl) (fun w1 hw1 => ⟨trivial, ?_⟩)
  refine ShiftP.mk hn0 ?_
  refine ShiftP.mk (by rw [wi64 (by omega)]; omega) ?_
  exact Done.mk ⟨⟨_, rfl, by rw [rkS, if_neg h0, if_neg h1, if_neg h2, if_neg h7, if_neg h8, if_neg h9, if_neg h10, if_neg h11, if_neg h12, if_neg h13, wi64 (by omega)]⟩, by rw [hw1]; exact Still.drew _⟩
theorem compare32 (which a b ua ub : Int) (w : World) : Fc Tryd.prog 16 #[.int .u8 which, .int .i32 a, .int .i32 b, .int .u32 ua, .int .u32 ub] w
    (fun v w' => (∃ r, v = .int .i64 r ∧ r = cmpS which a b ua ub) ∧ Still w w') := by
  refine Fc.of Tryd.func16 rfl (by kernel_rfl) ?_
  refine bk ?_
  refine cI (fun h0 => ?_) (fun h0 => ?_)
  · have h0 := vEq_t h0
    refine CallP.mk (Fc.imp (truth _ _) ?_)
    rintro _ w1 ⟨⟨r, rfl, hr⟩, hst⟩
    exact Done.mk ⟨⟨r, rfl, by rw [hr, cmpS, if_pos h0, vEq_iff]⟩, hst⟩
  have h0 := vEq_f h0
  refine cI (fun h1 => ?_) (fun h1 => ?_)
  · have h1 := vEq_t h1
    refine CallP.mk (Fc.imp (truth _ _) ?_)
    rintro _ w1 ⟨⟨r, rfl, hr⟩, hst⟩
    exact Done.mk ⟨⟨r, rfl, by rw [hr, cmpS, if_neg h0, if_pos h1, vNe_iff]⟩, hst⟩
  have h1 := vEq_f h1
  refine cI (fun h2 => ?_) (fun h2 => ?_)
  · have h2 := vEq_t h2
    refine CallP.mk (Fc.imp (truth _ _) ?_)
    rintro _ w1 ⟨⟨r, rfl, hr⟩, hst⟩
    exact Done.mk ⟨⟨r, rfl, by rw [hr, cmpS, if_neg h0, if_neg h1, if_pos h2, vLt_iff]⟩, hst⟩
  have h2 := vEq_f h2
  refine cI (fun h3 => ?_) (fun h3 => ?_)
  · have h3 := vEq_t h3
    refine CallP.mk (Fc.imp (truth _ _) ?_)
    rintro _ w1 ⟨⟨r, rfl, hr⟩, hst⟩
    exact Done.mk ⟨⟨r, rfl, by rw [hr, cmpS, if_neg h0, if_neg h1, if_neg h2, if_pos h3, vLt_iff]⟩, hst⟩
  have h3 := vEq_f h3
  refine cI (fun h4 => ?_) (fun h4 => ?_)
  · have h4 := vEq_t h4
    refine CallP.mk (Fc.imp (truth _ _) ?_)
    rintro _ w1 ⟨⟨r, rfl, hr⟩, hst⟩
    exact Done.mk ⟨⟨r, rfl, by rw [hr, cmpS, if_neg h0, if_neg h1, if_neg h2, if_neg h3, if_pos h4, vLt_iff]⟩, hst⟩
  have h4 := vEq_f h4
  refine cI (fun h5 => ?_) (fun h5 => ?_)
  · have h5 := vEq_t h5
    refine CallP.mk (Fc.imp (truth _ _) ?_)
    rintro _ w1 ⟨⟨r, rfl, hr⟩, hst⟩
    exact Done.mk ⟨⟨r, rfl, by rw [hr, cmpS, if_neg h0, if_neg h1, if_neg h2, if_neg h3, if_neg h4, if_pos h5, vLt_iff]⟩, hst⟩
  have h5 := vEq_f h5
  refine cI (fun h6 => ?_) (fun h6 => ?_)
  · have h6 := vEq_t h6
    refine CallP.mk (Fc.imp (truth _ _) ?_)
    rintro _ w1 ⟨⟨r, rfl, hr⟩, hst⟩
    exact Done.mk ⟨⟨r, rfl, by rw [hr, cmpS, if_neg h0, if_neg h1, if_neg h2, if_neg h3, if_neg h4, if_neg h5, if_pos h6, vLe_iff]⟩, hst⟩
  have h6 := vEq_f h6
  refine cI (fun h7 => ?_) (fun h7 => ?_)
  · have h7 := vEq_t h7
    refine CallP.mk (Fc.imp (truth _ _) ?_)
    rintro _ w1 ⟨⟨r, rfl, hr⟩, hst⟩
    exact Done.mk ⟨⟨r, rfl, by rw [hr, cmpS, if_neg h0, if_neg h1, if_neg h2, if_neg h3, if_neg h4, if_neg h5, if_neg h6, if_pos h7, vLe_iff]⟩, hst⟩
  have h7 := vEq_f h7
  refine cI (fun h8 => ?_) (fun h8 => ?_)
  · have h8 := vEq_t h8
    refine CallP.mk (Fc.imp (truth _ _) ?_)
    rintro _ w1 ⟨⟨r, rfl, hr⟩, hst⟩
    exact Done.mk ⟨⟨r, rfl, by rw [hr, cmpS, if_neg h0, if_neg h1, if_neg h2, if_neg h3, if_neg h4, if_neg h5, if_neg h6, if_neg h7, if_pos h8, vLe_iff]⟩, hst⟩
  have h8 := vEq_f h8
  refine CallP.mk (Fc.imp (truth _ _) ?_)
  rintro _ w1 ⟨⟨r, rfl, hr⟩, hst⟩
  exact Done.mk ⟨⟨r, rfl, by rw [hr, cmpS, if_neg h0, if_neg h1, if_neg h2, if_neg h3, if_neg h4, if_neg h5, if_neg h6, if_neg h7, if_neg h8, vLe_iff]⟩, hst⟩
theorem divide32 (which a b ua ub : Int) (ha : -2147483648 ≤ a ∧ a ≤ 2147483647) (hb : -2147483648 ≤ b ∧ b ≤ 2147483647) (hub : ub = vWrap .u32 b) (w : World) : Fc Tryd.prog 18 #[.int .u8 which, .int .i32 a, .int .i32 b, .int .u32 ua, .int .u32 ub] w
    (fun v w' => (∃ r e : Int, v = .tuple #[.int .i64 r, .int .i64 e] ∧ (r, e) = divS .i32 which a b ua ub) ∧ w = w') := by
  refine Fc.of Tryd.func18 rfl (by kernel_rfl) ?_
  refine cI (fun hz => ?_) (fun hz => ?_)
  · exact Done.mk ⟨⟨_, _, rfl, by rw [divS, if_pos (vEq_t hz)]⟩, rfl⟩
  have hz := vEq_f hz
  have hubz : ub ≠ 0 := by rw [hub]; exact wz32 hb hz
  refine bk ?_
  refine cI (fun h0 => ?_) (fun h0 => ?_)
  · have h0 := vEq_t h0
    refine br (fun e1 => ?_) (fun e1 => ?_)
    · have e1 := vEq_t e1
      refine br (fun e2 => ?_) (fun e2 => ?_)
      · have e2 := vNe_t e2
        refine cI (fun e3 => ?_) (fun e3 => ?_)
        · exact Done.mk ⟨⟨_, _, rfl, by rw [divS, if_neg hz, if_pos h0, if_pos ⟨e1, e2, vEq_t e3⟩]⟩, rfl⟩
        · have e3 := vEq_f e3
          refine DivP.mk hz ?_
          refine rConvInt rfl rfl ?_
          exact Done.mk ⟨⟨_, _, rfl, by rw [divS, if_neg hz, if_pos h0, if_neg (fun g => e3 g.2.2)]⟩, rfl⟩
      · have e2 := vNe_f e2
        refine cF rfl ?_
        refine DivP.mk hz ?_
        refine rConvInt rfl rfl ?_
        exact Done.mk ⟨⟨_, _, rfl, by rw [divS, if_neg hz, if_pos h0, if_neg (fun g => g.2.1 e2)]⟩, rfl⟩
    · have e1 := vEq_f e1
      refine cF rfl ?_
      refine DivP.mk hz ?_
      refine rConvInt rfl rfl ?_
      exact Done.mk ⟨⟨_, _, rfl, by rw [divS, if_neg hz, if_pos h0, if_neg (fun g => e1 g.1)]⟩, rfl⟩
  have h0 := vEq_f h0
  refine cI (fun h1 => ?_) (fun h1 => ?_)
  · have h1 := vEq_t h1
    refine DivP.mk hubz ?_
    refine rConvInt rfl rfl ?_
    exact Done.mk ⟨⟨_, _, rfl, by rw [divS, if_neg hz, if_neg h0, if_pos h1]; rfl⟩, rfl⟩
  have h1 := vEq_f h1
  refine cI (fun h2 => ?_) (fun h2 => ?_)
  · have h2 := vEq_t h2
    refine cI (fun e1 => ?_) (fun e1 => ?_)
    · exact Done.mk ⟨⟨_, _, rfl, by rw [divS, if_neg hz, if_neg h0, if_neg h1, if_pos h2, if_pos (vEq_t e1)]⟩, rfl⟩
    · have e1 := vEq_f e1
      refine DivP.mk hz ?_
      refine rConvInt rfl rfl ?_
      exact Done.mk ⟨⟨_, _, rfl, by rw [divS, if_neg hz, if_neg h0, if_neg h1, if_pos h2, if_neg e1]⟩, rfl⟩
  have h2 := vEq_f h2
  refine DivP.mk hubz ?_
  refine rConvInt rfl rfl ?_
  exact Done.mk ⟨⟨_, _, rfl, by rw [divS, if_neg hz, if_neg h0, if_neg h1, if_neg h2]⟩, rfl⟩
theorem compare64 (which a b ua ub : Int) (w : World) : Fc Tryd.prog 17 #[.int .u8 which, .int .i64 a, .int .i64 b, .int .u64 ua, .int .u64 ub] w
    (fun v w' => (∃ r, v = .int .i64 r ∧ r = cmpS which a b ua ub) ∧ Still w w') := by
  refine Fc.of Tryd.func17 rfl (by kernel_rfl) ?_
  refine bk ?_
  refine cI (fun h0 => ?_) (fun h0 => ?_)
  · have h0 := vEq_t h0
    refine CallP.mk (Fc.imp (truth _ _) ?_)
    rintro _ w1 ⟨⟨r, rfl, hr⟩, hst⟩
    exact Done.mk ⟨⟨r, rfl, by rw [hr, cmpS, if_pos h0, vEq_iff]⟩, hst⟩
  have h0 := vEq_f h0
  refine cI (fun h1 => ?_) (fun h1 => ?_)
  · have h1 := vEq_t h1
    refine CallP.mk (Fc.imp (truth _ _) ?_)
    rintro _ w1 ⟨⟨r, rfl, hr⟩, hst⟩
    exact Done.mk ⟨⟨r, rfl, by rw [hr, cmpS, if_neg h0, if_pos h1, vNe_iff]⟩, hst⟩
  have h1 := vEq_f h1
  refine cI (fun h2 => ?_) (fun h2 => ?_)
  · have h2 := vEq_t h2
    refine CallP.mk (Fc.imp (truth _ _) ?_)
    rintro _ w1 ⟨⟨r, rfl, hr⟩, hst⟩
    exact Done.mk ⟨⟨r, rfl, by rw [hr, cmpS, if_neg h0, if_neg h1, if_pos h2, vLt_iff]⟩, hst⟩
  have h2 := vEq_f h2
  refine cI (fun h3 => ?_) (fun h3 => ?_)
  · have h3 := vEq_t h3
    refine CallP.mk (Fc.imp (truth _ _) ?_)
    rintro _ w1 ⟨⟨r, rfl, hr⟩, hst⟩
    exact Done.mk ⟨⟨r, rfl, by rw [hr, cmpS, if_neg h0, if_neg h1, if_neg h2, if_pos h3, vLt_iff]⟩, hst⟩
  have h3 := vEq_f h3
  refine cI (fun h4 => ?_) (fun h4 => ?_)
  · have h4 := vEq_t h4
    refine CallP.mk (Fc.imp (truth _ _) ?_)
    rintro _ w1 ⟨⟨r, rfl, hr⟩, hst⟩
    exact Done.mk ⟨⟨r, rfl, by rw [hr, cmpS, if_neg h0, if_neg h1, if_neg h2, if_neg h3, if_pos h4, vLt_iff]⟩, hst⟩
  have h4 := vEq_f h4
  refine cI (fun h5 => ?_) (fun h5 => ?_)
  · have h5 := vEq_t h5
    refine CallP.mk (Fc.imp (truth _ _) ?_)
    rintro _ w1 ⟨⟨r, rfl, hr⟩, hst⟩
    exact Done.mk ⟨⟨r, rfl, by rw [hr, cmpS, if_neg h0, if_neg h1, if_neg h2, if_neg h3, if_neg h4, if_pos h5, vLt_iff]⟩, hst⟩
  have h5 := vEq_f h5
  refine cI (fun h6 => ?_) (fun h6 => ?_)
  · have h6 := vEq_t h6
    refine CallP.mk (Fc.imp (truth _ _) ?_)
    rintro _ w1 ⟨⟨r, rfl, hr⟩, hst⟩
    exact Done.mk ⟨⟨r, rfl, by rw [hr, cmpS, if_neg h0, if_neg h1, if_neg h2, if_neg h3, if_neg h4, if_neg h5, if_pos h6, vLe_iff]⟩, hst⟩
  have h6 := vEq_f h6
  refine cI (fun h7 => ?_) (fun h7 => ?_)
  · have h7 := vEq_t h7
    refine CallP.mk (Fc.imp (truth _ _) ?_)
    rintro _ w1 ⟨⟨r, rfl, hr⟩, hst⟩
    exact Done.mk ⟨⟨r, rfl, by rw [hr, cmpS, if_neg h0, if_neg h1, if_neg h2, if_neg h3, if_neg h4, if_neg h5, if_neg h6, if_pos h7, vLe_iff]⟩, hst⟩
  have h7 := vEq_f h7
  refine cI (fun h8 => ?_) (fun h8 => ?_)
  · have h8 := vEq_t h8
    refine CallP.mk (Fc.imp (truth _ _) ?_)
    rintro _ w1 ⟨⟨r, rfl, hr⟩, hst⟩
    exact Done.mk ⟨⟨r, rfl, by rw [hr, cmpS, if_neg h0, if_neg h1, if_neg h2, if_neg h3, if_neg h4, if_neg h5, if_neg h6, if_neg h7, if_pos h8, vLe_iff]⟩, hst⟩
  have h8 := vEq_f h8
  refine CallP.mk (Fc.imp (truth _ _) ?_)
  rintro _ w1 ⟨⟨r, rfl, hr⟩, hst⟩
  exact Done.mk ⟨⟨r, rfl, by rw [hr, cmpS, if_neg h0, if_neg h1, if_neg h2, if_neg h3, if_neg h4, if_neg h5, if_neg h6, if_neg h7, if_neg h8, vLe_iff]⟩, hst⟩
theorem divide64 (which a b ua ub : Int) (ha : -9223372036854775808 ≤ a ∧ a ≤ 9223372036854775807) (hb : -9223372036854775808 ≤ b ∧ b ≤ 9223372036854775807) (hub : ub = vWrap .u64 b) (w : World) : Fc Tryd.prog 19 #[.int .u8 which, .int .i64 a, .int .i64 b, .int .u64 ua, .int .u64 ub] w
    (fun v w' => (∃ r e : Int, v = .tuple #[.int .i64 r, .int .i64 e] ∧ (r, e) = divS .i64 which a b ua ub) ∧ w = w') := by
  refine Fc.of Tryd.func19 rfl (by kernel_rfl) ?_
  refine cI (fun hz => ?_) (fun hz => ?_)
  · exact Done.mk ⟨⟨_, _, rfl, by rw [divS, if_pos (vEq_t hz)]⟩, rfl⟩
  have hz := vEq_f hz
  have hubz : ub ≠ 0 := by rw [hub]; exact wz64 hb hz
  refine bk ?_
  refine cI (fun h0 => ?_) (fun h0 => ?_)
  · have h0 := vEq_t h0
    refine br (fun e1 => ?_) (fun e1 => ?_)
    · have e1 := vEq_t e1
      refine br (fun e2 => ?_) (fun e2 => ?_)
      · have e2 := vNe_t e2
        refine cI (fun e3 => ?_) (fun e3 => ?_)
        · exact Done.mk ⟨⟨_, _, rfl, by rw [divS, if_neg hz, if_pos h0, if_pos ⟨e1, e2, vEq_t e3⟩]⟩, rfl⟩
        · have e3 := vEq_f e3
          refine DivP.mk hz ?_
          exact Done.mk ⟨⟨_, _, rfl, by rw [divS, if_neg hz, if_pos h0, if_neg (fun g => e3 g.2.2), wi64 (vQuo64 a b)]⟩, rfl⟩
      · have e2 := vNe_f e2
        refine cF rfl ?_
        refine DivP.mk hz ?_
        exact Done.mk ⟨⟨_, _, rfl, by rw [divS, if_neg hz, if_pos h0, if_neg (fun g => g.2.1 e2), wi64 (vQuo64 a b)]⟩, rfl⟩
    · have e1 := vEq_f e1
      refine cF rfl ?_
      refine DivP.mk hz ?_
      exact Done.mk ⟨⟨_, _, rfl, by rw [divS, if_neg hz, if_pos h0, if_neg (fun g => e1 g.1), wi64 (vQuo64 a b)]⟩, rfl⟩
  have h0 := vEq_f h0
  refine cI (fun h1 => ?_) (fun h1 => ?_)
  · have h1 := vEq_t h1
    refine DivP.mk hubz ?_
    refine rConvInt rfl rfl ?_
    exact Done.mk ⟨⟨_, _, rfl, by rw [divS, if_neg hz, if_neg h0, if_pos h1]; rfl⟩, rfl⟩
  have h1 := vEq_f h1
  refine cI (fun h2 => ?_) (fun h2 => ?_)
  · have h2 := vEq_t h2
    refine cI (fun e1 => ?_) (fun e1 => ?_)
    · exact Done.mk ⟨⟨_, _, rfl, by rw [divS, if_neg hz, if_neg h0, if_neg h1, if_pos h2, if_pos (vEq_t e1)]⟩, rfl⟩
    · have e1 := vEq_f e1
      refine DivP.mk hz ?_
      exact Done.mk ⟨⟨_, _, rfl, by rw [divS, if_neg hz, if_neg h0, if_neg h1, if_pos h2, if_neg e1, wi64 (vRem64 ha)]⟩, rfl⟩
  have h2 := vEq_f h2
  refine DivP.mk hubz ?_
  refine rConvInt rfl rfl ?_
  exact Done.mk ⟨⟨_, _, rfl, by rw [divS, if_neg hz, if_neg h0, if_neg h1, if_neg h2]⟩, rfl⟩

def okOp (op : Int) : Prop := 70 ≤ op ∧ op ≤ 79 ∨ 81 ≤ op ∧ op ≤ 90 ∨ 106 ≤ op ∧ op ≤ 108 ∨ 109 ≤ op ∧ op ≤ 112 ∨ 113 ≤ op ∧ op ≤ 120 ∨ 124 ≤ op ∧ op ≤ 126 ∨ 127 ≤ op ∧ op ≤ 130 ∨ 131 ≤ op ∧ op ≤ 138
instance (op : Int) : Decidable (okOp op) := by unfold okOp; exact inferInstance
theorem Two (op a b : Int) (hop : okOp op) (ha : -9223372036854775808 ≤ a ∧ a ≤ 9223372036854775807) (hb : -9223372036854775808 ≤ b ∧ b ≤ 9223372036854775807) (w : World) :
    Fc Tryd.prog 14 #[.int .u8 op, .int .i64 a, .int .i64 b] w (fun v w' => (∃ r e : Int, v = .tuple #[.int .i64 r, .int .i64 e] ∧ (r, e) = twoS op a b) ∧ Still w w') := by
  refine Fc.of Tryd.func14 rfl (by kernel_rfl) ?_
  refine bk ?_
  rcases hop with g | g | g | g | g | g | g | g
  · refine br_t (by rw [vLe_iff]; simp; omega) ?_
    refine cT (by rw [vLe_iff]; simp; omega) ?_
    refine rConvInt rfl rfl ?_
    refine rConvInt rfl rfl ?_
    refine rConvInt rfl rfl ?_
    refine rConvInt rfl rfl ?_
    refine CallP.mk (Fc.imp (compare32 _ _ _ _ _ _) ?_)
    rintro _ w1 ⟨⟨r, rfl, hr⟩, hst⟩
    exact Done.mk ⟨⟨_, _, rfl, by rw [twoS, if_pos (by omega), hr, wu8 (by omega)]⟩, hst⟩
  · refine br_t (by rw [vLe_iff]; simp; omega) ?_
    refine cF (by rw [vLe_iff]; simp; omega) ?_
    refine br_t (by rw [vLe_iff]; simp; omega) ?_
    refine cT (by rw [vLe_iff]; simp; omega) ?_
    refine rConvInt rfl rfl ?_
    refine rConvInt rfl rfl ?_
    refine CallP.mk (Fc.imp (compare64 _ _ _ _ _ _) ?_)
    rintro _ w1 ⟨⟨r, rfl, hr⟩, hst⟩
    exact Done.mk ⟨⟨_, _, rfl, by rw [twoS, if_neg (by omega), if_pos (by omega), hr, wu8 (by omega)]⟩, hst⟩
  · refine br_t (by rw [vLe_iff]; simp; omega) ?_
    refine cF (by rw [vLe_iff]; simp; omega) ?_
    refine br_t (by rw [vLe_iff]; simp; omega) ?_
    refine cF (by rw [vLe_iff]; simp; omega) ?_
    refine br_f (by rw [vLe_iff]; simp; omega) ?_
    refine cF (by rfl) ?_
    refine br_f (by rw [vLe_iff]; simp; omega) ?_
    refine cF (by rfl) ?_
    refine br_t (by rw [vLe_iff]; simp; omega) ?_
    refine cT (by rw [vLe_iff]; simp; omega) ?_
    refine rConvInt rfl rfl ?_
    refine rConvInt rfl rfl ?_
    refine CallP.mk (Fc.imp (reckon32 _ _ _ (vWrap_range .u32 b) _) ?_)
    rintro _ w1 ⟨⟨r, rfl, hr⟩, hst⟩
    refine rConvInt rfl rfl ?_
    refine rConvInt rfl rfl ?_
    exact Done.mk ⟨⟨_, _, rfl, by rw [twoS, if_neg (by omega), if_neg (by omega), if_neg (by omega), if_neg (by omega), if_pos (by omega), hr, wu8 (by omega)]⟩, hst⟩
  · refine br_t (by rw [vLe_iff]; simp; omega) ?_
    refine cF (by rw [vLe_iff]; simp; omega) ?_
    refine br_t (by rw [vLe_iff]; simp; omega) ?_
    refine cF (by rw [vLe_iff]; simp; omega) ?_
    refine br_t (by rw [vLe_iff]; simp; omega) ?_
    refine cT (by rw [vLe_iff]; simp; omega) ?_
    refine rConvInt rfl rfl ?_
    refine rConvInt rfl rfl ?_
    refine rConvInt rfl rfl ?_
    refine rConvInt rfl rfl ?_
    refine CallP.mk (Fc.imp (divide32 _ _ _ _ _ (vWrap_range .i32 a) (vWrap_range .i32 b) (ww32 b) _) ?_)
    rintro _ _ ⟨⟨r, e, rfl, hr⟩, rfl⟩
    refine rConvInt rfl rfl ?_
    refine rConvInt rfl rfl ?_
    rw [wu8 (by omega)] at hr
    exact Done.mk ⟨⟨_, _, rfl, by rw [twoS, if_neg (by omega), if_neg (by omega), if_pos (by omega), ← hr]⟩, Still.refl _⟩
  · refine br_t (by rw [vLe_iff]; simp; omega) ?_
    refine cF (by rw [vLe_iff]; simp; omega) ?_
    refine br_t (by rw [vLe_iff]; simp; omega) ?_
    refine cF (by rw [vLe_iff]; simp; omega) ?_
    refine br_t (by rw [vLe_iff]; simp; omega) ?_
    refine cF (by rw [vLe_iff]; simp; omega) ?_
    refine br_f (by rw [vLe_iff]; simp; omega) ?_
    refine cF (by rfl) ?_
    refine br_t (by rw [vLe_iff]; simp; omega) ?_
    refine cT (by rw [vLe_iff]; simp; omega) ?_
    refine rConvInt rfl rfl ?_
    refine rConvInt rfl rfl ?_
    refine CallP.mk (Fc.imp (reckon32 _ _ _ (vWrap_range .u32 b) _) ?_)
    rintro _ w1 ⟨⟨r, rfl, hr⟩, hst⟩
    refine rConvInt rfl rfl ?_
    refine rConvInt rfl rfl ?_
    exact Done.mk ⟨⟨_, _, rfl, by rw [twoS, if_neg (by omega), if_neg (by omega), if_neg (by omega), if_neg (by omega), if_pos (by omega), hr, wu8 (by omega)]⟩, hst⟩
  · refine br_t (by rw [vLe_iff]; simp; omega) ?_
    refine cF (by rw [vLe_iff]; simp; omega) ?_
    refine br_t (by rw [vLe_iff]; simp; omega) ?_
    refine cF (by rw [vLe_iff]; simp; omega) ?_
    refine br_t (by rw [vLe_iff]; simp; omega) ?_
    refine cF (by rw [vLe_iff]; simp; omega) ?_
    refine br_f (by rw [vLe_iff]; simp; omega) ?_
    refine cF (by rfl) ?_
    refine br_t (by rw [vLe_iff]; simp; omega) ?_
    refine cF (by rw [vLe_iff]; simp; omega) ?_
    refine br_t (by rw [vLe_iff]; simp; omega) ?_
    refine cT (by rw [vLe_iff]; simp; omega) ?_
    refine rConvInt rfl rfl ?_
    refine rConvInt rfl rfl ?_
    refine CallP.mk (Fc.imp (reckon64 _ _ _ (vWrap_range .u64 b) _) ?_)
    rintro _ w1 ⟨⟨r, rfl, hr⟩, hst⟩
    refine rConvInt rfl rfl ?_
    exact Done.mk ⟨⟨_, _, rfl, by rw [twoS, if_neg (by omega), if_neg (by omega), if_neg (by omega), if_neg (by omega), if_neg (by omega), if_pos (by omega), hr, wu8 (by omega)]⟩, hst⟩
  · refine br_t (by rw [vLe_iff]; simp; omega) ?_
    refine cF (by rw [vLe_iff]; simp; omega) ?_
    refine br_t (by rw [vLe_iff]; simp; omega) ?_
    refine cF (by rw [vLe_iff]; simp; omega) ?_
    refine br_t (by rw [vLe_iff]; simp; omega) ?_
    refine cF (by rw [vLe_iff]; simp; omega) ?_
    refine br_t (by rw [vLe_iff]; simp; omega) ?_
    refine cT (by rw [vLe_iff]; simp; omega) ?_
    refine rConvInt rfl rfl ?_
    refine rConvInt rfl rfl ?_
    refine CallP.mk (Fc.imp (divide64 _ _ _ _ _ ha hb rfl _) ?_)
    rintro _ _ ⟨⟨r, e, rfl, hr⟩, rfl⟩
    rw [wu8 (by omega)] at hr
    exact Done.mk ⟨⟨_, _, rfl, by rw [twoS, if_neg (by omega), if_neg (by omega), if_neg (by omega), if_pos (by omega), ← hr]⟩, Still.refl _⟩
  · refine br_t (by rw [vLe_iff]; simp; omega) ?_
    refine cF (by rw [vLe_iff]; simp; omega) ?_
    refine br_t (by rw [vLe_iff]; simp; omega) ?_
    refine cF (by rw [vLe_iff]; simp; omega) ?_
    refine br_t (by rw [vLe_iff]; simp; omega) ?_
    refine cF (by rw [vLe_iff]; simp; omega) ?_
    refine br_t (by rw [vLe_iff]; simp; omega) ?_
    refine cF (by rw [vLe_iff]; simp; omega) ?_
    refine br_t (by rw [vLe_iff]; simp; omega) ?_
    refine cF (by rw [vLe_iff]; simp; omega) ?_
    refine br_t (by rw [vLe_iff]; simp; omega) ?_
    refine cT (by rw [vLe_iff]; simp; omega) ?_
    refine rConvInt rfl rfl ?_
    refine rConvInt rfl rfl ?_
    refine CallP.mk (Fc.imp (reckon64 _ _ _ (vWrap_range .u64 b) _) ?_)
    rintro _ w1 ⟨⟨r, rfl, hr⟩, hst⟩
    refine rConvInt rfl rfl ?_
    exact Done.mk ⟨⟨_, _, rfl, by rw [twoS, if_neg (by omega), if_neg (by omega), if_neg (by omega), if_neg (by omega), if_neg (by omega), if_pos (by omega), hr, wu8 (by omega)]⟩, hst⟩
theorem two (op a b : Int) (hop : okOp op) (ha : -9223372036854775808 ≤ a ∧ a ≤ 9223372036854775807) (hb : -9223372036854775808 ≤ b ∧ b ≤ 9223372036854775807) (w : World) :
    Fc Tryd.prog 8 #[.int .u8 op, .int .i64 a, .int .i64 b] w (fun v w' => (∃ r : Int, v = .int .i64 r ∧ r = (twoS op a b).1) ∧ Still w w') := by
  refine Fc.of Tryd.func8 rfl (by kernel_rfl) ?_
  refine CallP.mk (Fc.imp (Two op a b hop ha hb _) ?_)
  rintro _ w1 ⟨⟨r, e, rfl, hr⟩, hst⟩
  exact Done.mk ⟨⟨_, rfl, by rw [← hr]⟩, hst⟩
theorem width (op : Int) (wide : Bool) (hop : 0 ≤ op ∧ op ≤ 237) (w : World) :
    Fc Tryd.prog 9 #[.int .u8 op, .bool wide] w (fun v w' => (∃ r : Int, v = .int .u8 r ∧ r = widthS op wide) ∧ w = w') := by
  refine Fc.of Tryd.func9 rfl (by kernel_rfl) ?_
  refine cI (fun h => ?_) (fun h => ?_)
  · exact Done.mk ⟨⟨_, rfl, by rw [widthS, if_neg (by simpa using h)]⟩, rfl⟩
  · have h : wide = true := by simpa using h
    refine cI (fun h1 => ?_) (fun h1 => ?_)
    · exact Done.mk ⟨⟨_, rfl, by rw [widthS, if_pos h, if_pos (vLt_t h1), wu8 (by omega)]⟩, rfl⟩
    · exact Done.mk ⟨⟨_, rfl, by rw [widthS, if_pos h, if_neg (by have := vLt_f h1; omega), wu8 (by omega)]⟩, rfl⟩
end Go.Proofs.YtobepdjhihjcdaaDoor.Num
