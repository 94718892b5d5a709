/- num.One: an instruction of one number. -/
import Derived.Test.YtobepdjhihjcdaaDoorNumF
import Derived.Test.YtobepdjhihjcdaaDoorBmW
set_option maxRecDepth 100000
set_option linter.unusedVariables false
namespace Go.Proofs.YtobepdjhihjcdaaDoor.Num
open Go Go.Proofs.YtobepdjhihjcdaaDoor.Eng Go.RowKit
def oneS (op a : Int) : Int × Int :=
  if op = 69 then (b2i (decide (vWrap .i32 a = 0)), 0) else if op = 80 then (b2i (decide (a = 0)), 0)
  else if op = 103 then (32 - (Bm.blen (vWrap .u32 a).toNat : Int), 0) else if op = 104 then ((Bm.ctz 32 (vWrap .u32 a).toNat : Int), 0) else if op = 105 then ((Bm.popF 32 (vWrap .u32 a).toNat : Int), 0)
  else if op = 121 then (64 - (Bm.blen (vWrap .u64 a).toNat : Int), 0) else if op = 122 then ((Bm.ctz 64 (vWrap .u64 a).toNat : Int), 0) else if op = 123 then ((Bm.popF 64 (vWrap .u64 a).toNat : Int), 0)
  else if op = 192 ∨ op = 194 then (vWrap .i64 (vWrap .i8 a), 0) else if op = 193 ∨ op = 195 then (vWrap .i64 (vWrap .i16 a), 0)
  else if op = 167 ∨ op = 172 ∨ op = 196 then (vWrap .i64 (vWrap .i32 a), 0) else if op = 173 then (vWrap .i64 (vWrap .u32 a), 0) else (0, 6)
theorem nat32 (a : Int) : ∃ n : Nat, vWrap .u32 a = n ∧ n < 2 ^ 32 ∧ (vWrap .u32 a).toNat = n := by
  have h := vWrap_range .u32 a
  rw [show IntKind.min .u32 = 0 from rfl, show IntKind.max .u32 = 4294967295 from rfl] at h
  exact ⟨(vWrap .u32 a).toNat, by omega, by omega, rfl⟩
theorem nat64 (a : Int) : ∃ n : Nat, vWrap .u64 a = n ∧ n < 2 ^ 64 ∧ (vWrap .u64 a).toNat = n := by
  have h := vWrap_range .u64 a
  rw [show IntKind.min .u64 = 0 from rfl, show IntKind.max .u64 = 18446744073709551615 from rfl] at h
  exact ⟨(vWrap .u64 a).toNat, by omega, by omega, rfl⟩
theorem One (op a : Int) (w : World) (T : Bm.Tabs w) : Fc Tryd.prog 15 #[.int .u8 op, .int .i64 a] w (fun v w' => (∃ r e : Int, v = .tuple #[.int .i64 r, .int .i64 e] ∧ (r, e) = oneS op a) ∧ Still w w') := by
  refine Fc.of Tryd.func15 rfl (by kernel_rfl) ?_
  obtain ⟨n, hn, hn2, hn3⟩ := nat32 a
  obtain ⟨m, hm, hm2, hm3⟩ := nat64 a
  refine bk ?_
  refine cI (fun h1 => ?_) (fun h1 => ?_)
  · have h1 := vEq_t h1
    refine rConvInt rfl rfl ?_
    refine CallP.mk (Fc.imp (truth _ _) ?_)
    rintro _ w1 ⟨⟨r, rfl, hr⟩, st⟩
    exact Done.mk ⟨⟨_, _, rfl, by rw [oneS, if_pos h1, hr, vEq_iff]⟩, st⟩
  have h1 := vEq_f h1
  refine cI (fun h2 => ?_) (fun h2 => ?_)
  · have h2 := vEq_t h2
    refine CallP.mk (Fc.imp (truth _ _) ?_)
    rintro _ w1 ⟨⟨r, rfl, hr⟩, st⟩
    exact Done.mk ⟨⟨_, _, rfl, by rw [oneS, if_neg h1, if_pos h2, hr, vEq_iff]⟩, st⟩
  have h2 := vEq_f h2
  refine cI (fun h3 => ?_) (fun h3 => ?_)
  · have h3 := vEq_t h3
    refine rConvIntE ((n : Int)) (by exact hn) rfl rfl ?_
    refine CallP.mk (Fc.imp (Bm.LeadingZeros32 n hn2 _) ?_)
    rintro _ _ ⟨⟨r, rfl, hr⟩, rfl⟩
    exact Done.mk ⟨⟨_, _, rfl, by rw [oneS, if_neg h1, if_neg h2, if_pos h3, hn3, hr]⟩, Still.refl _⟩
  have h3 := vEq_f h3
  refine cI (fun h4 => ?_) (fun h4 => ?_)
  · have h4 := vEq_t h4
    refine rConvIntE ((n : Int)) (by exact hn) rfl rfl ?_
    refine CallP.mk (Fc.imp (Bm.TrailingZeros32 n hn2 _ T) ?_)
    rintro _ _ ⟨⟨r, rfl, hr⟩, rfl⟩
    exact Done.mk ⟨⟨_, _, rfl, by rw [oneS, if_neg h1, if_neg h2, if_neg h3, if_pos h4, hn3, hr]⟩, Still.refl _⟩
  have h4 := vEq_f h4
  refine cI (fun h5 => ?_) (fun h5 => ?_)
  · have h5 := vEq_t h5
    refine rConvIntE ((n : Int)) (by exact hn) rfl rfl ?_
    refine CallP.mk (Fc.imp (Bm.OnesCount32 n hn2 _) ?_)
    rintro _ _ ⟨⟨r, rfl, hr⟩, st⟩
    exact Done.mk ⟨⟨_, _, rfl, by rw [oneS, if_neg h1, if_neg h2, if_neg h3, if_neg h4, if_pos h5, hn3, hr]⟩, st⟩
  have h5 := vEq_f h5
  refine cI (fun h6 => ?_) (fun h6 => ?_)
  · have h6 := vEq_t h6
    refine rConvIntE ((m : Int)) (by exact hm) rfl rfl ?_
    refine CallP.mk (Fc.imp (Bm.LeadingZeros64 m hm2 _) ?_)
    rintro _ _ ⟨⟨r, rfl, hr⟩, rfl⟩
    exact Done.mk ⟨⟨_, _, rfl, by rw [oneS, if_neg h1, if_neg h2, if_neg h3, if_neg h4, if_neg h5, if_pos h6, hm3, hr]⟩, Still.refl _⟩
  have h6 := vEq_f h6
  refine cI (fun h7 => ?_) (fun h7 => ?_)
  · have h7 := vEq_t h7
    refine rConvIntE ((m : Int)) (by exact hm) rfl rfl ?_
    refine CallP.mk (Fc.imp (Bm.TrailingZeros64 m hm2 _ T) ?_)
    rintro _ _ ⟨⟨r, rfl, hr⟩, rfl⟩
    exact Done.mk ⟨⟨_, _, rfl, by rw [oneS, if_neg h1, if_neg h2, if_neg h3, if_neg h4, if_neg h5, if_neg h6, if_pos h7, hm3, hr]⟩, Still.refl _⟩
  have h7 := vEq_f h7
  refine cI (fun h8 => ?_) (fun h8 => ?_)
  · have h8 := vEq_t h8
    refine rConvIntE ((m : Int)) (by exact hm) rfl rfl ?_
    refine CallP.mk (Fc.imp (Bm.OnesCount64 m hm2 _) ?_)
    rintro _ _ ⟨⟨r, rfl, hr⟩, rfl⟩
    exact Done.mk ⟨⟨_, _, rfl, by rw [oneS, if_neg h1, if_neg h2, if_neg h3, if_neg h4, if_neg h5, if_neg h6, if_neg h7, if_pos h8, hm3, hr]⟩, Still.refl _⟩
  have h8 := vEq_f h8
  refine cI (fun g1 => ?_) (fun g1 => ?_)
  · have g1 := vEq_t g1
    refine cT (by rw [vEq_iff, decide_eq_true_eq]; assumption) ?_
    refine rConvInt rfl rfl ?_
    refine rConvInt rfl rfl ?_
    exact Done.mk ⟨⟨_, _, rfl, by rw [oneS, if_neg h1, if_neg h2, if_neg h3, if_neg h4, if_neg h5, if_neg h6, if_neg h7, if_neg h8, if_pos (.inl g1)]⟩, Still.refl _⟩
  have g1 := vEq_f g1
  refine cI (fun g2 => ?_) (fun g2 => ?_)
  · have g2 := vEq_t g2
    refine rConvInt rfl rfl ?_
    refine rConvInt rfl rfl ?_
    exact Done.mk ⟨⟨_, _, rfl, by rw [oneS, if_neg h1, if_neg h2, if_neg h3, if_neg h4, if_neg h5, if_neg h6, if_neg h7, if_neg h8, if_pos (.inr g2)]⟩, Still.refl _⟩
  have g2 := vEq_f g2
  have g12 : ¬ (op = 192 ∨ op = 194) := by omega
  refine cI (fun g3 => ?_) (fun g3 => ?_)
  · have g3 := vEq_t g3
    refine cT (by rw [vEq_iff, decide_eq_true_eq]; assumption) ?_
    refine rConvInt rfl rfl ?_
    refine rConvInt rfl rfl ?_
    exact Done.mk ⟨⟨_, _, rfl, by rw [oneS, if_neg h1, if_neg h2, if_neg h3, if_neg h4, if_neg h5, if_neg h6, if_neg h7, if_neg h8, if_neg g12, if_pos (.inl g3)]⟩, Still.refl _⟩
  have g3 := vEq_f g3
  refine cI (fun g4 => ?_) (fun g4 => ?_)
  · have g4 := vEq_t g4
    refine rConvInt rfl rfl ?_
    refine rConvInt rfl rfl ?_
    exact Done.mk ⟨⟨_, _, rfl, by rw [oneS, if_neg h1, if_neg h2, if_neg h3, if_neg h4, if_neg h5, if_neg h6, if_neg h7, if_neg h8, if_neg g12, if_pos (.inr g4)]⟩, Still.refl _⟩
  have g4 := vEq_f g4
  have g34 : ¬ (op = 193 ∨ op = 195) := by omega
  refine cI (fun g5 => ?_) (fun g5 => ?_)
  · have g5 := vEq_t g5
    refine cT (by rw [vEq_iff, decide_eq_true_eq]; assumption) ?_
    refine rConvInt rfl rfl ?_
    refine rConvInt rfl rfl ?_
    exact Done.mk ⟨⟨_, _, rfl, by rw [oneS, if_neg h1, if_neg h2, if_neg h3, if_neg h4, if_neg h5, if_neg h6, if_neg h7, if_neg h8, if_neg g12, if_neg g34, if_pos (.inl g5)]⟩, Still.refl _⟩
  have g5 := vEq_f g5
  refine cI (fun g6 => ?_) (fun g6 => ?_)
  · have g6 := vEq_t g6
    refine cT (by rw [vEq_iff, decide_eq_true_eq]; assumption) ?_
    refine rConvInt rfl rfl ?_
    refine rConvInt rfl rfl ?_
    exact Done.mk ⟨⟨_, _, rfl, by rw [oneS, if_neg h1, if_neg h2, if_neg h3, if_neg h4, if_neg h5, if_neg h6, if_neg h7, if_neg h8, if_neg g12, if_neg g34, if_pos (.inr (.inl g6))]⟩, Still.refl _⟩
  have g6 := vEq_f g6
  refine cI (fun g7 => ?_) (fun g7 => ?_)
  · have g7 := vEq_t g7
    refine rConvInt rfl rfl ?_
    refine rConvInt rfl rfl ?_
    exact Done.mk ⟨⟨_, _, rfl, by rw [oneS, if_neg h1, if_neg h2, if_neg h3, if_neg h4, if_neg h5, if_neg h6, if_neg h7, if_neg h8, if_neg g12, if_neg g34, if_pos (.inr (.inr g7))]⟩, Still.refl _⟩
  have g7 := vEq_f g7
  have g57 : ¬ (op = 167 ∨ op = 172 ∨ op = 196) := by omega
  refine cI (fun g8 => ?_) (fun g8 => ?_)
  · have g8 := vEq_t g8
    refine rConvInt rfl rfl ?_
    refine rConvInt rfl rfl ?_
    exact Done.mk ⟨⟨_, _, rfl, by rw [oneS, if_neg h1, if_neg h2, if_neg h3, if_neg h4, if_neg h5, if_neg h6, if_neg h7, if_neg h8, if_neg g12, if_neg g34, if_neg g57, if_pos g8]⟩, Still.refl _⟩
  have g8 := vEq_f g8
  exact Done.mk ⟨⟨_, _, rfl, by rw [oneS, if_neg h1, if_neg h2, if_neg h3, if_neg h4, if_neg h5, if_neg h6, if_neg h7, if_neg h8, if_neg g12, if_neg g34, if_neg g57, if_neg g8]⟩, Still.refl _⟩
theorem one (op a : Int) (w : World) (T : Bm.Tabs w) : Fc Tryd.prog 10 #[.int .u8 op, .int .i64 a] w (fun v w' => (∃ r : Int, v = .int .i64 r ∧ r = (oneS op a).1) ∧ Still w w') := by
  refine Fc.of Tryd.func10 rfl (by kernel_rfl) ?_
  refine CallP.mk (Fc.imp (One op a _ T) ?_)
  rintro _ w1 ⟨⟨r, e, rfl, hr⟩, st⟩
  exact Done.mk ⟨⟨r, rfl, by rw [← hr]⟩, st⟩
end Go.Proofs.YtobepdjhihjcdaaDoor.Num
