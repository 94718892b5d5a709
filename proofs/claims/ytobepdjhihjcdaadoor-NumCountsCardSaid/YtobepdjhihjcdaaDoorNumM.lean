/- What package num computes, in plain Lean. -/
import Derived.Test.YtobepdjhihjcdaaDoorBits
set_option linter.unusedVariables false
namespace Go.Proofs.YtobepdjhihjcdaaDoor.Num
open Go Go.Proofs.YtobepdjhihjcdaaDoor.Eng
def rkS (u : IntKind) (M : Int) (which a b : Int) : Int :=
  if which = 0 then vWrap u (a + b) else if which = 1 then vWrap u (a - b) else if which = 2 then vWrap u (a * b)
  else if which = 7 then vAnd u a b else if which = 8 then vOr u a b else if which = 9 then vXor u a b
  else if which = 10 then vShl u a (b % M)
  else if which = 11 then if 0 < b % M ∧ vShr u a (M - 1) ≠ 0 then vOr u (vShr u a (b % M)) (vShl u u.max (M - b % M)) else vShr u a (b % M)
  else if which = 12 then vShr u a (b % M)
  else if which = 13 then vOr u (vShl u a (b % M)) (vShr u a (M - b % M))
  else vOr u (vShr u a (b % M)) (vShl u a (M - b % M))
def b2i (b : Bool) : Int := if b then 1 else 0
def cmpS (which a b ua ub : Int) : Int :=
  if which = 0 then b2i (decide (a = b)) else if which = 1 then b2i (!decide (a = b)) else if which = 2 then b2i (decide (a < b)) else if which = 3 then b2i (decide (ua < ub))
  else if which = 4 then b2i (decide (b < a)) else if which = 5 then b2i (decide (ub < ua)) else if which = 6 then b2i (decide (a ≤ b)) else if which = 7 then b2i (decide (ua ≤ ub))
  else if which = 8 then b2i (decide (b ≤ a)) else b2i (decide (ub ≤ ua))
/-- The signed kind k, as a quotient's value. -/
def divS (k : IntKind) (which a b ua ub : Int) : Int × Int :=
  if b = 0 then (0, 21)
  else if which = 0 then if b = -1 ∧ a ≠ 0 ∧ a = vWrap k (0 - a) then (0, 22) else (vWrap .i64 (vQuo k a b), 0)
  else if which = 1 then (vWrap .i64 (vQuo (if k = .i32 then .u32 else .u64) ua ub), 0)
  else if which = 2 then if b = -1 then (0, 0) else (vWrap .i64 (vRem a b), 0)
  else (vWrap .i64 (vRem ua ub), 0)
def twoS (op a b : Int) : Int × Int :=
  if 70 ≤ op ∧ op ≤ 79 then (cmpS (op - 70) (vWrap .i32 a) (vWrap .i32 b) (vWrap .u32 a) (vWrap .u32 b), 0)
  else if 81 ≤ op ∧ op ≤ 90 then (cmpS (op - 81) a b (vWrap .u64 a) (vWrap .u64 b), 0)
  else if 109 ≤ op ∧ op ≤ 112 then (vWrap .i64 (vWrap .i32 (divS .i32 (op - 109) (vWrap .i32 a) (vWrap .i32 b) (vWrap .u32 a) (vWrap .u32 b)).1), (divS .i32 (op - 109) (vWrap .i32 a) (vWrap .i32 b) (vWrap .u32 a) (vWrap .u32 b)).2)
  else if 127 ≤ op ∧ op ≤ 130 then divS .i64 (op - 127) a b (vWrap .u64 a) (vWrap .u64 b)
  else if 106 ≤ op ∧ op ≤ 120 then (vWrap .i64 (vWrap .i32 (rkS .u32 32 (op - 106) (vWrap .u32 a) (vWrap .u32 b))), 0)
  else if 124 ≤ op ∧ op ≤ 138 then (vWrap .i64 (rkS .u64 64 (op - 124) (vWrap .u64 a) (vWrap .u64 b)), 0)
  else (0, 6)
def widthS (op : Int) (wide : Bool) : Int := if wide then (if op < 80 then op + 11 else op + 18) else op
def fitS (wide : Bool) (x : Int) : Int := if wide then x else vWrap .i64 (vWrap .i32 x)
theorem wz32 {b : Int} (hb : -2147483648 ≤ b ∧ b ≤ 2147483647) (hz : b ≠ 0) : vWrap .u32 b ≠ 0 := by
  unfold vWrap; simp [IntKind.wrap, IntKind.bits, IntKind.signed]; omega
theorem wz64 {b : Int} (hb : -9223372036854775808 ≤ b ∧ b ≤ 9223372036854775807) (hz : b ≠ 0) : vWrap .u64 b ≠ 0 := by
  unfold vWrap; simp [IntKind.wrap, IntKind.bits, IntKind.signed]; omega
theorem ww32 (b : Int) : vWrap .u32 b = vWrap .u32 (vWrap .i32 b) := by
  unfold vWrap; simp [IntKind.wrap, IntKind.bits, IntKind.signed]; omega
theorem vQuo64 (a b : Int) : -9223372036854775808 ≤ vQuo .i64 a b ∧ vQuo .i64 a b ≤ 9223372036854775807 := by
  have := vWrap_range .i64 (a.tdiv b); unfold vWrap at this; unfold vQuo; exact this
theorem vRem64 {a b : Int} (ha : -9223372036854775808 ≤ a ∧ a ≤ 9223372036854775807) : -9223372036854775808 ≤ vRem a b ∧ vRem a b ≤ 9223372036854775807 := by
  unfold vRem
  have h1 := Int.natAbs_tmod a b
  have h2 : a.natAbs % b.natAbs ≤ a.natAbs := Nat.mod_le _ _
  rcases Int.lt_or_le a 0 with h | h
  · have h3 := Int.tmod_nonneg b (show 0 ≤ -a by omega)
    rw [Int.neg_tmod] at h3
    omega
  · have := Int.tmod_nonneg b h
    omega
end Go.Proofs.YtobepdjhihjcdaaDoor.Num
