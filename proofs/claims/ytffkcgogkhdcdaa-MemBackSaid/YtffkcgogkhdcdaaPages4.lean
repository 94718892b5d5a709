/- Package mem: has, Store. -/
import Derived.Test.YtffkcgogkhdcdaaPages2
import Derived.Test.YtffkcgogkhdcdaaWidth
set_option maxRecDepth 100000
set_option maxHeartbeats 4000000
set_option linter.unusedVariables false
set_option linter.unusedSimpArgs false
namespace Go.Proofs.Ytffkcgogkhdcdaa.Mem
open Go Go.Proofs.Ytffkcgogkhdcdaa.Eng Go.RowKit
theorem has {g : Glob} {w : World} {l : List As} {p : Nat} {v mo : Value} {ps : List Page} (H : Sat g w (Pt p [v, mo] 110 :: Sl 116 256 enP v ps :: l)) (a n : Int) (hp : ps.length ≤ 8) (hn : 0 ≤ n ∧ n ≤ 4096) :
    Fc Try.prog 54 #[.pointer (some ⟨p, 0, none⟩), .int .i64 a, .int .i64 n] w (fun r w' => (∃ b, r = .bool b ∧ (b = true ↔ a + n ≤ 256 * ps.length)) ∧ Sat g w' (Pt p [v, mo] 110 :: Sl 116 256 enP v ps :: l)) := by
  refine Fc.of Try.func54 rfl (by kernel_rfl) ?_
  refine rFieldAt rfl ?_
  refine rLd (H.at 0 rfl) 0 rfl rfl rfl ?_
  refine rLenS H 1 rfl rfl ?_
  refine eqI64 (by omega) ?_
  refine eqI64 (by omega) ?_
  refine Done.mk ?_
  refine ⟨?_, ?_⟩
  · refine ⟨vLe a ((↑ps.length : Int) * 256 - n), ?_⟩
    refine ⟨?_, ?_⟩
    · rfl
    (rw [vLe_iff, decide_eq_true_iff]; omega)
  exact H
def byteOf (u : Int) : UInt8 := UInt8.ofNat (u % 256).toNat
def leB : Nat → Int → List UInt8
  | 0, _ => []
  | n + 1, u => byteOf u :: leB n (u / 256)
theorem leB_len : ∀ (n : Nat) (u : Int), (leB n u).length = n
  | 0, _ => rfl
  | n + 1, u => by rw [leB, List.length_cons, leB_len n]
theorem byteOf_val (u : Int) : ((byteOf u).toNat : Int) = u % 256 := by
  unfold byteOf
  rw [UInt8.toNat_ofNat']
  omega
theorem setB {x : Page} {k : Nat} {y : Int} (h : k + [byteOf y].length ≤ 256) : setsL (enP x) (k * 1) [.int .u8 (y % 256)] = enP (owP x k [byteOf y] h) := by
  rw [Nat.mul_one, ← byteOf_val]
  exact setsY [byteOf y] x.l k (by rw [x.h]; exact h)
theorem ow_cons {xs : List UInt8} {b n : Nat} {y : Int} (h : b + (n + 1) ≤ xs.length) : ow (ow xs b [byteOf y]) (b + 1) (leB n (y / 256)) = ow xs b (leB (n + 1) y) :=
  ow_ow (xs := xs) (ys := [byteOf y]) (zs := leB n (y / 256)) (a := b) (by rw [leB_len, List.length_singleton]; omega)
theorem store {g : Glob} {w : World} {l : List As} {p : Nat} {v mo : Value} {ps : List Page} (H : Sat g w (Pt p [v, mo] 110 :: Sl 116 256 enP v ps :: l)) (op base off u : Int) (hp : ps.length ≤ 8) (hop : 54 ≤ op) (hw : 0 < Ins.wd op) (ho : 0 ≤ off ∧ off ≤ 4294967295) (hu : -9223372036854775808 ≤ u ∧ u ≤ 9223372036854775807) :
    Fc Try.prog 29 #[.pointer (some ⟨p, 0, none⟩), .int .u8 op, .int .i64 base, .int .i64 off, .int .i64 u] w (fun r w' => ∃ e ps', r = .int .i64 e ∧ ((e = 23 ∧ ps' = ps ∧ ¬ (base % 4294967296 + off + Ins.wd op ≤ 256 * ps.length)) ∨ (e = 0 ∧ (base % 4294967296 + off + Ins.wd op ≤ 256 * ps.length) ∧ flat ps' = ow (flat ps) (base % 4294967296 + off).toNat (leB (Ins.wd op).toNat u))) ∧ ps'.length = ps.length ∧ Sat g w' (Pt p [v, mo] 110 :: Sl 116 256 enP v ps' :: l)) := by
  refine Fc.of Try.func29 rfl (by kernel_rfl) ?_
  have hws := Ins.wd_set op
  obtain ⟨m, hm⟩ : ∃ m : Nat, Ins.wd op = m := ⟨(Ins.wd op).toNat, by omega⟩
  rw [hm, Int.toNat_natCast]
  rw [hm] at hws
  refine CallP.mk (Fc.imp (Go.Proofs.Ytffkcgogkhdcdaa.Ins.width _ _) ?_)
  rintro _ _ ⟨⟨r1, ⟨rfl, h1⟩⟩, rfl⟩
  refine rConvU32M rfl rfl ?_
  refine rConvI64 (by omega) rfl rfl ?_
  refine bk ?_
  refine br_f (vEq_F (by omega)) ?_
  refine cF (vLt_F (by assumption)) ?_
  refine br_f (vLt_F (by omega)) ?_
  refine cF (vLt_F (by omega)) ?_
  refine eqI64 (by omega) ?_
  refine CallP.mk (Fc.imp (Go.Proofs.Ytffkcgogkhdcdaa.Mem.has H _ _ ?_ ?_) ?_)
  · assumption
  · omega
  clear H
  rintro _ w1 ⟨⟨b1, ⟨rfl, h2⟩⟩, H⟩
  refine cI (fun c1 => ?_) (fun c1 => ?_)
  · replace c1 := iff_f h2 (not_t (c1))
    refine Done.mk ?_
    exact ⟨_, _, rfl, .inl ⟨rfl, rfl, by omega⟩, rfl, H⟩
  replace c1 := h2.1 (not_f (c1))
  refine eqI64 (by omega) ?_
  refine LoopP.rule (α := Nat × Nat × Int × List Page) (m, (base % 4294967296 + off).toNat, u, ps) (fun x_ => [(11, .int .i64 x_.1), (13, .int .i64 x_.2.1), (4, .int .i64 x_.2.2.1)]) (fun x_ w_ => (x_.2.1 + x_.1 ≤ 256 * ps.length) ∧ (x_.1 ≤ 8) ∧ (-9223372036854775808 ≤ x_.2.2.1 ∧ x_.2.2.1 ≤ 9223372036854775807) ∧ (x_.2.2.2.length = ps.length) ∧ (ow (flat x_.2.2.2) x_.2.1 (leB x_.1 x_.2.2.1) = ow (flat ps) (base % 4294967296 + off).toNat (leB m u)) ∧ Sat g w_ ((Pt p [v, mo] 110 :: Sl 116 256 enP v x_.2.2.2 :: l))) (fun x_ => x_.1) ?_ ?_ ?_
  · repeat first | exact mt_nil | refine mt_cons rfl ?_ | refine mt_i rfl (by first | omega | (simp only; omega) | (simp; omega) | (simp; done)) ?_
  · try simp only
    refine ⟨?_, ?_⟩
    · omega
    refine ⟨?_, ?_⟩
    · omega
    refine ⟨?_, ?_⟩
    · assumption
    refine ⟨?_, ?_⟩
    · (constructor <;> omega)
    refine ⟨?_, ?_⟩
    · (constructor <;> omega)
    exact H
  clear H
  rintro ⟨n, b, y, qs⟩ f_ w_ ⟨hb, hn8, hy, hq, he, H⟩
  try simp only at hb hn8 hy hq he H ⊢
  rcases Nat.eq_zero_or_pos n with hn0 | hn0
  · subst hn0
    refine cF (vLt_F (by omega)) ?_
    refine Done.mk ?_
    exact ⟨_, _, rfl, .inr ⟨rfl, by omega, by rw [← he]; exact (ow_nil _ _).symm⟩, hq, H⟩
  · obtain ⟨n, rfl⟩ : ∃ k, n = k + 1 := ⟨n - 1, by omega⟩
    obtain ⟨k, hk⟩ : ∃ k, k = b % 256 := ⟨_, rfl⟩
    refine cT (vLt_T (by omega)) ?_
    refine bk ?_
    refine rFieldAt rfl ?_
    refine rLd (H.at 0 rfl) 0 rfl rfl rfl ?_
    refine DivP.mk (by decide) ?_
    refine eqQuo (by omega) (by omega) ?_
    refine DivP.mk (by decide) ?_
    refine eqRem (by omega) ?_
    refine rConvU8M rfl rfl ?_
    obtain ⟨x1, hx1⟩ : ∃ x, (qs)[((b) / 256)]? = some x := ⟨_, List.getElem?_eq_getElem (by omega)⟩
    obtain ⟨b2, o1, E1⟩ := H.elt 1 rfl ((b) / 256) (by omega)
    refine rIxE E1 rfl rfl rfl ?_
    refine rIxArr 1 ((b) % 256) (by omega) (by omega) rfl rfl ?_
    rw [← hk]
    have hkl : k + [byteOf y].length ≤ 256 := by rw [List.length_singleton]; omega
    refine rStE H 1 rfl E1 hx1 (k * 1) (owP x1 k [byteOf y] hkl) rfl rfl (Nat.ble_eq_true_of_le (by omega)) (setB hkl) ?_
    intro w2 H
    have hf := flat_set hx1 hkl (by omega)
    rw [show 256 * (b / 256) + k = b by omega] at hf
    have h2 := ow_cons (xs := flat qs) (b := b) (n := n) (y := y) (by rw [flat_length]; omega)
    rw [← hf, he] at h2
    refine ShiftP.mk (by decide) ?_
    refine eqShrL 8 256 rfl rfl (by decide) ?_
    refine eqI64 (by omega) ?_
    refine eqI64 (by omega) ?_
    refine Nxt.mk ((n + 1 - 1, b + 1, y / 256, qs.set (b / 256) (owP x1 k [byteOf y] hkl))) (mt_i rfl (by first | omega | (simp only; omega) | (simp; omega)) (mt_i rfl (by first | omega | (simp only; omega) | (simp; omega)) (mt_cons rfl (mt_nil)))) ?_ ?_
    · refine ⟨?_, ?_⟩
      · (simp only [List.length_append, List.length_set, List.length_cons, List.length_nil]; omega)
      refine ⟨?_, ?_⟩
      · omega
      refine ⟨?_, ?_⟩
      · refine ⟨?_, ?_⟩
        · (simp only [List.length_append, List.length_set, List.length_cons, List.length_nil]; omega)
        (simp only [List.length_append, List.length_set, List.length_cons, List.length_nil]; omega)
      refine ⟨?_, ?_⟩
      · (rw [List.length_set]; exact hq)
      refine ⟨?_, ?_⟩
      · assumption
      exact H
    omega
end Go.Proofs.Ytffkcgogkhdcdaa.Mem
