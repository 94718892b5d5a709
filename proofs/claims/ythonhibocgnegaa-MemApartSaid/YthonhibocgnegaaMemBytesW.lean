/- The law MemBytes. -/
import Derived.Test.YthonhibocgnegaaPages4
import Derived.Test.YthonhibocgnegaaMemWallsW
set_option maxRecDepth 100000
set_option maxHeartbeats 4000000
set_option linter.unusedVariables false
set_option linter.unusedSimpArgs false
namespace Go.Proofs.Ythonhibocgnegaa.Mem
open Go Go.Proofs.Ythonhibocgnegaa.Eng Go.RowKit
theorem w55 : Ins.wd 55 = 8 := by unfold Ins.wd; simp
theorem w60 : Ins.wd 60 = 1 := by unfold Ins.wd; simp
theorem leB_succ : ∀ (k : Nat) (u : Int), leB (k + 1) u = leB k u ++ leB 1 (u / 256 ^ k)
  | 0, u => by rw [Int.pow_zero, Int.ediv_one]; rfl
  | k + 1, u => by
    show byteOf u :: leB (k + 1) (u / 256) = (byteOf u :: leB k (u / 256)) ++ leB 1 (u / 256 ^ (k + 1))
    rw [leB_succ k (u / 256), List.cons_append, Int.ediv_ediv_of_nonneg (by decide), Int.pow_succ, Int.mul_comm]
theorem bytes_step {ys : List UInt8} {qs qs' : List Page} {k : Nat} {B u z : Int} (hf : flat qs = ow ys (B + 0).toNat (leB k u)) (h : flat qs' = ow (flat qs) (B + k).toNat (leB (Ins.wd 60).toNat z)) (hz : z = u / 256 ^ k) (hB : 0 ≤ B) (hl : B + k + 1 ≤ ys.length) : flat qs' = ow ys (B + 0).toNat (leB (k + 1) u) := by
  rw [h, hf, w60, hz, leB_succ, show (B + (k : Int)).toNat = (B + 0).toNat + (leB k u).length by rw [leB_len]; omega]
  exact ow_ow (by rw [leB_len, leB_len]; show _ + _ + 1 ≤ _; omega)
theorem shr8 (u : Int) {k : Nat} (hk : k ≤ 7) : vShr .i64 u (8 * (k : Int)) = u / 256 ^ k := by
  have h := vShr_eq .i64 u (8 * k) (by show 8 * k ≤ 64; omega)
  rw [show ((8 * k : Nat) : Int) = 8 * (k : Int) by omega] at h
  rw [h, show (256 : Int) ^ k = 2 ^ (8 * k) by rw [Int.pow_mul]; rfl]
theorem div_rng {u m : Int} (hu : -9223372036854775808 ≤ u ∧ u ≤ 9223372036854775807) (hm : 1 ≤ m) : -9223372036854775808 ≤ u / m ∧ u / m ≤ 9223372036854775807 := by
  refine ⟨(Int.le_ediv_iff_mul_le (by omega)).2 (by omega), Int.le_of_lt_add_one (Int.ediv_lt_of_lt_mul (by omega) (by omega))⟩
theorem memBytes (ys : List UInt8) (base u : Int) (hy : ys.length ≤ 9223372036854775807) (hb : -9223372036854775808 ≤ base ∧ base ≤ 9223372036854775807) (hu : -9223372036854775808 ≤ u ∧ u ≤ 9223372036854775807) (w : World) :
    Fc Try.prog 6 #[.string (bs ys), .int .i64 base, .int .i64 u] w (fun v w' => v = .bool true ∧ Below w.heap.size w w') := by
  refine Fc.of Try.func6 rfl (by kernel_rfl) ?_
  have H := Sat.start w
  have h55 := w55
  have h60 := w60
  refine CallP.mk (Fc.imp (Go.Proofs.Ythonhibocgnegaa.Mem.of _ _ _ ?_) ?_)
  · assumption
  rintro _ w1 (⟨h1, ⟨p1, ⟨v1, ⟨ps1, ⟨rfl, ⟨h2, ⟨h3, H'⟩⟩⟩⟩⟩⟩⟩ | ⟨h4, ⟨rfl, H'⟩⟩)
  rotate_left
  · refine H.mergeK H' ?_
    clear H H'
    intro H
    refine CallP.mk (Fc.imp (Go.Proofs.Ythonhibocgnegaa.Mem.of _ _ _ ?_) ?_)
    · assumption
    rintro _ w2 (⟨h1, ⟨p1, ⟨v1, ⟨ps1, ⟨rfl, ⟨h2, ⟨h3, H'⟩⟩⟩⟩⟩⟩⟩ | ⟨h5, ⟨rfl, H'⟩⟩)
    · refine H.mergeK H' ?_
      clear H H'
      intro H
      refine br_t (vNe_T (by omega)) ?_
      refine cT rfl ?_
      refine Done.mk ?_
      refine ⟨?_, ?_⟩
      · exact congrArg Value.bool (vEq_T (by assumption))
      exact H.finish
    refine H.mergeK H' ?_
    clear H H'
    intro H
    refine br_t (vNe_T (by omega)) ?_
    refine cT rfl ?_
    refine Done.mk ?_
    refine ⟨?_, ?_⟩
    · exact congrArg Value.bool (vEq_T (by assumption))
    exact H.finish
  refine H.mergeK H' ?_
  clear H H'
  intro H
  refine CallP.mk (Fc.imp (Go.Proofs.Ythonhibocgnegaa.Mem.of _ _ _ ?_) ?_)
  · assumption
  rintro _ w2 (⟨h4, ⟨p2, ⟨v2, ⟨ps2, ⟨rfl, ⟨h5, ⟨h6, H'⟩⟩⟩⟩⟩⟩⟩ | ⟨h7, ⟨rfl, H'⟩⟩)
  rotate_left
  · refine H.mergeK H' ?_
    clear H H'
    intro H
    refine br_t (vNe_T (by exact absurd h1 h7)) ?_
    refine cT rfl ?_
    refine Done.mk ?_
    exact absurd h1 h7
  refine H.mergeK H' ?_
  clear H H'
  intro H
  refine br_f (vNe_F (by omega)) ?_
  refine rPtrNil rfl ?_
  refine rPtrNil rfl ?_
  refine cF rfl ?_
  refine H.fronts [3, 3] ?_
  clear H
  intro H
  refine CallP.mk (Fc.imp (Go.Proofs.Ythonhibocgnegaa.Mem.store H _ _ _ _ ?_ ?_ ?_ ?_ ?_) ?_)
  · assumption
  · omega
  · omega
  · omega
  · assumption
  clear H
  rintro _ w3 ⟨e1, ⟨ps'1, ⟨rfl, ⟨(⟨h7, ⟨h8, h9⟩⟩ | ⟨h10, ⟨h11, h12⟩⟩), ⟨h13, H⟩⟩⟩⟩⟩
  · refine cT (vNe_T (by omega)) ?_
    refine CallP.mk (Fc.imp (Go.Proofs.Ythonhibocgnegaa.Mem.all H ?_) ?_)
    · omega
    clear H
    rintro _ w4 ⟨rfl, H⟩
    refine rStrEq ?_
    refine Done.mk ?_
    refine ⟨?_, ?_⟩
    · exact congrArg Value.bool (decide_eq_true (by rw [h8, h2]))
    exact H.finish
  refine cF (vNe_F (by assumption)) ?_
  have hl1 := congrArg List.length h2
  have hl2 := congrArg List.length h5
  rw [flat_length] at hl1 hl2
  refine LoopP.rule (α := Nat × List Page) (0, ps2) (fun x_ => [(43, .int .i64 x_.1)]) (fun x_ w_ => (x_.1 ≤ 8) ∧ (x_.2.length = ps2.length) ∧ (flat x_.2 = ow ys (base % 4294967296 + 0).toNat (leB x_.1 u)) ∧ Sat (froz w) w_ ([Pt p1 [v1, .int .i64 8] 48, Sl 51 256 enP v1 ps'1, Pt p2 [v2, .int .i64 8] 48, Sl 51 256 enP v2 x_.2])) (fun x_ => 8 - x_.1) ?_ ?_ ?_
  · repeat first | exact mt_nil | refine mt_cons rfl ?_ | refine mt_i rfl (by first | omega | (simp only; omega) | (simp; omega) | (simp; done)) ?_
  · try simp only
    refine ⟨?_, ?_⟩
    · omega
    refine ⟨?_, ?_⟩
    · (constructor <;> omega)
    refine ⟨?_, ?_⟩
    · (rw [h5]; exact (ow_nil _ _).symm)
    exact H
  clear H
  rintro ⟨k, qs⟩ f_ w_ ⟨hk, hql, hf, H⟩
  try simp only at hk hql hf H ⊢
  rcases Nat.lt_or_ge k 8 with hk8 | hk8
  · have hsh := shr8 u (show k ≤ 7 by omega)
    have hz : -9223372036854775808 ≤ vShr .i64 u (8 * (k : Int)) ∧ vShr .i64 u (8 * (k : Int)) ≤ 9223372036854775807 := by
      rw [hsh]; exact div_rng hu (Int.le_of_lt_add_one (by have := Int.pow_pos (n := 256) (m := k) (by decide); omega))
    refine cT (vLt_T (by omega)) ?_
    refine bk ?_
    refine eqI64 (by omega) ?_
    refine ShiftP.mk (by omega) ?_
    refine EqP.keep ?_
    refine H.fronts [3, 3] ?_
    clear H
    intro H
    refine CallP.mk (Fc.imp (Go.Proofs.Ythonhibocgnegaa.Mem.store H _ _ _ _ ?_ ?_ ?_ ?_ ?_) ?_)
    · omega
    · omega
    · omega
    · omega
    · assumption
    clear H
    rintro _ w4 ⟨e2, ⟨ps'2, ⟨rfl, ⟨(⟨h7, ⟨h8, h9⟩⟩ | ⟨h14, ⟨h15, h16⟩⟩), ⟨h17, H⟩⟩⟩⟩⟩
    · refine cT (vNe_T (by omega)) ?_
      refine Done.mk ?_
      refine ⟨?_, ?_⟩
      · exact congrArg Value.bool ((by omega))
      omega
    refine cF (vNe_F (by assumption)) ?_
    refine eqI64 (by omega) ?_
    refine Nxt.mk ((k + 1, ps'2)) (mt_i rfl (by first | omega | (simp only; omega) | (simp; omega)) (mt_nil)) ?_ ?_
    · refine ⟨?_, ?_⟩
      · assumption
      refine ⟨?_, ?_⟩
      · (simp only [List.length_append, List.length_set, List.length_cons, List.length_nil]; omega)
      refine ⟨?_, ?_⟩
      · exact bytes_step hf (by assumption) hsh (by omega) (by omega)
      refine H.fronts [1, 1, 3, 3] ?_
      clear H
      intro H
      exact H
    omega
  · refine cF (vLt_F (by omega)) ?_
    refine CallP.mk (Fc.imp (Go.Proofs.Ythonhibocgnegaa.Mem.all H ?_) ?_)
    · omega
    clear H
    rintro _ w4 ⟨rfl, H⟩
    refine H.fronts [3, 3] ?_
    clear H
    intro H
    refine CallP.mk (Fc.imp (Go.Proofs.Ythonhibocgnegaa.Mem.all H ?_) ?_)
    · omega
    clear H
    rintro _ w5 ⟨rfl, H⟩
    refine rStrEq ?_
    refine Done.mk ?_
    refine ⟨?_, ?_⟩
    · exact congrArg Value.bool (decide_eq_true (by rw [h12, hf, h2, h55, show k = 8 by omega]; rfl))
    exact H.finish
end Go.Proofs.Ythonhibocgnegaa.Mem
