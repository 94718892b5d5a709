/- Package mem: Load, in bounds. -/
import Derived.Test.YtffkcgogkhdcdaaMemL
set_option maxRecDepth 100000
set_option maxHeartbeats 4000000
set_option linter.unusedVariables false
set_option linter.unusedSimpArgs false
namespace Go.Proofs.Ytffkcgogkhdcdaa.Mem
open Go Go.Proofs.Ytffkcgogkhdcdaa.Eng Go.RowKit
theorem take1 {α : Type} {l : List α} {q : Nat} {c : α} (h : l[q]? = some c) : (l.drop q).take 1 = [c] := by
  obtain ⟨hq, rfl⟩ := List.getElem?_eq_some_iff.1 h
  rw [List.drop_eq_getElem_cons hq]; rfl
theorem leV_step {l : List UInt8} {A i m : Nat} {c : UInt8} (hc : l[A + i]? = some c) (hi : i < m) : leV ((l.drop (A + i)).take (m - i)) = c.toNat + 256 * leV ((l.drop (A + (i + 1))).take (m - (i + 1))) := by
  obtain ⟨hq, rfl⟩ := List.getElem?_eq_some_iff.1 hc
  rw [List.drop_eq_getElem_cons hq, show m - i = (m - (i + 1)) + 1 by omega, List.take_succ_cons, leV]; rfl
theorem shor (x : Nat) (c : Nat) (hx : x < 72057594037927936) (hc : c < 256) : vOr .u64 (vShl .u64 (x : Int) 8) (c : Int) = ((c + 256 * x : Nat) : Int) := by
  have e : vShl .u64 (x : Int) 8 = ((256 * x : Nat) : Int) := by
    have h := vShl_eq .u64 (x : Int) 8 (by decide)
    rw [show ((8 : Nat) : Int) = 8 from rfl] at h
    rw [h, wu64 (by omega)]
    omega
  rw [e]
  obtain ⟨z, h1, h2⟩ := eqOrAddU64 (K := fun z => z = ((c + 256 * x : Nat) : Int)) (x := ((256 * x : Nat) : Int)) (y := (c : Int)) 8 256 rfl (by omega) (by omega) (by omega) (by omega) (by omega)
  rw [h1, h2]
theorem load {g : Glob} {w : World} {l : List As} {p : Nat} {v mo : Value} {ps : List Page} (H : Sat g w (Pt p [v, mo] 110 :: Sl 116 256 enP v ps :: l)) (op base off : Int) (hp : ps.length ≤ 8) (hop : op < 54) (hw : 0 < Ins.wd op) (ho : 0 ≤ off ∧ off ≤ 4294967295) :
    Fc Try.prog 30 #[.pointer (some ⟨p, 0, none⟩), .int .u8 op, .int .i64 base, .int .i64 off] w (fun r w' => ∃ n e, r = .tuple #[.int .i64 n, .int .i64 e] ∧ ((e = 23 ∧ ¬ (base % 4294967296 + off + Ins.wd op ≤ 256 * ps.length)) ∨ (e = 0 ∧ (base % 4294967296 + off + Ins.wd op ≤ 256 * ps.length) ∧ n = ldV op (leV (((flat ps).drop (base % 4294967296 + off).toNat).take (Ins.wd op).toNat)))) ∧ Sat g w' (Pt p [v, mo] 110 :: Sl 116 256 enP v ps :: l)) := by
  refine Fc.of Try.func30 rfl (by kernel_rfl) ?_
  have hws := Ins.wd_set op
  obtain ⟨m, hm⟩ : ∃ m : Nat, Ins.wd op = m := ⟨(Ins.wd op).toNat, by omega⟩
  rw [hm, Int.toNat_natCast]
  rw [hm] at hws
  refine CallP.mk (Fc.imp (Go.Proofs.Ytffkcgogkhdcdaa.Ins.width _ _) ?_)
  rintro _ _ ⟨⟨r1, ⟨rfl, h1⟩⟩, rfl⟩
  refine rConvU32M rfl rfl ?_
  refine rConvI64 (by omega) rfl rfl ?_
  refine bk ?_
  refine br_f (vEq_F (by omega)) ?_
  refine cF (vLe_F (by assumption)) ?_
  refine br_f (vLt_F (by omega)) ?_
  refine cF (vLt_F (by omega)) ?_
  refine eqI64 (by omega) ?_
  refine CallP.mk (Fc.imp (Go.Proofs.Ytffkcgogkhdcdaa.Mem.has H _ _ ?_ ?_) ?_)
  · assumption
  · omega
  clear H
  rintro _ w1 ⟨⟨b1, ⟨rfl, h2⟩⟩, H⟩
  refine cI (fun c1 => ?_) (fun c1 => ?_)
  · replace c1 := iff_f h2 (not_t (c1))
    refine Done.mk ?_
    refine ⟨0, 23, ?_⟩
    refine ⟨?_, ?_⟩
    · rfl
    refine ⟨?_, ?_⟩
    · refine (Or.inl ?_)
      refine ⟨?_, ?_⟩
      · omega
      intro x1
      omega
    exact H
  replace c1 := h2.1 (not_f (c1))
  refine eqI64 (by omega) ?_
  refine eqI64 (by omega) ?_
  obtain ⟨A, hA⟩ : ∃ A : Nat, (A : Int) = base % 4294967296 + off := ⟨(base % 4294967296 + off).toNat, by omega⟩
  rw [← hA, Int.toNat_natCast]
  rw [← hA] at c1 h2
  have hfl := flat_length ps
  refine LoopP.rule (α := Nat × Nat) (m, 0) (fun x_ => [(13, .int .i64 ((x_.1 : Int) - 1)), (12, .int .u64 x_.2)]) (fun x_ w_ => (x_.1 ≤ m) ∧ (x_.2 = leV (((flat ps).drop (A + x_.1)).take (m - x_.1))) ∧ Sat g w_ ((Pt p [v, mo] 110 :: Sl 116 256 enP v ps :: l))) (fun x_ => x_.1) ?_ ?_ ?_
  · repeat first | exact mt_nil | refine mt_cons rfl ?_ | refine mt_i rfl (by first | omega | (simp only; omega) | (simp; omega) | (simp; done)) ?_
  · try simp only
    refine ⟨?_, ?_⟩
    · omega
    refine ⟨?_, ?_⟩
    · (rw [Nat.sub_self]; rfl)
    exact H
  clear H
  rintro ⟨j, x⟩ f_ w_ ⟨hj, hx, H⟩
  try simp only at hj hx H ⊢
  rcases Nat.eq_zero_or_pos j with hj0 | hj0
  · subst hj0
    rw [Nat.sub_zero, Nat.add_zero] at hx
    have hx64 : x ≤ 18446744073709551615 := by
      have h3 := leV_lt (((flat ps).drop A).take m)
      rw [← hx, List.length_take, List.length_drop] at h3
      have h4 : 256 ^ (min m ((flat ps).length - A)) ≤ 256 ^ 8 := Nat.pow_le_pow_right (by decide) (by omega)
      omega
    rw [← hx]
    refine cF (vLe_F (by omega)) ?_
    refine CallP.mk (Fc.imp (Go.Proofs.Ytffkcgogkhdcdaa.Mem.isSigned _ _) ?_)
    rintro _ _ ⟨⟨b2, ⟨rfl, h3⟩⟩, rfl⟩
    refine cI (fun c2 => ?_) (fun c2 => ?_)
    · replace c2 := h3.1 (c2)
      refine CallP.mk (Fc.imp (Go.Proofs.Ytffkcgogkhdcdaa.Mem.lowC _ _ ?_ ?_ _) ?_)
      · omega
      · omega
      rintro _ _ ⟨⟨q1, ⟨rfl, h4⟩⟩, rfl⟩
      refine Done.mk ?_
      refine ⟨q1, 0, ?_⟩
      refine ⟨?_, ?_⟩
      · rfl
      refine ⟨?_, ?_⟩
      · refine (Or.inr ?_)
        refine ⟨?_, ?_⟩
        · omega
        refine ⟨?_, ?_⟩
        · omega
        exact h4.trans (by unfold ldV; rw [if_pos c2, h1])
      exact H
    replace c2 := iff_f h3 (c2)
    refine rConvInt rfl rfl ?_
    refine Done.mk ?_
    refine ⟨vWrap IntKind.i64 (↑x : Int), 0, ?_⟩
    refine ⟨?_, ?_⟩
    · rfl
    refine ⟨?_, ?_⟩
    · refine (Or.inr ?_)
      refine ⟨?_, ?_⟩
      · omega
      refine ⟨?_, ?_⟩
      · omega
      exact (if_neg c2).symm
    exact H
  · obtain ⟨i, rfl⟩ : ∃ k, j = k + 1 := ⟨j - 1, by omega⟩
    refine cT (vLe_T (by omega)) ?_
    refine bk ?_
    refine eqI64 (by omega) ?_
    refine ShiftP.mk (by decide) ?_
    refine EqP.keep ?_
    refine rFieldAt rfl ?_
    refine rLd (H.at 0 rfl) 0 rfl rfl rfl ?_
    refine DivP.mk (by decide) ?_
    refine eqQuo (by omega) (by omega) ?_
    refine DivP.mk (by decide) ?_
    refine eqRem (by omega) ?_
    obtain ⟨x1, hx1⟩ : ∃ x, (ps)[(((A) + ((i + 1) - 1)) / 256)]? = some x := ⟨_, List.getElem?_eq_getElem (by omega)⟩
    obtain ⟨b2, o1, E1⟩ := H.elt 1 rfl (((A) + ((i + 1) - 1)) / 256) (by omega)
    refine rIxE E1 (by omega) rfl rfl ?_
    refine rIxArr 1 (((A) + ((i + 1) - 1)) % 256) (by omega) (by omega) rfl rfl ?_
    obtain ⟨c, hc⟩ : ∃ c, x1.l[(A + i) % 256]? = some c := ⟨_, List.getElem?_eq_getElem (by rw [x1.h]; omega)⟩
    have hat := atY (xs := x1.l) (show At _ _ _ (enP x1) from H.el 1 rfl E1 hx1) ((A + i) % 256) 1
    rw [take1 hc] at hat
    refine rLd hat 0 (by simp) rfl rfl ?_
    have hfc : (flat ps)[A + i]? = some c := by rw [flat_get, show ps[(A + i) / 256]? = some x1 from hx1]; exact hc
    have hst := leV_step hfc (show i < m by omega)
    rw [← hx] at hst
    have hx56 : x < 72057594037927936 := by
      have h3 := leV_lt (((flat ps).drop (A + (i + 1))).take (m - (i + 1)))
      rw [← hx, List.length_take, List.length_drop] at h3
      have h4 : 256 ^ (min (m - (i + 1)) ((flat ps).length - (A + (i + 1)))) ≤ 256 ^ 7 := Nat.pow_le_pow_right (by decide) (by omega)
      omega
    have hcl := c.toNat_lt
    have hor := shor x c.toNat hx56 hcl
    refine rConvU64 (by omega) rfl rfl ?_
    refine EqP.mk _ hor ?_
    refine eqI64 (by omega) ?_
    rw [show (((i + 1 : Nat) : Int) - 1 - 1) = (i : Int) - 1 by omega]
    refine Nxt.mk ((i, c.toNat + 256 * x)) (mt_cons rfl (mt_cons rfl (mt_nil))) ?_ ?_
    · refine ⟨?_, ?_⟩
      · omega
      refine ⟨?_, ?_⟩
      · exact hst.symm
      exact H
    omega
end Go.Proofs.Ytffkcgogkhdcdaa.Mem
