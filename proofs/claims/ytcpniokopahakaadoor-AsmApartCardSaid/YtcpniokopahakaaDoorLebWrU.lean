/- (without the signed half) Package leb: writing. -/
import Derived.Test.YtcpniokopahakaaDoorLebP
import Derived.Test.YtcpniokopahakaaDoorVw
import Derived.Test.YtcpniokopahakaaDoorJoin
set_option maxRecDepth 100000
set_option maxHeartbeats 4000000
set_option linter.unusedVariables false
set_option linter.unusedSimpArgs false
namespace Go.Proofs.YtcpniokopahakaaDoor.Leb
open Go Go.Proofs.YtcpniokopahakaaDoor.Eng Go.RowKit
theorem or128 {x : Nat} (h : x < 128) : x ||| 128 = x + 128 := by
  have := Nat.two_pow_add_eq_or_of_lt (i := 7) h 1
  rw [Nat.mul_one] at this
  rw [Nat.or_comm]
  show 2 ^ 7 ||| x = x + 128
  rw [← this]; omega
theorem U1 (n : Int) (w : World) : Fc Tryd.prog 117 #[.int .u64 n] w (fun v w' => v = .bool (vLt n 128) ∧ w = w') := by
  refine Fc.of Tryd.func117 rfl (by kernel_rfl) ?_
  have H := Sat.start w
  refine Done.mk ?_
  exact ⟨rfl, rfl⟩
theorem write_u (n : Int) (m0 : Nat) (hm0 : n = (m0 : Int)) (hn : m0 < 2 ^ 64) (w : World) : Fc Tryd.prog 116 #[.int .u64 n, .func (.func 117) #[] #[]] w
    (fun v w' => ∃ l, v = .string (bs l) ∧ l = uleb m0 ∧ Sat (froz w) w' []) := by
  subst hm0
  have hlen : (uleb m0).length ≤ 10 := uleb_len 9 m0 (by omega)
  refine Fc.of Tryd.func116 rfl (by kernel_rfl) ?_
  have H := Sat.start w
  
  refine LoopP.rule (α := Nat × Value × List UInt8) (m0, .slice none 0 0, []) (fun x_ => [(0, .int .u64 x_.1), (5, x_.2.1)]) (fun x_ w_ => (x_.2.2 ++ uleb x_.1 = uleb m0) ∧ (x_.1 < 2 ^ 64) ∧ Sat (froz w) w_ ((Sl 5 1 enY x_.2.1 x_.2.2 :: []))) (fun x_ => x_.1) ?_ ?_ ?_
  · repeat first | exact mt_nil | refine mt_cons rfl ?_ | refine mt_i rfl (by first | omega | (simp only; omega) | (simp; omega) | (simp; done)) ?_
  · try simp only
    refine ⟨?_, ?_⟩
    · rfl
    refine ⟨?_, ?_⟩
    · assumption
    replace H := H.sl0 (en := enY) (s := 1) (5) (fun _ => rfl)
    exact H
  clear H
  rintro ⟨m, vo, l⟩ f_ w_ ⟨hl, hm, H⟩
  try simp only at hl hm H ⊢
  have hll : l.length + (uleb m).length ≤ 10 := by rw [← List.length_append, hl]; exact hlen
  have hpos := uleb_pos m
  have e0 : vAnd .u64 (m : Int) 127 = ((m % 128 : Nat) : Int) := by rw [vAnd127]; omega
  by_cases h : m < 128
  · have hu := uleb_lt h
    rw [hu] at hl
    refine CallP.mk (Fc.imp (Go.Proofs.YtcpniokopahakaaDoor.Leb.U1 _ _) ?_)
    rintro _ _ ⟨rfl, rfl⟩
    refine cF (not_F (vLt_T (by omega))) ?_
    refine EqP.mk _ e0 ?_
    refine rConvU8 (by omega) rfl rfl ?_
    refine rBuildSliceS H rfl rfl rfl rfl ?_
    clear H
    intro p1 w1 H
    clear w_
    have hbk1 := byteIs (x := (↑(m % 128) : Int)) (n := (m % 128)) (by omega)
    rw [hbk1] at H
    clear hbk1
    refine rApS (ys := [_]) 1 H 1 rfl (H.at 0 rfl) rfl (fun y _ => rfl) rfl rfl rfl (by omega) (by omega) ?_
    intro v1
    clear H
    intro w2 H
    clear w1
    refine rBytesStrS H 1 rfl rfl rfl rfl ?_
    refine Done.mk ?_
    refine ⟨l ++ [UInt8.ofNat (m % 128)], ?_⟩
    refine ⟨?_, ?_⟩
    · rfl
    refine ⟨?_, ?_⟩
    · (rw [Nat.mod_eq_of_lt h]; exact hl)
    refine H.firsts 0 ?_
    clear H
    intro H
    exact H
  · have hu := uleb_ge (n := m) (by omega)
    rw [hu] at hl
    have ho : m % 128 ||| 128 = m % 128 + 128 := by
      exact or128 (by omega)
    refine CallP.mk (Fc.imp (Go.Proofs.YtcpniokopahakaaDoor.Leb.U1 _ _) ?_)
    rintro _ _ ⟨rfl, rfl⟩
    refine cT (not_T (vLt_F (by omega))) ?_
    refine bk ?_
    refine EqP.mk _ e0 ?_
    refine rConvU8 (by omega) rfl rfl ?_
    (refine eqOrU8 ((m % 128)) (128) (by omega) (by omega) (by omega) (by omega) ?_; intro hB)
    refine rBuildSliceS H rfl rfl rfl rfl ?_
    clear H
    intro p1 w1 H
    clear w_
    have hbk1 := byteIs (x := (↑(m % 128 ||| 128) : Int)) (n := (m % 128 ||| 128)) (by omega)
    rw [hbk1] at H
    clear hbk1
    refine rApS (ys := [_]) 1 H 1 rfl (H.at 0 rfl) rfl (fun y _ => rfl) rfl rfl rfl (by omega) (by omega) ?_
    intro v1
    clear H
    intro w2 H
    clear w1
    refine ShiftP.mk (by decide) ?_
    refine eqShrL 7 128 rfl rfl (by decide) ?_
    refine Nxt.mk ((m / 128, v1, l ++ [UInt8.ofNat (m % 128 ||| 128)])) (mt_i rfl (by first | omega | (simp only; omega) | (simp; omega)) (mt_cons rfl (mt_nil))) ?_ ?_
    · refine ⟨?_, ?_⟩
      · (rw [ho, List.append_assoc]; exact hl)
      refine ⟨?_, ?_⟩
      · omega
      refine H.fronts [1] ?_
      clear H
      intro H
      refine H.firsts 1 ?_
      clear H
      intro H
      exact H
    omega
theorem U (n : Int) (m0 : Nat) (hm0 : n = (m0 : Int)) (hn : m0 < 2 ^ 64) (w : World) : Fc Tryd.prog 43 #[.int .u64 n] w (fun v w' => ∃ l, v = .string (bs l) ∧ l = uleb m0 ∧ l.length ≤ 10 ∧ Sat (froz w) w' []) := by
  subst hm0
  have hlen : (uleb m0).length ≤ 10 := uleb_len 9 m0 (by omega)
  refine Fc.of Tryd.func43 rfl (by kernel_rfl) ?_
  have H := Sat.start w
  refine CallP.mk (Fc.imp (Go.Proofs.YtcpniokopahakaaDoor.Leb.write_u _ (m0) ?_ ?_ _) ?_)
  · omega
  · assumption
  rintro _ w1 ⟨l1, ⟨rfl, ⟨h1, H'⟩⟩⟩
  refine H.mergeK H' ?_
  clear H H'
  intro H
  refine Done.mk ?_
  refine ⟨l1, ?_⟩
  refine ⟨?_, ?_⟩
  · rfl
  refine ⟨?_, ?_⟩
  · assumption
  refine ⟨?_, ?_⟩
  · (rw [h1]; exact hlen)
  exact H
end Go.Proofs.YtcpniokopahakaaDoor.Leb
