/- The law FrameTurned. -/
import Derived.Test.YtepceieglhfnoaaFrame8
set_option maxRecDepth 100000
set_option maxHeartbeats 4000000
set_option linter.unusedVariables false
set_option linter.unusedSimpArgs false
namespace Go.Proofs.Ytepceieglhfnoaa.Frame
open Go Go.Proofs.Ytepceieglhfnoaa.Eng Go.RowKit
theorem rem_pos {a b : Int} (h : 0 ≤ a) : vRem a b = a % b := by unfold vRem; exact Int.tmod_eq_emod_of_nonneg h
theorem rem_ways {a b : Int} (hb : 0 < b) (h : a < 0) : (vRem a b = 0 ∧ a % b = 0) ∨ (vRem a b < 0 ∧ a % b = vRem a b + b) := by
  unfold vRem
  rw [Int.tmod_eq_emod]
  have h1 := Int.emod_nonneg a (Int.ne_of_gt hb)
  have h2 := Int.emod_lt_of_pos a hb
  by_cases hd : b ∣ a
  · left
    have := Int.emod_eq_zero_of_dvd hd
    rw [if_pos (.inr hd)]
    omega
  · right
    rw [if_neg (by rintro (h' | h'); omega; exact hd h')]
    have : (b.natAbs : Int) = b := by omega
    rw [this]
    omega
theorem rest (n m : Int) (hn : I64 n) (hm : 0 < m ∧ m ≤ 9223372036854775807) (w : World) : Fc Try.prog 25 #[.int .i64 n, .int .i64 m] w (fun v w' => v = .int .i64 (n % m) ∧ w = w') := by
  refine Fc.of Try.func25 rfl (by kernel_rfl) ?_
  have H := Sat.start w
  have h1 := Int.emod_nonneg n (Int.ne_of_gt hm.1)
  have h2 := Int.emod_lt_of_pos n hm.1
  rcases Int.lt_or_le n 0 with hlt | hge
  · have hw := rem_ways hm.1 hlt
    refine DivP.mk (by omega) ?_
    refine EqP.keep ?_
    refine cI (fun c1 => ?_) (fun c1 => ?_)
    · replace c1 := vLt_t (c1)
      refine eqI64 (by omega) ?_
      refine Done.mk ?_
      refine ⟨?_, ?_⟩
      · refine int_eq ?_
        omega
      rfl
    replace c1 := vLt_f (c1)
    refine Done.mk ?_
    refine ⟨?_, ?_⟩
    · refine int_eq ?_
      omega
    rfl
  · refine DivP.mk (by omega) ?_
    refine eqRem (by omega) ?_
    refine cF (vLt_F (by assumption)) ?_
    refine Done.mk ?_
    exact ⟨rfl, rfl⟩
theorem turn_none (s : List UInt8) (p W : Nat) (q : Nat) : s[q]? = (s[q]?).map fun c => if p ≤ q ∧ q < p + 0 then c ^^^ UInt8.ofNat (W / 256 ^ (q - p)) else c := by
  cases s[q]? with
  | none => rfl
  | some c => rw [Option.map_some, if_neg (by omega)]
theorem turn_step {s T : List UInt8} {p i W : Nat} {y : UInt8} (hT : ∀ q, T[q]? = (s[q]?).map fun c => if p ≤ q ∧ q < p + i then c ^^^ UInt8.ofNat (W / 256 ^ (q - p)) else c) (hy : T[p + i]? = some y) :
    ∀ q, (T.set (p + i) (UInt8.ofNat (y.toNat ^^^ (W / 2 ^ (8 * i) % 256))))[q]? = (s[q]?).map fun c => if p ≤ q ∧ q < p + (i + 1) then c ^^^ UInt8.ofNat (W / 256 ^ (q - p)) else c := by
  intro q
  have hs : s[p + i]? = some y := by
    have := hT (p + i)
    rw [hy] at this
    cases h : s[p + i]? with
    | none => rw [h] at this; cases this
    | some c =>
      rw [h, Option.map_some, if_neg (by omega)] at this
      exact this.symm
  rw [List.getElem?_set]
  by_cases e : p + i = q
  · subst e
    rw [if_pos rfl, if_pos (List.getElem?_eq_some_iff.1 hy).1, hs, Option.map_some, if_pos (by omega), xor_byte, p256, show p + i - p = i by omega]
  · rw [if_neg e, hT q]
    cases s[q]? with
    | none => rfl
    | some c =>
      rw [Option.map_some, Option.map_some]
      by_cases h2 : p ≤ q ∧ q < p + i
      · rw [if_pos h2, if_pos (by omega)]
      · rw [if_neg h2, if_neg (by omega)]
theorem sum9 : sumL [49, 50, 51, 52, 53, 54, 55, 56, 57] = 3421780262 := by kernel_rfl
theorem frameTurned (w : World) (x : Fr) (at' bits : Int) (hx : okFS x) (hat : I64 at') (hb : U32 bits) : Fc Try.prog 6 #[.agg (cellsF x).toArray, .int .i64 at', .int .u32 bits] w (fun v w' => v = .bool true ∧ Below w.heap.size w w') := by
  have hx : x.body.length ≤ 9223372036854775807 := hx
  refine Fc.of Try.func6 rfl (by kernel_rfl) ?_
  have H := Sat.start w
  have h9 := sum9
  by_cases hc : chkF x = 0
  · have hP := wrR_ok hc
    have hL := wrF_len x
    have hB := (chkF_ok hc).2
    have k1 := Int.emod_nonneg at' (b := 8 * ((wrF x).length : Int) - 31) (by omega)
    have k2 := Int.emod_lt_of_pos at' (b := 8 * ((wrF x).length : Int) - 31) (by omega)
    obtain ⟨k, hk⟩ : ∃ k : Nat, at' % (8 * ((wrF x).length : Int) - 31) = k := ⟨(at' % (8 * ((wrF x).length : Int) - 31)).toNat, by omega⟩
    rw [hk] at k1 k2
    obtain ⟨B, rfl⟩ : ∃ B : Nat, bits = B := ⟨bits.toNat, by omega⟩
    have hj : (2 : Nat) ^ (k % 8) ≤ 128 := by
      have h7 : k % 8 ≤ 7 := by omega
      exact Nat.pow_le_pow_right (by decide) h7
    have hEb : B * 2 ^ (k % 8) ≤ 4294967295 * 128 := Nat.mul_le_mul (by omega) hj
    have hE : B * 2 ^ (k % 8) ≤ 18446744073709551615 := Nat.le_trans hEb (by decide)
    refine rBoxS H ?_
    clear H
    intro p1 w1 H
    refine rLdA (H.at 0 rfl) 0 rfl rfl rfl ?_
    refine CallP.mk (Fc.imp (Go.Proofs.Ytepceieglhfnoaa.Frame.write _ ?_ _) ?_)
    · assumption
    rintro _ w2 ⟨s1, ⟨e1, ⟨rfl, ⟨h1, H'⟩⟩⟩⟩
    refine H.mergeK H' ?_
    clear H H'
    intro H
    rw [hP] at h1
    obtain ⟨rfl, rfl⟩ := Prod.mk.inj h1
    clear h1
    refine CallP.mk (Fc.imp (Go.Proofs.Ytepceieglhfnoaa.Frame.sum _ ?_ _) ?_)
    · (simp only [List.length_append, List.length_set, List.length_cons, List.length_nil]; omega)
    rintro _ w3 ⟨rfl, H'⟩
    refine H.mergeK H' ?_
    clear H H'
    intro H
    refine cF (vNe_F (by rfl)) ?_
    refine br_f (vNe_F (by rfl)) ?_
    refine cI (fun c1 => ?_) (fun c1 => ?_)
    · replace c1 := vEq_t (c1)
      refine br_t (vEq_T (by rfl)) ?_
      refine Done.mk ?_
      exact ⟨rfl, H.finish⟩
    replace c1 := vEq_f (c1)
    refine rLenStr rfl ?_
    refine cF (vLt_F (by omega)) ?_
    refine rLenStr rfl ?_
    refine eqI64 (by omega) ?_
    refine eqI64 (by omega) ?_
    refine CallP.mk (Fc.imp (Go.Proofs.Ytepceieglhfnoaa.Frame.rest _ _ ?_ ?_ _) ?_)
    · assumption
    · omega
    rintro _ _ ⟨rfl, rfl⟩
    rw [hk]
    refine rStrBytesS H rfl rfl rfl ?_
    intro v1
    clear H
    intro w4 H
    clear w3
    refine rConvU64 (by omega) rfl rfl ?_
    refine DivP.mk (by decide) ?_
    refine eqRem (by omega) ?_
    refine ShiftP.mk (by omega) ?_
    refine eqShlNU64 ((B)) (((k) % 8)) (by omega) (by omega) (by omega) (by assumption) ?_
    refine LoopP.rule (α := Nat × List UInt8) (0, wrF x) (fun x_ => [(12, .int .i64 x_.1)]) (fun x_ w_ => (x_.1 ≤ 5 ∧ k / 8 + x_.1 ≤ (wrF x).length) ∧ (x_.2.length = (wrF x).length) ∧ (∀ q : Nat, x_.2[q]? = ((wrF x)[q]?).map fun c => if k / 8 ≤ q ∧ q < k / 8 + x_.1 then c ^^^ UInt8.ofNat (B * 2 ^ (k % 8) / 256 ^ (q - k / 8)) else c) ∧ Sat (froz w) w_ ([Sb 5 v1 x_.2, Pt p1 (cellsF x) 49])) (fun x_ => 5 - x_.1) ?_ ?_ ?_
    · repeat first | exact mt_nil | refine mt_cons rfl ?_ | refine mt_i rfl (by first | omega | (simp only; omega) | (simp; omega) | (simp; done)) ?_
    · try simp only
      refine ⟨?_, ?_⟩
      · refine ⟨?_, ?_⟩
        · omega
        omega
      refine ⟨?_, ?_⟩
      · (constructor <;> omega)
      refine ⟨?_, ?_⟩
      · (intro q; cases (wrF x)[q]? <;> simp; omega)
      exact H
    clear H
    rintro ⟨i, T⟩ f_ w_ ⟨hi, hTl, hT, H⟩
    try simp only at hi hTl hT H ⊢
    obtain ⟨hi1, hi2⟩ := hi
    by_cases hgo : i < 5 ∧ k / 8 + i < (wrF x).length
    · obtain ⟨hg1, hg2⟩ := hgo
      obtain ⟨y, hy⟩ : ∃ y, T[k / 8 + i]? = some y := ⟨_, List.getElem?_eq_getElem (by omega)⟩
      have hyb := y.toNat_lt
      refine br_t (vLt_T (by omega)) ?_
      refine DivP.mk (by decide) ?_
      refine eqQuo (by omega) (by omega) ?_
      refine eqI64 (by omega) ?_
      refine rLenB H 0 rfl rfl ?_
      refine cT (vLt_T (by omega)) ?_
      refine bk ?_
      refine drawzS H [] [(0, .pure), (1, .pure), (2, .pure), (3, .pure), (4, .pure), (5, .pure), (6, .held), (7, .pure), (8, .pure), (9, .pure), (10, .pure), (11, .pure), (12, .pure), (13, .pure), (14, .free)] mixed (by kernel_rfl) (by kernel_rfl) ?_
      clear H
      intro w3 H
      clear w_
      refine DivP.mk (by decide) ?_
      refine eqQuo (by omega) (by omega) ?_
      refine eqI64 (by omega) ?_
      obtain ⟨b1, o1, E1⟩ := H.eltb 0 rfl ((((k) / 8) + (i))) (by omega)
      refine tk (fun wx HS => rIxE E1 rfl rfl rfl ⟨rfl, rfl⟩) ?_
      have hb1 := byteLt hy
      refine tk (fun wx HS => rLd (HS.elb 0 rfl E1 hy) 0 rfl rfl rfl ⟨rfl, rfl⟩) ?_
      refine eqI64 (by omega) ?_
      refine ShiftP.mk (by omega) ?_
      refine eqShrN ((B * 2 ^ (k % 8))) ((8 * (i))) (by omega) (by omega) (by show _ ≤ 64; omega) ?_
      refine tk (fun wx HS => rConvU8M rfl rfl ⟨rfl, rfl⟩) ?_
      (refine eqXorU8 ((y.toNat)) (((B * 2 ^ (k % 8) / 2 ^ (8 * i)) % 256)) (by omega) (by omega) (by omega) (by omega) ?_; intro hB)
      refine tk (fun wx HS => rIxE E1 rfl rfl rfl ⟨rfl, rfl⟩) ?_
      refine rStB H 0 rfl E1 (by omega) (UInt8.ofNat ((y.toNat ^^^ B * 2 ^ (k % 8) / 2 ^ (8 * i) % 256))) rfl (congrArg (Value.int .u8) (byteIs (by omega))) ?_
      clear H
      intro w5 H
      clear w3
      refine eqI64 (by omega) ?_
      refine Nxt.mk ((i + 1, T.set (k / 8 + i) (UInt8.ofNat (y.toNat ^^^ B * 2 ^ (k % 8) / 2 ^ (8 * i) % 256)))) (mt_i rfl (by first | omega | (simp only; omega) | (simp; omega)) (mt_nil)) ?_ ?_
      · refine ⟨?_, ?_⟩
        · refine ⟨?_, ?_⟩
          · assumption
          assumption
        refine ⟨?_, ?_⟩
        · (rw [List.length_set]; exact hTl)
        refine ⟨?_, ?_⟩
        · exact turn_step hT hy
        exact H
      omega
    · have hj8 : k % 8 ≤ 8 * i := by omega
      have hE2 : B * 2 ^ (k % 8) < 256 ^ i := by
        have h5 : i = 5 ∨ i = 4 := by omega
        rcases h5 with rfl | rfl
        · omega
        · have : k % 8 = 0 := by omega
          rw [this]; omega
      have hR : rdR T = (zeroF, 5) := rd_turned (b := hdF x) (p := k / 8) (m := i) (B := B) (j := k % 8) (by rw [hdF_len]; omega) hi2 (by omega) (by omega) hj8 hE2 hT
      refine br (fun c2 => ?_) (fun c2 => ?_)
      · replace c2 := vLt_t (c2)
        refine DivP.mk (by decide) ?_
        refine eqQuo (by omega) (by omega) ?_
        refine eqI64 (by omega) ?_
        refine rLenB H 0 rfl rfl ?_
        refine cF (vLt_F (by omega)) ?_
        refine rBytesStrB H 0 rfl rfl rfl rfl ?_
        refine CallP.mk (Fc.imp (Go.Proofs.Ytepceieglhfnoaa.Frame.read _ ?_ _) ?_)
        · omega
        rintro _ w3 ⟨x1, ⟨e1, ⟨rfl, ⟨h1, H'⟩⟩⟩⟩
        refine H.mergeK H' ?_
        clear H H'
        intro H
        rw [hR] at h1
        obtain ⟨rfl, rfl⟩ := Prod.mk.inj h1
        clear h1
        refine Done.mk ?_
        refine ⟨?_, ?_⟩
        · exact congrArg Value.bool (vEq_T (by rfl))
        exact H.finish
      replace c2 := vLt_f (c2)
      refine cF rfl ?_
      refine rBytesStrB H 0 rfl rfl rfl rfl ?_
      refine CallP.mk (Fc.imp (Go.Proofs.Ytepceieglhfnoaa.Frame.read _ ?_ _) ?_)
      · omega
      rintro _ w3 ⟨x1, ⟨e1, ⟨rfl, ⟨h1, H'⟩⟩⟩⟩
      refine H.mergeK H' ?_
      clear H H'
      intro H
      rw [hR] at h1
      obtain ⟨rfl, rfl⟩ := Prod.mk.inj h1
      clear h1
      refine Done.mk ?_
      refine ⟨?_, ?_⟩
      · exact congrArg Value.bool (vEq_T (by rfl))
      exact H.finish
  · have hP := wrR_bad hc
    refine rBoxS H ?_
    clear H
    intro p1 w1 H
    refine rLdA (H.at 0 rfl) 0 rfl rfl rfl ?_
    refine CallP.mk (Fc.imp (Go.Proofs.Ytepceieglhfnoaa.Frame.write _ ?_ _) ?_)
    · assumption
    rintro _ w2 ⟨s1, ⟨e1, ⟨rfl, ⟨h1, H'⟩⟩⟩⟩
    refine H.mergeK H' ?_
    clear H H'
    intro H
    rw [hP] at h1
    obtain ⟨rfl, rfl⟩ := Prod.mk.inj h1
    clear h1
    refine CallP.mk (Fc.imp (Go.Proofs.Ytepceieglhfnoaa.Frame.sum _ ?_ _) ?_)
    · (simp [vEq_iff]; done)
    rintro _ w3 ⟨rfl, H'⟩
    refine H.mergeK H' ?_
    clear H H'
    intro H
    refine cF (vNe_F (by rfl)) ?_
    refine br_t (vNe_T (by assumption)) ?_
    refine cT rfl ?_
    refine br_f (vEq_F (by assumption)) ?_
    refine rStrEq ?_
    refine Done.mk ?_
    exact ⟨rfl, H.finish⟩
end Go.Proofs.Ytepceieglhfnoaa.Frame
