/- Package leb: reading numbers with signs. -/
import Derived.Test.YtffkcgogkhdcdaaLebRd
set_option maxRecDepth 100000
set_option maxHeartbeats 4000000
set_option linter.unusedVariables false
set_option linter.unusedSimpArgs false
namespace Go.Proofs.Ytffkcgogkhdcdaa.Leb
open Go Go.Proofs.Ytffkcgogkhdcdaa.Eng Go.RowKit
theorem shlS_eq (c k acc : Nat) (hk : 7 * k < 63) (h63 : acc + c % 128 * 2 ^ (7 * k) < 2 ^ 63) : vShl .i64 ((c : Int) % 128) (7 * (k : Int)) = ((c % 128 * 2 ^ (7 * k) : Nat) : Int) := by
  have e2 : ((c % 128 : Nat) : Int) * 2 ^ (7 * k) = ((c % 128 * 2 ^ (7 * k) : Nat) : Int) := by
    rw [Int.natCast_mul]; norm_cast
  rw [show ((c : Int) % 128) = ((c % 128 : Nat) : Int) by omega, show (7 * (k : Int)) = ((7 * k : Nat) : Int) by omega, vShl_eq _ _ _ (by simp [IntKind.bits]; omega), e2, wi64 (by omega)]
theorem orS_eq (c k acc : Nat) (hk : 7 * k < 63) (hacc : acc < 2 ^ (7 * k)) (h63 : acc + c % 128 * 2 ^ (7 * k) < 2 ^ 63) : vOr .i64 (acc : Int) ((c % 128 * 2 ^ (7 * k) : Nat) : Int) = ((acc + c % 128 * 2 ^ (7 * k) : Nat) : Int) := by
  refine acc_or .i64 acc (c % 128) k 64 (.inr rfl) (by decide) hacc ?_
  generalize c % 128 * 2 ^ (7 * k) = t at *
  simp [IntKind.max, IntKind.bits, IntKind.signed]; omega
theorem sev_bd (c : Nat) : -64 ≤ sev c ∧ sev c < 64 := by unfold sev; split <;> omega
theorem most_eq {bits k : Nat} (h7 : 7 * k < bits) (hb : bits ≤ 64) (h : bits < 7 * k + 7) : vShl .i64 1 ((bits : Int) - 7 * (k : Int) - 1) = ((2 ^ (bits - 7 * k - 1) : Nat) : Int) := by
  have hm6 : (2 : Nat) ^ (bits - 7 * k - 1) ≤ 2 ^ 6 := Nat.pow_le_pow_right (by decide) (by omega)
  rw [show ((bits : Int) - 7 * (k : Int) - 1) = ((bits - 7 * k - 1 : Nat) : Int) by omega, vShl_eq _ _ _ (by simp [IntKind.bits]; omega), Int.one_mul]
  have e : (2 : Int) ^ (bits - 7 * k - 1) = ((2 ^ (bits - 7 * k - 1) : Nat) : Int) := by norm_cast
  rw [e]
  generalize 2 ^ (bits - 7 * k - 1) = M at *
  rw [wi64 (by omega)]
theorem sevP {bits k c : Nat} (h7 : 7 * k < bits) (hb : bits = 32 ∨ bits = 64) (h : ¬ badS bits k c) : -((2 ^ 63 : Nat) : Int) ≤ sev c * 2 ^ (7 * k) ∧ sev c * 2 ^ (7 * k) < ((2 ^ 63 : Nat) : Int) := by
  have hsb := sev_bd c
  have hpe : (2 : Int) ^ (7 * k) = ((2 ^ (7 * k) : Nat) : Int) := by norm_cast
  rw [hpe]
  by_cases h3 : bits < 7 * k + 7
  · have hm6 : (2 : Nat) ^ (bits - 7 * k - 1) ≤ 2 ^ 6 := Nat.pow_le_pow_right (by decide) (by omega)
    have hm0 := Nat.two_pow_pos (bits - 7 * k - 1)
    have hbb : (2 : Nat) ^ (bits - 7 * k - 1) * 2 ^ (7 * k) = 2 ^ (bits - 1) := by rw [← Nat.pow_add]; congr 1; omega
    have hb63 : (2 : Nat) ^ (bits - 1) ≤ 2 ^ 63 := Nat.pow_le_pow_right (by decide) (by omega)
    have h1 : -((2 ^ (bits - 7 * k - 1) : Nat) : Int) ≤ sev c ∧ sev c + 1 ≤ ((2 ^ (bits - 7 * k - 1) : Nat) : Int) := by
      constructor
      · apply Decidable.byContradiction; intro hh; exact h ⟨h3, .inr (.inl (by omega))⟩
      · apply Decidable.byContradiction; intro hh; exact h ⟨h3, .inr (.inr (by omega))⟩
    generalize 2 ^ (bits - 7 * k - 1) = M at *
    have hp := Nat.two_pow_pos (7 * k)
    generalize 2 ^ (7 * k) = p at *
    have a1 : -(M : Int) * p ≤ sev c * p := Int.mul_le_mul_of_nonneg_right h1.1 (by omega)
    have a2 : (sev c + 1) * p ≤ (M : Int) * p := Int.mul_le_mul_of_nonneg_right h1.2 (by omega)
    rw [Int.neg_mul] at a1
    rw [Int.add_mul, Int.one_mul] at a2
    have e : (M : Int) * p = ((M * p : Nat) : Int) := by rw [Int.natCast_mul]
    rw [e] at a1 a2
    omega
  · have hp56 : (2 : Nat) ^ (7 * k) ≤ 2 ^ 57 := Nat.pow_le_pow_right (by decide) (by omega)
    constructor
    · have := Int.mul_le_mul_of_nonneg_right hsb.1 (Int.natCast_nonneg (2 ^ (7 * k)))
      omega
    · have := Int.mul_lt_mul_of_pos_right hsb.2 (show (0 : Int) < ((2 ^ (7 * k) : Nat) : Int) by have := Nat.two_pow_pos (7 * k); omega)
      omega
theorem sevShl {bits k c : Nat} (h7 : 7 * k < bits) (hb : bits = 32 ∨ bits = 64) (h : ¬ badS bits k c) : vShl .i64 (sev c) (7 * (k : Int)) = sev c * ((2 ^ (7 * k) : Nat) : Int) := by
  have := sevP h7 hb h
  have hpe : (2 : Int) ^ (7 * k) = ((2 ^ (7 * k) : Nat) : Int) := by norm_cast
  rw [← hpe]
  rw [show (7 * (k : Int)) = ((7 * k : Nat) : Int) by omega, vShl_eq _ _ _ (by simp [IntKind.bits]; omega), wi64 (by omega)]
theorem sevOr {bits k c acc : Nat} (h7 : 7 * k < bits) (hb : bits = 32 ∨ bits = 64) (h : ¬ badS bits k c) (hacc : acc < 2 ^ (7 * k)) : vOr .i64 (acc : Int) (sev c * ((2 ^ (7 * k) : Nat) : Int)) = acc + sev c * ((2 ^ (7 * k) : Nat) : Int) := by
  have := sevP h7 hb h
  have hpe : (2 : Int) ^ (7 * k) = ((2 ^ (7 * k) : Nat) : Int) := by norm_cast
  rw [← hpe]
  exact vOr_i64 acc _ (7 * k) hacc (by omega) ⟨_, Int.mul_comm _ _⟩ (by omega) (by omega)
theorem badS_ways {bits k c : Nat} (h : badS bits k c) : bits < 7 * k + 7 ∧ (128 ≤ c ∨ sev c < -((2 ^ (bits - 7 * k - 1) : Nat) : Int) ∨ ((2 ^ (bits - 7 * k - 1) : Nat) : Int) ≤ sev c) := h
theorem badS_not {bits k c : Nat} (h : ¬ badS bits k c) (h3 : bits < 7 * k + 7) : c < 128 ∧ -((2 ^ (bits - 7 * k - 1) : Nat) : Int) ≤ sev c ∧ sev c < ((2 ^ (bits - 7 * k - 1) : Nat) : Int) := by
  refine ⟨?_, ?_, ?_⟩
  · apply Decidable.byContradiction; intro hh; exact h ⟨h3, .inl (by omega)⟩
  · apply Decidable.byContradiction; intro hh; exact h ⟨h3, .inr (.inl (by omega))⟩
  · apply Decidable.byContradiction; intro hh; exact h ⟨h3, .inr (.inr (by omega))⟩
theorem shl8 (c : Nat) (hc : c < 256) : vShl .u8 (c : Int) 1 = ((2 * c % 256 : Nat) : Int) := by
  have := vShl_eq .u8 c 1 (by decide)
  rw [show ((1 : Nat) : Int) = 1 from rfl] at this
  rw [this]
  unfold vWrap
  simp [IntKind.wrap, IntKind.bits, IntKind.signed]; omega
theorem readS (s : List UInt8) (b : Int) (bits : Nat) (hbi : b = (bits : Int)) (w : World) (hb : bits = 32 ∨ bits = 64) (hs : s.length ≤ 9223372036854775807) : Fc Try.prog 62 #[.string (bs s), .int .i64 b] w
    (fun v w' => ∃ n : Int, ∃ k e : Nat, v = .tuple #[.int .i64 n, .int .i64 k, .int .i64 e] ∧ rdS bits s 0 0 = (n, k, e) ∧ Sat (froz w) w' []) := by
  subst hbi
  refine Fc.of Try.func62 rfl (by kernel_rfl) ?_
  have H := Sat.start w
  have hbb : bits ≤ 64 := by omega
  refine br (fun c1 => ?_) (fun c1 => ?_)
  focus
    replace c1 := vNe_t (c1)
    refine cF (vNe_F (by omega)) ?_
    refine rLenStr rfl ?_
  rotate_left 1
  focus
    replace c1 := vNe_f (c1)
    refine cF rfl ?_
    refine rLenStr rfl ?_
  rotate_left 1
  · refine LoopP.rule (α := Nat × Nat) (0, 0) (fun x_ => [(7, .int .i64 x_.2), (21, .int .i64 x_.1)]) (fun x_ w_ => (x_.1 ≤ s.length) ∧ (7 * x_.1 < bits) ∧ (x_.2 < 2 ^ (7 * x_.1)) ∧ (rdS bits (s.drop x_.1) x_.1 x_.2 = rdS bits s 0 0) ∧ Sat (froz w) w_ ([])) (fun x_ => s.length - x_.1) ?_ ?_ ?_
    · repeat first | exact mt_nil | refine mt_cons rfl ?_ | refine mt_i rfl (by first | omega | (simp only; omega) | (simp; omega) | (simp; done)) ?_
    · try simp only
      refine ⟨?_, ?_⟩
      · omega
      refine ⟨?_, ?_⟩
      · (simp; omega)
      (simp; omega)
    clear H
    rintro ⟨k, acc⟩ f_ w_ ⟨hk, h7, hacc, hrd, H⟩
    try simp only at hk h7 hacc hrd H ⊢
    rcases Nat.lt_or_ge k s.length with hlt | hge
    · obtain ⟨c, hc⟩ : ∃ c, s[k]? = some c := ⟨_, List.getElem?_eq_getElem hlt⟩
      have hdrop : s.drop k = c :: s.drop (k + 1) := by rw [List.drop_eq_getElem_cons hlt]; congr 1; exact Option.some.inj ((List.getElem?_eq_getElem hlt).symm.trans hc)
      rw [hdrop, rdS] at hrd
      have hcl := c.toNat_lt
      have hsv := sev_walk c.toNat hcl
      have hs8 := shl8 c.toNat hcl
      rw [hs8] at hsv
      have hsb := sev_bd c.toNat
      by_cases hno : badS bits k c.toNat
      · rw [if_pos hno] at hrd
        obtain ⟨hno1, hno2⟩ := badS_ways hno
        have hmo := most_eq h7 hbb hno1
        have hm6 : (2 : Nat) ^ (bits - 7 * k - 1) ≤ 2 ^ 6 := Nat.pow_le_pow_right (by decide) (by omega)
        clear hno
        generalize 2 ^ (bits - 7 * k - 1) = M at *
        refine cT (vLt_T (by omega)) ?_
        refine bk ?_
        refine rIdxStrX rfl (k) hc rfl ?_
        refine eqI64 (by omega) ?_
        refine eqI64 (by omega) ?_
        refine ShiftP.mk (by decide) ?_
        refine EqP.mk _ hs8 ?_
        refine rConvInt rfl rfl ?_
        refine rConvInt rfl rfl ?_
        refine ShiftP.mk (by decide) ?_
        refine EqP.mk _ hsv ?_
        refine cT (vLt_T (by omega)) ?_
        refine eqI64 (by omega) ?_
        refine ShiftP.mk (by omega) ?_
        refine EqP.mk _ hmo ?_
        refine br (fun c2 => ?_) (fun c2 => ?_)
        · replace c2 := vLe_t (c2)
          refine cT rfl ?_
          refine Done.mk ?_
          exact ⟨0, 0, 4, rfl, hrd.symm, H⟩
        replace c2 := vLe_f (c2)
        refine eqI64 (by omega) ?_
        refine br (fun c3 => ?_) (fun c3 => ?_)
        · replace c3 := vLt_t (c3)
          refine cT rfl ?_
          refine Done.mk ?_
          exact ⟨0, 0, 4, rfl, hrd.symm, H⟩
        replace c3 := vLt_f (c3)
        refine cT (vLe_T (by omega)) ?_
        refine Done.mk ?_
        exact ⟨0, 0, 4, rfl, hrd.symm, H⟩
      · rw [if_neg hno] at hrd
        have hshl := sevShl h7 hb hno
        have hor := sevOr h7 hb hno hacc
        have hbn := badS_not hno
        have hmo := fun h => most_eq h7 hbb h
        have hnx := acc_next (c := c.toNat) hacc
        rcases Nat.lt_or_ge bits (7 * k + 7) with hlf | hlf
        · obtain ⟨hc1, hc2, hc3⟩ := hbn hlf
          have hmo := hmo hlf
          have hm6 : (2 : Nat) ^ (bits - 7 * k - 1) ≤ 2 ^ 6 := Nat.pow_le_pow_right (by decide) (by omega)
          rw [if_pos hc1] at hrd
          clear hno hbn
          generalize 2 ^ (bits - 7 * k - 1) = M at *
          refine cT (vLt_T (by omega)) ?_
          refine bk ?_
          refine rIdxStrX rfl (k) hc rfl ?_
          refine eqI64 (by omega) ?_
          refine eqI64 (by omega) ?_
          refine ShiftP.mk (by decide) ?_
          refine EqP.mk _ hs8 ?_
          refine rConvInt rfl rfl ?_
          refine rConvInt rfl rfl ?_
          refine ShiftP.mk (by decide) ?_
          refine EqP.mk _ hsv ?_
          refine cT (vLt_T (by omega)) ?_
          refine eqI64 (by omega) ?_
          refine ShiftP.mk (by omega) ?_
          refine EqP.mk _ hmo ?_
          refine br_f (vLe_F (by omega)) ?_
          refine eqI64 (by omega) ?_
          refine br_f (vLt_F (by omega)) ?_
          refine cF (vLe_F (by assumption)) ?_
          refine cT (vLt_T (by omega)) ?_
          refine eqI64 (by omega) ?_
          refine ShiftP.mk (by omega) ?_
          refine EqP.mk _ hshl ?_
          refine EqP.mk _ hor ?_
          refine eqI64 (by omega) ?_
          refine Done.mk ?_
          exact ⟨_, _, 0, rfl, hrd.symm, H⟩
        · clear hbn hmo
          by_cases h128 : c.toNat < 128
          · rw [if_pos h128] at hrd
            refine cT (vLt_T (by omega)) ?_
            refine bk ?_
            refine rIdxStrX rfl (k) hc rfl ?_
            refine eqI64 (by omega) ?_
            refine eqI64 (by omega) ?_
            refine ShiftP.mk (by decide) ?_
            refine EqP.mk _ hs8 ?_
            refine rConvInt rfl rfl ?_
            refine rConvInt rfl rfl ?_
            refine ShiftP.mk (by decide) ?_
            refine EqP.mk _ hsv ?_
            refine cF (vLt_F (by omega)) ?_
            refine cT (vLt_T (by omega)) ?_
            refine eqI64 (by omega) ?_
            refine ShiftP.mk (by omega) ?_
            refine EqP.mk _ hshl ?_
            refine EqP.mk _ hor ?_
            refine eqI64 (by omega) ?_
            refine Done.mk ?_
            exact ⟨_, _, 0, rfl, hrd.symm, H⟩
          · rw [if_neg h128] at hrd
            have hp63 : (2 : Nat) ^ (7 * (k + 1)) ≤ 2 ^ 63 := Nat.pow_le_pow_right (by decide) (by omega)
            have e2 := shlS_eq c.toNat k acc (by omega) (by omega)
            have e3 := orS_eq c.toNat k acc (by omega) hacc (by omega)
            refine cT (vLt_T (by omega)) ?_
            refine bk ?_
            refine rIdxStrX rfl (k) hc rfl ?_
            refine eqI64 (by omega) ?_
            refine eqI64 (by omega) ?_
            refine ShiftP.mk (by decide) ?_
            refine EqP.mk _ hs8 ?_
            refine rConvInt rfl rfl ?_
            refine rConvInt rfl rfl ?_
            refine ShiftP.mk (by decide) ?_
            refine EqP.mk _ hsv ?_
            refine cF (vLt_F (by omega)) ?_
            refine cF (vLt_F (by omega)) ?_
            refine eqAndMask 7 128 rfl rfl (by decide) ?_
            refine rConvI64 (by omega) rfl rfl ?_
            refine eqI64 (by omega) ?_
            refine ShiftP.mk (by omega) ?_
            refine EqP.mk _ e2 ?_
            refine EqP.mk _ e3 ?_
            refine eqI64 (by omega) ?_
            refine Nxt.mk ((k + 1, acc + c.toNat % 128 * 2 ^ (7 * k))) (mt_cons rfl (mt_i rfl (by first | omega | (simp only; omega) | (simp; omega)) (mt_nil))) ?_ ?_
            · refine ⟨?_, ?_⟩
              · assumption
              refine ⟨?_, ?_⟩
              · omega
              refine ⟨?_, ?_⟩
              · assumption
              refine ⟨?_, ?_⟩
              · assumption
              exact H
            omega
    · rw [List.drop_eq_nil_of_le hge] at hrd
      refine cF (vLt_F (by omega)) ?_
      refine Done.mk ?_
      exact ⟨0, 0, 3, rfl, hrd.symm, H⟩
  · refine LoopP.rule (α := Nat × Nat) (0, 0) (fun x_ => [(7, .int .i64 x_.2), (21, .int .i64 x_.1)]) (fun x_ w_ => (x_.1 ≤ s.length) ∧ (7 * x_.1 < bits) ∧ (x_.2 < 2 ^ (7 * x_.1)) ∧ (rdS bits (s.drop x_.1) x_.1 x_.2 = rdS bits s 0 0) ∧ Sat (froz w) w_ ([])) (fun x_ => s.length - x_.1) ?_ ?_ ?_
    · repeat first | exact mt_nil | refine mt_cons rfl ?_ | refine mt_i rfl (by first | omega | (simp only; omega) | (simp; omega) | (simp; done)) ?_
    · try simp only
      refine ⟨?_, ?_⟩
      · omega
      refine ⟨?_, ?_⟩
      · (simp; omega)
      (simp; omega)
    clear H
    rintro ⟨k, acc⟩ f_ w_ ⟨hk, h7, hacc, hrd, H⟩
    try simp only at hk h7 hacc hrd H ⊢
    rcases Nat.lt_or_ge k s.length with hlt | hge
    · obtain ⟨c, hc⟩ : ∃ c, s[k]? = some c := ⟨_, List.getElem?_eq_getElem hlt⟩
      have hdrop : s.drop k = c :: s.drop (k + 1) := by rw [List.drop_eq_getElem_cons hlt]; congr 1; exact Option.some.inj ((List.getElem?_eq_getElem hlt).symm.trans hc)
      rw [hdrop, rdS] at hrd
      have hcl := c.toNat_lt
      have hsv := sev_walk c.toNat hcl
      have hs8 := shl8 c.toNat hcl
      rw [hs8] at hsv
      have hsb := sev_bd c.toNat
      by_cases hno : badS bits k c.toNat
      · rw [if_pos hno] at hrd
        obtain ⟨hno1, hno2⟩ := badS_ways hno
        have hmo := most_eq h7 hbb hno1
        have hm6 : (2 : Nat) ^ (bits - 7 * k - 1) ≤ 2 ^ 6 := Nat.pow_le_pow_right (by decide) (by omega)
        clear hno
        generalize 2 ^ (bits - 7 * k - 1) = M at *
        refine cT (vLt_T (by omega)) ?_
        refine bk ?_
        refine rIdxStrX rfl (k) hc rfl ?_
        refine eqI64 (by omega) ?_
        refine eqI64 (by omega) ?_
        refine ShiftP.mk (by decide) ?_
        refine EqP.mk _ hs8 ?_
        refine rConvInt rfl rfl ?_
        refine rConvInt rfl rfl ?_
        refine ShiftP.mk (by decide) ?_
        refine EqP.mk _ hsv ?_
        refine cT (vLt_T (by omega)) ?_
        refine eqI64 (by omega) ?_
        refine ShiftP.mk (by omega) ?_
        refine EqP.mk _ hmo ?_
        refine br (fun c2 => ?_) (fun c2 => ?_)
        · replace c2 := vLe_t (c2)
          refine cT rfl ?_
          refine Done.mk ?_
          exact ⟨0, 0, 4, rfl, hrd.symm, H⟩
        replace c2 := vLe_f (c2)
        refine eqI64 (by omega) ?_
        refine br (fun c3 => ?_) (fun c3 => ?_)
        · replace c3 := vLt_t (c3)
          refine cT rfl ?_
          refine Done.mk ?_
          exact ⟨0, 0, 4, rfl, hrd.symm, H⟩
        replace c3 := vLt_f (c3)
        refine cT (vLe_T (by omega)) ?_
        refine Done.mk ?_
        exact ⟨0, 0, 4, rfl, hrd.symm, H⟩
      · rw [if_neg hno] at hrd
        have hshl := sevShl h7 hb hno
        have hor := sevOr h7 hb hno hacc
        have hbn := badS_not hno
        have hmo := fun h => most_eq h7 hbb h
        have hnx := acc_next (c := c.toNat) hacc
        rcases Nat.lt_or_ge bits (7 * k + 7) with hlf | hlf
        · obtain ⟨hc1, hc2, hc3⟩ := hbn hlf
          have hmo := hmo hlf
          have hm6 : (2 : Nat) ^ (bits - 7 * k - 1) ≤ 2 ^ 6 := Nat.pow_le_pow_right (by decide) (by omega)
          rw [if_pos hc1] at hrd
          clear hno hbn
          generalize 2 ^ (bits - 7 * k - 1) = M at *
          refine cT (vLt_T (by omega)) ?_
          refine bk ?_
          refine rIdxStrX rfl (k) hc rfl ?_
          refine eqI64 (by omega) ?_
          refine eqI64 (by omega) ?_
          refine ShiftP.mk (by decide) ?_
          refine EqP.mk _ hs8 ?_
          refine rConvInt rfl rfl ?_
          refine rConvInt rfl rfl ?_
          refine ShiftP.mk (by decide) ?_
          refine EqP.mk _ hsv ?_
          refine cT (vLt_T (by omega)) ?_
          refine eqI64 (by omega) ?_
          refine ShiftP.mk (by omega) ?_
          refine EqP.mk _ hmo ?_
          refine br_f (vLe_F (by omega)) ?_
          refine eqI64 (by omega) ?_
          refine br_f (vLt_F (by omega)) ?_
          refine cF (vLe_F (by assumption)) ?_
          refine cT (vLt_T (by omega)) ?_
          refine eqI64 (by omega) ?_
          refine ShiftP.mk (by omega) ?_
          refine EqP.mk _ hshl ?_
          refine EqP.mk _ hor ?_
          refine eqI64 (by omega) ?_
          refine Done.mk ?_
          exact ⟨_, _, 0, rfl, hrd.symm, H⟩
        · clear hbn hmo
          by_cases h128 : c.toNat < 128
          · rw [if_pos h128] at hrd
            refine cT (vLt_T (by omega)) ?_
            refine bk ?_
            refine rIdxStrX rfl (k) hc rfl ?_
            refine eqI64 (by omega) ?_
            refine eqI64 (by omega) ?_
            refine ShiftP.mk (by decide) ?_
            refine EqP.mk _ hs8 ?_
            refine rConvInt rfl rfl ?_
            refine rConvInt rfl rfl ?_
            refine ShiftP.mk (by decide) ?_
            refine EqP.mk _ hsv ?_
            refine cF (vLt_F (by omega)) ?_
            refine cT (vLt_T (by omega)) ?_
            refine eqI64 (by omega) ?_
            refine ShiftP.mk (by omega) ?_
            refine EqP.mk _ hshl ?_
            refine EqP.mk _ hor ?_
            refine eqI64 (by omega) ?_
            refine Done.mk ?_
            exact ⟨_, _, 0, rfl, hrd.symm, H⟩
          · rw [if_neg h128] at hrd
            have hp63 : (2 : Nat) ^ (7 * (k + 1)) ≤ 2 ^ 63 := Nat.pow_le_pow_right (by decide) (by omega)
            have e2 := shlS_eq c.toNat k acc (by omega) (by omega)
            have e3 := orS_eq c.toNat k acc (by omega) hacc (by omega)
            refine cT (vLt_T (by omega)) ?_
            refine bk ?_
            refine rIdxStrX rfl (k) hc rfl ?_
            refine eqI64 (by omega) ?_
            refine eqI64 (by omega) ?_
            refine ShiftP.mk (by decide) ?_
            refine EqP.mk _ hs8 ?_
            refine rConvInt rfl rfl ?_
            refine rConvInt rfl rfl ?_
            refine ShiftP.mk (by decide) ?_
            refine EqP.mk _ hsv ?_
            refine cF (vLt_F (by omega)) ?_
            refine cF (vLt_F (by omega)) ?_
            refine eqAndMask 7 128 rfl rfl (by decide) ?_
            refine rConvI64 (by omega) rfl rfl ?_
            refine eqI64 (by omega) ?_
            refine ShiftP.mk (by omega) ?_
            refine EqP.mk _ e2 ?_
            refine EqP.mk _ e3 ?_
            refine eqI64 (by omega) ?_
            refine Nxt.mk ((k + 1, acc + c.toNat % 128 * 2 ^ (7 * k))) (mt_cons rfl (mt_i rfl (by first | omega | (simp only; omega) | (simp; omega)) (mt_nil))) ?_ ?_
            · refine ⟨?_, ?_⟩
              · assumption
              refine ⟨?_, ?_⟩
              · omega
              refine ⟨?_, ?_⟩
              · assumption
              refine ⟨?_, ?_⟩
              · assumption
              exact H
            omega
    · rw [List.drop_eq_nil_of_le hge] at hrd
      refine cF (vLt_F (by omega)) ?_
      refine Done.mk ?_
      exact ⟨0, 0, 3, rfl, hrd.symm, H⟩
end Go.Proofs.Ytffkcgogkhdcdaa.Leb
