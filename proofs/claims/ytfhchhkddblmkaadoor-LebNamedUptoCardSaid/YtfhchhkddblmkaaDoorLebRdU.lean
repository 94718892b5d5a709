/- Package leb: reading. -/
import Derived.Test.YtfhchhkddblmkaaDoorLebWrU
set_option maxRecDepth 100000
set_option maxHeartbeats 4000000
set_option linter.unusedVariables false
set_option linter.unusedSimpArgs false
namespace Go.Proofs.YtfhchhkddblmkaaDoor.Leb
open Go Go.Proofs.YtfhchhkddblmkaaDoor.Eng Go.RowKit
theorem wi_dec (bits k : Nat) (h : 7 * k < bits) (hb : bits ≤ 64) : vWrap .i64 ((bits : Int) - 7 * (k : Int)) = (bits : Int) - 7 * (k : Int) := wi64 (by omega)
theorem shl_eq (c k bits acc : Nat) (h7 : 7 * k < bits) (hb : bits ≤ 64) (hbd : acc + c % 128 * 2 ^ (7 * k) < 2 ^ bits) : vShl .u64 ((c : Int) % 128) (7 * (k : Int)) = ((c % 128 * 2 ^ (7 * k) : Nat) : Int) := by
  have h64 : (2 : Nat) ^ bits ≤ 2 ^ 64 := Nat.pow_le_pow_right (by decide) hb
  have e2 : ((c % 128 : Nat) : Int) * 2 ^ (7 * k) = ((c % 128 * 2 ^ (7 * k) : Nat) : Int) := by
    rw [Int.natCast_mul]; norm_cast
  rw [show ((c : Int) % 128) = ((c % 128 : Nat) : Int) by omega, show (7 * (k : Int)) = ((7 * k : Nat) : Int) by omega, vShl_eq _ _ _ (by simp [IntKind.bits]; omega), e2, wu64 (by omega)]
theorem or_eq (c k bits acc : Nat) (h7 : 7 * k < bits) (hb : bits ≤ 64) (hacc : acc < 2 ^ (7 * k)) (hbd : acc + c % 128 * 2 ^ (7 * k) < 2 ^ bits) : vOr .u64 (acc : Int) ((c % 128 * 2 ^ (7 * k) : Nat) : Int) = ((acc + c % 128 * 2 ^ (7 * k) : Nat) : Int) := by
  have h64 : (2 : Nat) ^ bits ≤ 2 ^ 64 := Nat.pow_le_pow_right (by decide) hb
  refine acc_or .u64 acc (c % 128) k bits (.inl rfl) hb hacc ?_
  generalize c % 128 * 2 ^ (7 * k) = t at *
  simp [IntKind.max, IntKind.bits, IntKind.signed]; omega
theorem left_no {c k bits : Nat} (h7 : 7 * k < bits) (hb : bits ≤ 64) (h : ¬ (bits < 7 * k + 7 ∧ c / 2 ^ (bits - 7 * k) ≠ 0)) (h2 : bits < 7 * k + 7) : vShr .u8 (c : Int) ((bits : Int) - 7 * (k : Int)) = 0 := by
  rw [show ((bits : Int) - 7 * (k : Int)) = ((bits - 7 * k : Nat) : Int) by omega, vShr_eq _ _ _ (by simp [IntKind.bits]; omega)]
  have hpow : (2 : Int) ^ (bits - 7 * k) = ((2 ^ (bits - 7 * k) : Nat) : Int) := by norm_cast
  rw [hpow, ← Int.natCast_ediv]
  have : c / 2 ^ (bits - 7 * k) = 0 := Decidable.byContradiction fun h3 => h ⟨h2, h3⟩
  rw [this]; rfl
theorem left_yes {c k bits : Nat} (h7 : 7 * k < bits) (hb : bits ≤ 64) (h : bits < 7 * k + 7 ∧ c / 2 ^ (bits - 7 * k) ≠ 0) : vShr .u8 (c : Int) ((bits : Int) - 7 * (k : Int)) ≠ 0 := by
  rw [show ((bits : Int) - 7 * (k : Int)) = ((bits - 7 * k : Nat) : Int) by omega, vShr_eq _ _ _ (by simp [IntKind.bits]; omega)]
  have hpow : (2 : Int) ^ (bits - 7 * k) = ((2 ^ (bits - 7 * k) : Nat) : Int) := by norm_cast
  rw [hpow, ← Int.natCast_ediv]
  intro e
  exact h.2 (by omega)
theorem readU (s : List UInt8) (b : Int) (bits : Nat) (hbi : b = (bits : Int)) (w : World) (hb : bits = 32 ∨ bits = 64) (hs : s.length ≤ 9223372036854775807) : Fc Tryd.prog 8 #[.string (bs s), .int .i64 b] w
    (fun v w' => ∃ n k e : Nat, v = .tuple #[.int .u64 n, .int .i64 k, .int .i64 e] ∧ rdU bits s 0 0 = (n, k, e) ∧ Sat (froz w) w' []) := by
  subst hbi
  refine Fc.of Tryd.func8 rfl (by kernel_rfl) ?_
  have H := Sat.start w
  have hbb : bits ≤ 64 := by omega
  refine br (fun c1 => ?_) (fun c1 => ?_)
  focus
    replace c1 := vNe_t (c1)
    refine cF (vNe_F (by omega)) ?_
    refine rLenStr rfl ?_
  rotate_left 1
  focus
    replace c1 := vNe_f (c1)
    refine cF rfl ?_
    refine rLenStr rfl ?_
  rotate_left 1
  · refine LoopP.rule (α := Nat × Nat) (0, 0) (fun x_ => [(7, .int .u64 x_.2), (19, .int .i64 x_.1)]) (fun x_ w_ => (x_.1 ≤ s.length) ∧ (7 * x_.1 < bits) ∧ (x_.2 < 2 ^ (7 * x_.1)) ∧ (rdU bits (s.drop x_.1) x_.1 x_.2 = rdU bits s 0 0) ∧ Sat (froz w) w_ ([])) (fun x_ => s.length - x_.1) ?_ ?_ ?_
    · repeat first | exact mt_nil | refine mt_cons rfl ?_ | refine mt_i rfl (by first | omega | (simp only; omega) | (simp; omega) | (simp; done)) ?_
    · try simp only
      refine ⟨?_, ?_⟩
      · omega
      refine ⟨?_, ?_⟩
      · (simp; omega)
      (simp; omega)
    clear H
    rintro ⟨k, acc⟩ f_ w_ ⟨hk, h7, hacc, hrd, H⟩
    try simp only at hk h7 hacc hrd H ⊢
    rcases Nat.lt_or_ge k s.length with hlt | hge
    · obtain ⟨c, hc⟩ : ∃ c, s[k]? = some c := ⟨_, List.getElem?_eq_getElem hlt⟩
      have hdrop : s.drop k = c :: s.drop (k + 1) := by rw [List.drop_eq_getElem_cons hlt]; congr 1; exact Option.some.inj ((List.getElem?_eq_getElem hlt).symm.trans hc)
      rw [hdrop, rdU] at hrd
      have hcl := c.toNat_lt
      by_cases hno : bits < 7 * k + 7 ∧ c.toNat / 2 ^ (bits - 7 * k) ≠ 0
      · rw [if_pos hno] at hrd
        have e1 := left_yes h7 hbb hno
        refine cT (vLt_T (by omega)) ?_
        refine bk ?_
        refine rIdxStrX rfl (k) hc rfl ?_
        refine eqI64 (by omega) ?_
        refine eqI64 (by omega) ?_
        refine br_t (vLt_T (by omega)) ?_
        refine ShiftP.mk (by omega) ?_
        refine eqShrN ((c.toNat)) (((bits) - (7 * (k)))) (by omega) (by omega) (by show _ ≤ 8; omega) ?_
        refine cT (vNe_T (by omega)) ?_
        refine Done.mk ?_
        exact ⟨0, 0, 4, rfl, hrd.symm, H⟩
      · rw [if_neg hno] at hrd
        have hbd := acc_bd hacc h7 hno
        have e1 := left_no h7 hbb hno
        have e2 := shl_eq c.toNat k bits acc h7 hbb hbd
        have e3 := or_eq c.toNat k bits acc h7 hbb hacc hbd
        have hnx := acc_next (c := c.toNat) hacc
        by_cases h128 : c.toNat < 128
        · rw [if_pos h128] at hrd
          refine cT (vLt_T (by omega)) ?_
          refine bk ?_
          refine rIdxStrX rfl (k) hc rfl ?_
          refine eqI64 (by omega) ?_
          refine eqI64 (by omega) ?_
          refine br (fun c2 => ?_) (fun c2 => ?_)
          · replace c2 := vLt_t (c2)
            refine ShiftP.mk (by omega) ?_
            refine eqShrN ((c.toNat)) (((bits) - (7 * (k)))) (by omega) (by omega) (by show _ ≤ 8; omega) ?_
            refine cF (vNe_F (by omega)) ?_
            refine eqAndMask 7 128 rfl rfl (by decide) ?_
            refine rConvU64 (by omega) rfl rfl ?_
            refine eqI64 (by omega) ?_
            refine ShiftP.mk (by omega) ?_
            refine EqP.mk _ e2 ?_
            refine EqP.mk _ e3 ?_
            refine cT (vLt_T (by omega)) ?_
            refine eqI64 (by omega) ?_
            refine Done.mk ?_
            exact ⟨_, _, 0, rfl, hrd.symm, H⟩
          replace c2 := vLt_f (c2)
          refine cF rfl ?_
          refine eqAndMask 7 128 rfl rfl (by decide) ?_
          refine rConvU64 (by omega) rfl rfl ?_
          refine eqI64 (by omega) ?_
          refine ShiftP.mk (by omega) ?_
          refine EqP.mk _ e2 ?_
          refine EqP.mk _ e3 ?_
          refine cT (vLt_T (by omega)) ?_
          refine eqI64 (by omega) ?_
          refine Done.mk ?_
          exact ⟨_, _, 0, rfl, hrd.symm, H⟩
        · rw [if_neg h128] at hrd
          have hcb := cont_bd hb h7 (by omega) hno
          refine cT (vLt_T (by omega)) ?_
          refine bk ?_
          refine rIdxStrX rfl (k) hc rfl ?_
          refine eqI64 (by omega) ?_
          refine eqI64 (by omega) ?_
          refine br_f (vLt_F (by omega)) ?_
          refine cF rfl ?_
          refine eqAndMask 7 128 rfl rfl (by decide) ?_
          refine rConvU64 (by omega) rfl rfl ?_
          refine eqI64 (by omega) ?_
          refine ShiftP.mk (by omega) ?_
          refine EqP.mk _ e2 ?_
          refine EqP.mk _ e3 ?_
          refine cF (vLt_F (by omega)) ?_
          refine eqI64 (by omega) ?_
          refine Nxt.mk ((k + 1, acc + c.toNat % 128 * 2 ^ (7 * k))) (mt_cons rfl (mt_i rfl (by first | omega | (simp only; omega) | (simp; omega)) (mt_nil))) ?_ ?_
          · refine ⟨?_, ?_⟩
            · assumption
            refine ⟨?_, ?_⟩
            · assumption
            refine ⟨?_, ?_⟩
            · assumption
            refine ⟨?_, ?_⟩
            · assumption
            exact H
          omega
    · rw [List.drop_eq_nil_of_le hge] at hrd
      refine cF (vLt_F (by omega)) ?_
      refine Done.mk ?_
      exact ⟨0, 0, 3, rfl, hrd.symm, H⟩
  · refine LoopP.rule (α := Nat × Nat) (0, 0) (fun x_ => [(7, .int .u64 x_.2), (19, .int .i64 x_.1)]) (fun x_ w_ => (x_.1 ≤ s.length) ∧ (7 * x_.1 < bits) ∧ (x_.2 < 2 ^ (7 * x_.1)) ∧ (rdU bits (s.drop x_.1) x_.1 x_.2 = rdU bits s 0 0) ∧ Sat (froz w) w_ ([])) (fun x_ => s.length - x_.1) ?_ ?_ ?_
    · repeat first | exact mt_nil | refine mt_cons rfl ?_ | refine mt_i rfl (by first | omega | (simp only; omega) | (simp; omega) | (simp; done)) ?_
    · try simp only
      refine ⟨?_, ?_⟩
      · omega
      refine ⟨?_, ?_⟩
      · (simp; omega)
      (simp; omega)
    clear H
    rintro ⟨k, acc⟩ f_ w_ ⟨hk, h7, hacc, hrd, H⟩
    try simp only at hk h7 hacc hrd H ⊢
    rcases Nat.lt_or_ge k s.length with hlt | hge
    · obtain ⟨c, hc⟩ : ∃ c, s[k]? = some c := ⟨_, List.getElem?_eq_getElem hlt⟩
      have hdrop : s.drop k = c :: s.drop (k + 1) := by rw [List.drop_eq_getElem_cons hlt]; congr 1; exact Option.some.inj ((List.getElem?_eq_getElem hlt).symm.trans hc)
      rw [hdrop, rdU] at hrd
      have hcl := c.toNat_lt
      by_cases hno : bits < 7 * k + 7 ∧ c.toNat / 2 ^ (bits - 7 * k) ≠ 0
      · rw [if_pos hno] at hrd
        have e1 := left_yes h7 hbb hno
        refine cT (vLt_T (by omega)) ?_
        refine bk ?_
        refine rIdxStrX rfl (k) hc rfl ?_
        refine eqI64 (by omega) ?_
        refine eqI64 (by omega) ?_
        refine br_t (vLt_T (by omega)) ?_
        refine ShiftP.mk (by omega) ?_
        refine eqShrN ((c.toNat)) (((bits) - (7 * (k)))) (by omega) (by omega) (by show _ ≤ 8; omega) ?_
        refine cT (vNe_T (by omega)) ?_
        refine Done.mk ?_
        exact ⟨0, 0, 4, rfl, hrd.symm, H⟩
      · rw [if_neg hno] at hrd
        have hbd := acc_bd hacc h7 hno
        have e1 := left_no h7 hbb hno
        have e2 := shl_eq c.toNat k bits acc h7 hbb hbd
        have e3 := or_eq c.toNat k bits acc h7 hbb hacc hbd
        have hnx := acc_next (c := c.toNat) hacc
        by_cases h128 : c.toNat < 128
        · rw [if_pos h128] at hrd
          refine cT (vLt_T (by omega)) ?_
          refine bk ?_
          refine rIdxStrX rfl (k) hc rfl ?_
          refine eqI64 (by omega) ?_
          refine eqI64 (by omega) ?_
          refine br (fun c2 => ?_) (fun c2 => ?_)
          · replace c2 := vLt_t (c2)
            refine ShiftP.mk (by omega) ?_
            refine eqShrN ((c.toNat)) (((bits) - (7 * (k)))) (by omega) (by omega) (by show _ ≤ 8; omega) ?_
            refine cF (vNe_F (by omega)) ?_
            refine eqAndMask 7 128 rfl rfl (by decide) ?_
            refine rConvU64 (by omega) rfl rfl ?_
            refine eqI64 (by omega) ?_
            refine ShiftP.mk (by omega) ?_
            refine EqP.mk _ e2 ?_
            refine EqP.mk _ e3 ?_
            refine cT (vLt_T (by omega)) ?_
            refine eqI64 (by omega) ?_
            refine Done.mk ?_
            exact ⟨_, _, 0, rfl, hrd.symm, H⟩
          replace c2 := vLt_f (c2)
          refine cF rfl ?_
          refine eqAndMask 7 128 rfl rfl (by decide) ?_
          refine rConvU64 (by omega) rfl rfl ?_
          refine eqI64 (by omega) ?_
          refine ShiftP.mk (by omega) ?_
          refine EqP.mk _ e2 ?_
          refine EqP.mk _ e3 ?_
          refine cT (vLt_T (by omega)) ?_
          refine eqI64 (by omega) ?_
          refine Done.mk ?_
          exact ⟨_, _, 0, rfl, hrd.symm, H⟩
        · rw [if_neg h128] at hrd
          have hcb := cont_bd hb h7 (by omega) hno
          refine cT (vLt_T (by omega)) ?_
          refine bk ?_
          refine rIdxStrX rfl (k) hc rfl ?_
          refine eqI64 (by omega) ?_
          refine eqI64 (by omega) ?_
          refine br_f (vLt_F (by omega)) ?_
          refine cF rfl ?_
          refine eqAndMask 7 128 rfl rfl (by decide) ?_
          refine rConvU64 (by omega) rfl rfl ?_
          refine eqI64 (by omega) ?_
          refine ShiftP.mk (by omega) ?_
          refine EqP.mk _ e2 ?_
          refine EqP.mk _ e3 ?_
          refine cF (vLt_F (by omega)) ?_
          refine eqI64 (by omega) ?_
          refine Nxt.mk ((k + 1, acc + c.toNat % 128 * 2 ^ (7 * k))) (mt_cons rfl (mt_i rfl (by first | omega | (simp only; omega) | (simp; omega)) (mt_nil))) ?_ ?_
          · refine ⟨?_, ?_⟩
            · assumption
            refine ⟨?_, ?_⟩
            · assumption
            refine ⟨?_, ?_⟩
            · assumption
            refine ⟨?_, ?_⟩
            · assumption
            exact H
          omega
    · rw [List.drop_eq_nil_of_le hge] at hrd
      refine cF (vLt_F (by omega)) ?_
      refine Done.mk ?_
      exact ⟨0, 0, 3, rfl, hrd.symm, H⟩
end Go.Proofs.YtfhchhkddblmkaaDoor.Leb
