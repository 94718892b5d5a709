/- The walks of package leb, and of strings.HasPrefix: what each function computes. -/
import Derived.Test.YteddbemcbnpemaaLebM
import Derived.Test.YteddbemcbnpemaaRows
set_option maxRecDepth 100000
set_option linter.unusedVariables false
namespace Go.Proofs.Yteddbemcbnpemaa.Leb
open Go Go.Proofs.Yteddbemcbnpemaa.Eng Go.RowKit

theorem byteV_of (c : Nat) (h : c < 256) {x : Int} (hx : x = c) : Value.int .u8 x = byteV (UInt8.ofNat c) := by
  rw [hx, byteV, byte_toNat h]
theorem U1 (n : Int) (w : World) : Fc Try.prog 18 #[.int .u64 n] w (fun v w' => v = .bool (vLt n 128) ∧ w = w') := by
  refine Fc.of Try.func18 rfl (by kernel_rfl) ?_
  refine Done.mk ?_
  exact ⟨rfl, rfl⟩
theorem S1 (n : Int) (w : World) : Fc Try.prog 21 #[.int .i64 n] w (fun v w' => v = .bool (decide (-64 ≤ n ∧ n < 64)) ∧ w = w') := by
  refine Fc.of Try.func21 rfl (by kernel_rfl) ?_
  refine br (fun h => ?_) (fun h => ?_)
  · refine Done.mk ⟨?_, rfl⟩
    have := vLe_t h
    rw [vLt_iff]
    congr 1
    rw [decide_eq_decide]
    omega
  · refine Done.mk ⟨?_, rfl⟩
    have := vLe_f h
    congr 1
    rw [eq_comm, decide_eq_false_iff_not]
    omega
theorem write_u (n : Nat) (hn : n < 2 ^ 64) (w : World) : Fc Try.prog 17 #[.int .u64 n, .func (.func 18) #[] #[]] w
    (fun v w' => ∃ l, v = .string (bs l) ∧ l = uleb n ∧ Below w.heap.size w w') := by
  have hlen : (uleb n).length ≤ 10 := uleb_len 9 n (by omega)
  refine Fc.of Try.func17 rfl (by kernel_rfl) ?_
  refine LoopP.rule (α := Nat × Value × List UInt8) (n, .slice none 0 0, []) (fun x => [(0, .int .u64 x.1), (5, x.2.1)])
    (fun x w' => x.2.2 ++ uleb x.1 = uleb n ∧ x.1 < 2 ^ 64 ∧ w'.ownsRow w.heap.size 5 1 x.2.1 x.2.2.length (x.2.2.map byteV) ∧ Below w.heap.size w w') (fun x => x.1)
    (mt_cons rfl (mt_cons rfl mt_nil)) ⟨rfl, hn, World.ownsRow_nil _ _ _ _, Below.refl _ _⟩ ?_
  rintro ⟨m, s, l⟩ f w1 ⟨hl, hm, hown, hb⟩
  dsimp only at *
  refine CallP.mk (Fc.imp (U1 m _) ?_)
  rintro _ _ ⟨rfl, rfl⟩
  have hll : l.length + (uleb m).length ≤ 10 := by rw [← List.length_append, hl]; exact hlen
  have hpos := uleb_pos m
  have e0 : vAnd .u64 (m : Int) 127 = ((m % 128 : Nat) : Int) := by rw [vAnd127]; omega
  refine cI (fun h => ?_) (fun h => ?_)
  · have h : ¬ m < 128 := by
      rw [vLt_iff] at h; simp at h; omega
    refine bk ?_
    refine rConvInt rfl rfl ?_
    refine rBuildSlice (z := .int .u8 0) (sz := 1) rfl rfl rfl (by decide) ?_
    intro w2 hn2
    refine rApp1 w.heap.size (.int .u8 0) 1 hown hn2 rfl rfl rfl rfl (by omega) (by omega) hb.size ?_
    intro v' w3 hown3 hg3 _
    refine ShiftP.mk (by decide) ?_
    have e1 : Value.int .u8 (vOr .u8 (vWrap .u8 (vAnd .u64 (m : Int) 127)) 128) = byteV (UInt8.ofNat (m % 128 + 128)) := by
      refine byteV_of _ (by omega) ?_
      rw [e0, wu8 (by omega)]
      have := vOr_add .u8 (m % 128) 128 7 (by omega) ⟨1, rfl⟩ (by simp [IntKind.max, IntKind.bits, IntKind.signed]; omega)
      rw [show ((128 : Nat) : Int) = 128 from rfl] at this
      rw [this]; omega
    have e2 : vShr .u64 (m : Int) 7 = ((m / 128 : Nat) : Int) := by
      have := vShr_eq .u64 m 7 (by decide)
      rw [show ((7 : Nat) : Int) = 7 from rfl] at this
      rw [this]; omega
    have hu := uleb_ge (n := m) (by omega)
    refine Nxt.mk (m / 128, v', l ++ [UInt8.ofNat (m % 128 + 128)]) (mt_i rfl e2 (mt_cons rfl mt_nil)) ⟨?_, ?_, ?_, below_grown hb hown hg3 (Nat.le_refl _) hb.size⟩ ?_
    · rw [← hl, hu]; simp
    · show m / 128 < 2 ^ 64
      omega
    · rw [e1] at hown3
      simpa using hown3
    · show m / 128 < m
      omega
  · have h : m < 128 := by
      rw [vLt_iff] at h; simp at h; omega
    refine rConvInt rfl rfl ?_
    refine rBuildSlice (z := .int .u8 0) (sz := 1) rfl rfl rfl (by decide) ?_
    intro w2 hn2
    refine rApp1 w.heap.size (.int .u8 0) 1 hown hn2 rfl rfl rfl rfl (by omega) (by omega) hb.size ?_
    intro v' w3 hown3 hg3 _
    have e1 : Value.int .u8 (vWrap .u8 (vAnd .u64 (m : Int) 127)) = byteV (UInt8.ofNat m) := by
      refine byteV_of _ (by omega) ?_
      rw [e0, wu8 (by omega)]; omega
    rw [e1] at hown3
    refine rBytesStr (l := l ++ [UInt8.ofNat m]) (n := l.length + 1) (by simpa using hown3) rfl rfl rfl ?_
    refine Done.mk ⟨_, rfl, ?_, below_grown hb hown hg3 (Nat.le_refl _) hb.size⟩
    rw [← hl, uleb_lt h]
theorem write_s (n : Int) (hn : -9223372036854775808 ≤ n ∧ n ≤ 9223372036854775807) (w : World) : Fc Try.prog 20 #[.int .i64 n, .func (.func 21) #[] #[]] w
    (fun v w' => ∃ l, v = .string (bs l) ∧ l = sleb n ∧ Below w.heap.size w w') := by
  have hlen : (sleb n).length ≤ 10 := sleb_len 9 n (by omega) (by omega)
  refine Fc.of Try.func20 rfl (by kernel_rfl) ?_
  refine LoopP.rule (α := Int × Value × List UInt8) (n, .slice none 0 0, []) (fun x => [(0, .int .i64 x.1), (5, x.2.1)])
    (fun x w' => x.2.2 ++ sleb x.1 = sleb n ∧ (-9223372036854775808 ≤ x.1 ∧ x.1 ≤ 9223372036854775807) ∧ w'.ownsRow w.heap.size 5 1 x.2.1 x.2.2.length (x.2.2.map byteV) ∧ Below w.heap.size w w') (fun x => x.1.natAbs)
    (mt_cons rfl (mt_cons rfl mt_nil)) ⟨rfl, hn, World.ownsRow_nil _ _ _ _, Below.refl _ _⟩ ?_
  rintro ⟨m, s, l⟩ f w1 ⟨hl, hm, hown, hb⟩
  dsimp only at *
  refine CallP.mk (Fc.imp (S1 m _) ?_)
  rintro _ _ ⟨rfl, rfl⟩
  have hll : l.length + (sleb m).length ≤ 10 := by rw [← List.length_append, hl]; exact hlen
  have hpos := sleb_pos m
  have e0 : vAnd .i64 m 127 = (((m % 128).toNat : Nat) : Int) := by rw [vAnd127]; omega
  refine cI (fun h => ?_) (fun h => ?_)
  · have h : ¬ (-64 ≤ m ∧ m < 64) := by intro hh; simp [hh] at h
    refine bk ?_
    refine rConvInt rfl rfl ?_
    refine rBuildSlice (z := .int .u8 0) (sz := 1) rfl rfl rfl (by decide) ?_
    intro w2 hn2
    refine rApp1 w.heap.size (.int .u8 0) 1 hown hn2 rfl rfl rfl rfl (by omega) (by omega) hb.size ?_
    intro v' w3 hown3 hg3 _
    refine ShiftP.mk (by decide) ?_
    have e1 : Value.int .u8 (vOr .u8 (vWrap .u8 (vAnd .i64 m 127)) 128) = byteV (UInt8.ofNat ((m % 128).toNat + 128)) := by
      refine byteV_of _ (by omega) ?_
      rw [e0, wu8 (by omega)]
      have := vOr_add .u8 (m % 128).toNat 128 7 (by omega) ⟨1, rfl⟩ (by simp [IntKind.max, IntKind.bits, IntKind.signed]; omega)
      rw [show ((128 : Nat) : Int) = 128 from rfl] at this
      rw [this]; omega
    have e2 : vShr .i64 m 7 = m / 128 := by
      have := vShr_eq .i64 m 7 (by decide)
      rw [show ((7 : Nat) : Int) = 7 from rfl] at this
      rw [this]; rfl
    have hu := sleb_out h
    refine Nxt.mk (m / 128, v', l ++ [UInt8.ofNat ((m % 128).toNat + 128)]) (mt_i rfl e2 (mt_cons rfl mt_nil)) ⟨?_, ?_, ?_, below_grown hb hown hg3 (Nat.le_refl _) hb.size⟩ ?_
    · rw [← hl, hu]; simp
    · show -9223372036854775808 ≤ m / 128 ∧ m / 128 ≤ 9223372036854775807
      omega
    · rw [e1] at hown3
      simpa using hown3
    · show (m / 128).natAbs < m.natAbs
      omega
  · have h : -64 ≤ m ∧ m < 64 := by simpa using h
    refine rConvInt rfl rfl ?_
    refine rBuildSlice (z := .int .u8 0) (sz := 1) rfl rfl rfl (by decide) ?_
    intro w2 hn2
    refine rApp1 w.heap.size (.int .u8 0) 1 hown hn2 rfl rfl rfl rfl (by omega) (by omega) hb.size ?_
    intro v' w3 hown3 hg3 _
    have e1 : Value.int .u8 (vWrap .u8 (vAnd .i64 m 127)) = byteV (UInt8.ofNat (m % 128).toNat) := by
      refine byteV_of _ (by omega) ?_
      rw [e0, wu8 (by omega)]
    rw [e1] at hown3
    refine rBytesStr (l := l ++ [UInt8.ofNat (m % 128).toNat]) (n := l.length + 1) (by simpa using hown3) rfl rfl rfl ?_
    refine Done.mk ⟨_, rfl, ?_, below_grown hb hown hg3 (Nat.le_refl _) hb.size⟩
    rw [← hl, sleb_in h]
theorem U (n : Nat) (hn : n < 2 ^ 64) (w : World) : Fc Try.prog 9 #[.int .u64 n] w (fun v w' => ∃ l, v = .string (bs l) ∧ l = uleb n ∧ Below w.heap.size w w') := by
  refine Fc.of Try.func9 rfl (by kernel_rfl) ?_
  refine CallP.mk (Fc.imp (write_u n hn w) ?_)
  rintro _ w' ⟨l, rfl, hl, hb⟩
  exact Done.mk ⟨l, rfl, hl, hb⟩
theorem S (n : Int) (hn : -9223372036854775808 ≤ n ∧ n ≤ 9223372036854775807) (w : World) : Fc Try.prog 14 #[.int .i64 n] w (fun v w' => ∃ l, v = .string (bs l) ∧ l = sleb n ∧ Below w.heap.size w w') := by
  refine Fc.of Try.func14 rfl (by kernel_rfl) ?_
  refine CallP.mk (Fc.imp (write_s n hn w) ?_)
  rintro _ w' ⟨l, rfl, hl, hb⟩
  exact Done.mk ⟨l, rfl, hl, hb⟩

/-! ## Reading -/
theorem acc_or (k : IntKind) (acc t i bits : Nat) (hk : k = .u64 ∨ k = .i64) (hb : bits ≤ 64) (hacc : acc < 2 ^ (7 * i)) (hmax : ((acc + t * 2 ^ (7 * i) : Nat) : Int) ≤ k.max) :
    vOr k (acc : Int) ((t * 2 ^ (7 * i) : Nat) : Int) = ((acc + t * 2 ^ (7 * i) : Nat) : Int) := by
  rw [vOr_add k acc _ (7 * i) hacc (Nat.dvd_mul_left _ _) (by omega)]
  omega
theorem acc_step (acc k c bits : Nat) (hb : bits ≤ 64) (hacc : acc < 2 ^ (7 * k)) (h7 : 7 * k < bits) (hbd : acc + c % 128 * 2 ^ (7 * k) < 2 ^ bits) :
    vOr .u64 (acc : Int) (vShl .u64 (vWrap .u64 (vAnd .u8 (c : Int) 127)) ((7 * k : Nat) : Int)) = ((acc + c % 128 * 2 ^ (7 * k) : Nat) : Int) := by
  have h64 : (2 : Nat) ^ bits ≤ 2 ^ 64 := Nat.pow_le_pow_right (by decide) hb
  have e1 : vAnd .u8 (c : Int) 127 = ((c % 128 : Nat) : Int) := by rw [vAnd127]; omega
  rw [e1, wu64 (by omega), vShl_eq _ _ _ (by simp [IntKind.bits]; omega)]
  have e2 : ((c % 128 : Nat) : Int) * 2 ^ (7 * k) = ((c % 128 * 2 ^ (7 * k) : Nat) : Int) := by
    rw [Int.natCast_mul]; norm_cast
  rw [e2, wu64 (by omega)]
  refine acc_or .u64 acc (c % 128) k bits (.inl rfl) hb hacc ?_
  generalize c % 128 * 2 ^ (7 * k) = t at *
  simp [IntKind.max, IntKind.bits, IntKind.signed]; omega
theorem acc_bd {acc k c bits : Nat} (hacc : acc < 2 ^ (7 * k)) (h7 : 7 * k < bits) (hno : ¬ (bits < 7 * k + 7 ∧ c / 2 ^ (bits - 7 * k) ≠ 0)) : acc + c % 128 * 2 ^ (7 * k) < 2 ^ bits := by
  have e : (2 : Nat) ^ bits = 2 ^ (bits - 7 * k) * 2 ^ (7 * k) := by rw [← Nat.pow_add]; congr 1; omega
  have h1 : c % 128 < 2 ^ (bits - 7 * k) := by
    by_cases h : bits < 7 * k + 7
    · have h2 : c / 2 ^ (bits - 7 * k) = 0 := Decidable.byContradiction fun h2 => hno ⟨h, h2⟩
      have := (Nat.div_eq_zero_iff.1 h2).resolve_left (Nat.ne_of_gt (Nat.two_pow_pos _))
      exact Nat.lt_of_le_of_lt (Nat.mod_le _ _) this
    · have : (2 : Nat) ^ 7 ≤ 2 ^ (bits - 7 * k) := Nat.pow_le_pow_right (by decide) (by omega)
      omega
  have h2 : (c % 128 + 1) * 2 ^ (7 * k) ≤ 2 ^ (bits - 7 * k) * 2 ^ (7 * k) := Nat.mul_le_mul_right _ h1
  rw [Nat.add_mul] at h2
  omega
theorem cont_bd {k c bits : Nat} (hb : bits = 32 ∨ bits = 64) (h7 : 7 * k < bits) (hc : 128 ≤ c) (hno : ¬ (bits < 7 * k + 7 ∧ c / 2 ^ (bits - 7 * k) ≠ 0)) : 7 * (k + 1) < bits := by
  by_cases h : bits < 7 * k + 7
  · exfalso
    apply hno
    refine ⟨h, fun h2 => ?_⟩
    have h3 := (Nat.div_eq_zero_iff.1 h2).resolve_left (Nat.ne_of_gt (Nat.two_pow_pos _))
    have : (2 : Nat) ^ (bits - 7 * k) ≤ 2 ^ 7 := Nat.pow_le_pow_right (by decide) (by omega)
    omega
  · omega
theorem acc_next {acc k c : Nat} (hacc : acc < 2 ^ (7 * k)) : acc + c % 128 * 2 ^ (7 * k) < 2 ^ (7 * (k + 1)) := by
  rw [pow_succ7]
  have h2 : (c % 128 + 1) * 2 ^ (7 * k) ≤ 128 * 2 ^ (7 * k) := Nat.mul_le_mul_right _ (by omega)
  rw [Nat.add_mul] at h2
  omega
theorem readU (s : List UInt8) (bits : Nat) (w : World) (hb : bits = 32 ∨ bits = 64) (hs : s.length ≤ 9223372036854775807) : Fc Try.prog 15 #[.string (bs s), .int .i64 bits] w
    (fun v w' => ∃ n k e : Nat, v = .tuple #[.int .u64 n, .int .i64 k, .int .i64 e] ∧ rdU bits s 0 0 = (n, k, e) ∧ w = w') := by
  refine Fc.of Try.func15 rfl (by kernel_rfl) ?_
  have hb' := hb
  rcases hb' with e0 | e0
  case' inl =>
    refine br_f (by rw [e0]; simp [vNe_iff]) ?_
    refine cF rfl ?_
  case' inr =>
    refine br_t (by rw [e0]; simp [vNe_iff]) ?_
    refine cF (by rw [e0]; simp [vNe_iff]) ?_
  all_goals
    clear e0
    refine rLenStr rfl ?_
    refine LoopP.rule (α := Nat × Nat) (0, 0) (fun x => [(7, .int .u64 x.2), (19, .int .i64 x.1)]) (fun x w' => w = w' ∧ x.1 ≤ s.length ∧ 7 * x.1 < bits ∧ x.2 < 2 ^ (7 * x.1) ∧ rdU bits (s.drop x.1) x.1 x.2 = rdU bits s 0 0)
      (fun x => s.length - x.1) (mt_cons rfl (mt_cons rfl mt_nil)) ⟨rfl, by simp, by dsimp only; omega, by simp, by simp⟩ ?_
    rintro ⟨k, acc⟩ f w1 ⟨rfl, hk, h7, hacc, hrd⟩
    dsimp only at *
    refine cI (fun h2 => ?_) (fun h2 => ?_)
    · have hlt : k < s.length := by have := vLt_t h2; omega
      refine bk ?_
      refine rIdxStr rfl k rfl hlt ?_
      have hdrop : s.drop k = s[k] :: s.drop (k + 1) := List.drop_eq_getElem_cons hlt
      rw [hdrop, rdU] at hrd
      have hc := s[k].toNat_lt
      generalize s[k] = c at *
      have hleft : vWrap .i64 (bits - vWrap .i64 (7 * k)) = ((bits - 7 * k : Nat) : Int) := by
        rw [wi64 (n := 7 * k) (by omega), wi64 (by omega)]; omega
      have hpow : (2 : Int) ^ (bits - 7 * k) = ((2 ^ (bits - 7 * k) : Nat) : Int) := by norm_cast
      refine br (fun h3 => ?_) (fun h3 => ?_)
      rw [hleft] at h3
      have h3' := vLt_t h3
      refine ShiftP.mk (by rw [hleft]; omega) ?_
      refine cI (fun h4 => ?_) (fun h4 => ?_)
      · refine Done.mk ?_
        have h4 := vNe_t h4
        rw [hleft, vShr_eq _ _ _ (by simp [IntKind.bits]; omega), hpow] at h4
        rw [if_pos ⟨by omega, by intro e; apply h4; rw [← Int.natCast_ediv, e]; rfl⟩] at hrd
        exact ⟨_, _, _, rfl, hrd.symm, rfl⟩
      have h4' := vNe_f h4
      rw [hleft, vShr_eq _ _ _ (by simp [IntKind.bits]; omega), hpow, ← Int.natCast_ediv] at h4'
      have hno : ¬ (bits < 7 * k + 7 ∧ c.toNat / 2 ^ (bits - 7 * k) ≠ 0) := by rintro ⟨_, h⟩; apply h; omega
      rotate_left
      refine cF rfl ?_
      rw [hleft] at h3
      have h3' := vLt_f h3
      have hno : ¬ (bits < 7 * k + 7 ∧ c.toNat / 2 ^ (bits - 7 * k) ≠ 0) := by omega
      all_goals
        rw [if_neg hno] at hrd
        have hbd := acc_bd hacc h7 hno
        refine rConvInt rfl rfl ?_
        have e1 : vWrap .i64 (7 * (k : Int)) = ((7 * k : Nat) : Int) := by rw [wi64 (by omega)]; omega
        refine ShiftP.mk (by rw [e1]; omega) ?_
        refine cI (fun h5 => ?_) (fun h5 => ?_)
        · refine Done.mk ?_
          rw [if_pos (by have := vLt_t h5; omega)] at hrd
          rw [e1, acc_step acc k c.toNat bits (by omega) hacc h7 hbd, wi64 (by omega)]
          exact ⟨_, _, _, rfl, hrd.symm, rfl⟩
        · have := vLt_f h5
          rw [if_neg (by omega)] at hrd
          refine Nxt.mk (k + 1, acc + c.toNat % 128 * 2 ^ (7 * k)) (mt_i rfl ?_ (mt_i rfl ?_ mt_nil)) ⟨rfl, hlt, cont_bd hb h7 (by omega) hno, acc_next hacc, hrd⟩ ?_
          · rw [e1]; exact acc_step acc k c.toNat bits (by omega) hacc h7 hbd
          · rw [wi64 (by omega)]; rfl
          · show s.length - (k + 1) < s.length - k
            omega
    · refine Done.mk ?_
      have : s.drop k = [] := by have := vLt_f h2; exact List.drop_eq_nil_of_le (by omega)
      rw [this] at hrd
      exact ⟨_, _, _, rfl, hrd.symm, rfl⟩
theorem wrap_i8 {x : Int} (h : 0 ≤ x ∧ x < 256) : vWrap .i8 x = if x < 128 then x else x - 256 := by
  unfold vWrap
  simp [IntKind.wrap, IntKind.bits, IntKind.signed]
  split <;> split <;> omega
theorem sev_walk (c : Nat) (hc : c < 256) : vShr .i64 (vWrap .i64 (vWrap .i8 (vShl .u8 (c : Int) 1))) 1 = sev c := by
  have e1 : vShl .u8 (c : Int) 1 = ((2 * c % 256 : Nat) : Int) := by
    have := vShl_eq .u8 c 1 (by decide)
    rw [show ((1 : Nat) : Int) = 1 from rfl] at this
    rw [this]
    unfold vWrap
    simp [IntKind.wrap, IntKind.bits, IntKind.signed]; omega
  have e2 : vWrap .i8 ((2 * c % 256 : Nat) : Int) = if c % 128 < 64 then ((2 * (c % 128) : Nat) : Int) else ((2 * (c % 128) : Nat) : Int) - 256 := by
    rw [wrap_i8 (by omega)]
    split <;> split <;> omega
  have e3 := vShr_eq .i64 (sev c * 2) 1 (by decide)
  rw [show ((1 : Nat) : Int) = 1 from rfl] at e3
  have e4 : vWrap .i8 ((2 * c % 256 : Nat) : Int) = sev c * 2 := by
    rw [e2]; unfold sev; split <;> omega
  have hs : -64 ≤ sev c ∧ sev c < 64 := by unfold sev; split <;> omega
  rw [e1, e4, wi64 (by omega), e3]
  omega
theorem acc_stepS (acc k c : Nat) (hk : 7 * k < 63) (hacc : acc < 2 ^ (7 * k)) (h63 : acc + c % 128 * 2 ^ (7 * k) < 2 ^ 63) :
    vOr .i64 (acc : Int) (vShl .i64 (vWrap .i64 (vAnd .u8 (c : Int) 127)) ((7 * k : Nat) : Int)) = ((acc + c % 128 * 2 ^ (7 * k) : Nat) : Int) := by
  have e1 : vAnd .u8 (c : Int) 127 = ((c % 128 : Nat) : Int) := by rw [vAnd127]; omega
  rw [e1, wi64 (by omega), vShl_eq _ _ _ (by simp [IntKind.bits]; omega)]
  have e2 : ((c % 128 : Nat) : Int) * 2 ^ (7 * k) = ((c % 128 * 2 ^ (7 * k) : Nat) : Int) := by
    rw [Int.natCast_mul]; norm_cast
  rw [e2, wi64 (by omega)]
  refine acc_or .i64 acc (c % 128) k 64 (.inr rfl) (by decide) hacc ?_
  generalize c % 128 * 2 ^ (7 * k) = t at *
  simp [IntKind.max, IntKind.bits, IntKind.signed]; omega
/-- or of what lies below bit n and a multiple of 2^n, with signs -/
theorem vOr_i64 (a : Nat) (b : Int) (n : Nat) (ha : a < 2 ^ n) (hn : n ≤ 63) (hb : (2 ^ n : Int) ∣ b) (h1 : -9223372036854775808 ≤ b) (h2 : b ≤ 9223372036854775807) : vOr .i64 (a : Int) b = a + b := by
  obtain ⟨c, rfl⟩ := hb
  have hp : (0 : Int) < 2 ^ n := by exact_mod_cast Nat.two_pow_pos n
  have h64 : (2 : Int) ^ 64 = 2 ^ n * 2 ^ (64 - n) := by rw [← Int.pow_add]; congr 1; omega
  have han : ((2 ^ n : Nat) : Int) = 2 ^ n := by norm_cast
  have ha' : (a : Int) < 2 ^ n := by omega
  have hlt63 : (2 : Int) ^ n ≤ 2 ^ 63 := by exact_mod_cast Nat.pow_le_pow_right (by decide) hn
  unfold vOr
  have ea : (BitVec.ofInt IntKind.i64.bits (a : Int)).toNat = a := by
    have := ofInt_toNat 64 a
    rw [Int.emod_eq_of_lt (by omega) (by omega)] at this
    show (BitVec.ofInt 64 (a : Int)).toNat = a
    omega
  have eb : (((BitVec.ofInt IntKind.i64.bits (2 ^ n * c)).toNat : Nat) : Int) = 2 ^ n * (c % 2 ^ (64 - n)) := by
    have := ofInt_toNat 64 (2 ^ n * c)
    show (((BitVec.ofInt 64 (2 ^ n * c)).toNat : Nat) : Int) = _
    rw [this, h64, Int.mul_emod_mul_of_pos _ _ hp]
  have hp2 : (0 : Int) < 2 ^ (64 - n) := by exact_mod_cast Nat.two_pow_pos _
  have hc0 : 0 ≤ c % 2 ^ (64 - n) := Int.emod_nonneg _ (Int.ne_of_gt hp2)
  obtain ⟨d, hd⟩ := Int.eq_ofNat_of_zero_le hc0
  have eb' : (BitVec.ofInt IntKind.i64.bits (2 ^ n * c)).toNat = 2 ^ n * d := by
    have : (((BitVec.ofInt IntKind.i64.bits (2 ^ n * c)).toNat : Nat) : Int) = ((2 ^ n * d : Nat) : Int) := by
      rw [eb, hd, Int.natCast_mul, han]
    omega
  rw [BitVec.toNat_or, ea, eb', Nat.or_comm, ← Nat.two_pow_add_eq_or_of_lt ha]
  have h3 : ((2 ^ n * d + a : Nat) : Int) = (2 ^ n * c + a) % 2 ^ 64 := by
    rw [Int.natCast_add, Int.natCast_mul, han]
    rw [← hd, ← Int.mul_emod_mul_of_pos _ _ hp, ← h64]
    have h5 : 0 ≤ 2 ^ n * c % 2 ^ 64 := Int.emod_nonneg _ (by decide)
    have h6 : 2 ^ n * c % 2 ^ 64 + a < 2 ^ 64 := by
      rw [h64, Int.mul_emod_mul_of_pos _ _ hp]
      have : c % 2 ^ (64 - n) + 1 ≤ 2 ^ (64 - n) := Int.emod_lt_of_pos _ (by exact_mod_cast Nat.two_pow_pos _)
      have h7 := Int.mul_le_mul_of_nonneg_left this (Int.le_of_lt hp)
      rw [Int.mul_add, Int.mul_one] at h7
      omega
    rw [Int.add_emod, Int.emod_eq_of_lt (a := (a : Int)) (by omega) (by omega), Int.emod_eq_of_lt (by omega) h6]
  have hbnd : 2 ^ n * c + (a : Int) ≤ 9223372036854775807 := by
    by_cases hc : c < 0
    · have : 2 ^ n * c ≤ 2 ^ n * (-1) := Int.mul_le_mul_of_nonneg_left (by omega) (Int.le_of_lt hp)
      omega
    · have h8 : (2 : Int) ^ 63 = 2 ^ n * 2 ^ (63 - n) := by rw [← Int.pow_add]; congr 1; omega
      have h9 : c < 2 ^ (63 - n) := by
        apply Decidable.byContradiction
        intro h
        have h10 := Int.mul_le_mul_of_nonneg_left (Int.not_lt.1 h) (Int.le_of_lt hp)
        rw [← h8] at h10
        omega
      have h11 := Int.mul_le_mul_of_nonneg_left (show c + 1 ≤ 2 ^ (63 - n) from h9) (Int.le_of_lt hp)
      rw [← h8, Int.mul_add, Int.mul_one] at h11
      omega
  rw [h3]
  have h12 : IntKind.i64.wrap ((2 ^ n * c + (a : Int)) % 2 ^ 64) = IntKind.i64.wrap (2 ^ n * c + a) := by
    unfold IntKind.wrap
    rw [show IntKind.i64.bits = 64 from rfl, Int.emod_emod]
  rw [h12]
  have h13 := wi64 (n := 2 ^ n * c + a) ⟨by omega, hbnd⟩
  unfold vWrap at h13
  rw [h13]; omega
theorem readS (s : List UInt8) (bits : Nat) (w : World) (hb : bits = 32 ∨ bits = 64) (hs : s.length ≤ 9223372036854775807) : Fc Try.prog 16 #[.string (bs s), .int .i64 bits] w
    (fun v w' => ∃ (n : Int) (k e : Nat), v = .tuple #[.int .i64 n, .int .i64 k, .int .i64 e] ∧ rdS bits s 0 0 = (n, k, e) ∧ w = w') := by
  refine Fc.of Try.func16 rfl (by kernel_rfl) ?_
  have hb' := hb
  rcases hb' with e0 | e0
  case' inl =>
    refine br_f (by rw [e0]; simp [vNe_iff]) ?_
    refine cF rfl ?_
  case' inr =>
    refine br_t (by rw [e0]; simp [vNe_iff]) ?_
    refine cF (by rw [e0]; simp [vNe_iff]) ?_
  all_goals
    clear e0
    refine rLenStr rfl ?_
    refine LoopP.rule (α := Nat × Nat) (0, 0) (fun x => [(7, .int .i64 x.2), (21, .int .i64 x.1)]) (fun x w' => w = w' ∧ x.1 ≤ s.length ∧ 7 * x.1 < bits ∧ x.2 < 2 ^ (7 * x.1) ∧ rdS bits (s.drop x.1) x.1 x.2 = rdS bits s 0 0)
      (fun x => s.length - x.1) (mt_cons rfl (mt_cons rfl mt_nil)) ⟨rfl, by simp, by dsimp only; omega, by simp, by simp⟩ ?_
    rintro ⟨k, acc⟩ f w1 ⟨rfl, hk, h7, hacc, hrd⟩
    dsimp only at *
    refine cI (fun h2 => ?_) (fun h2 => ?_)
    · have hlt : k < s.length := by have := vLt_t h2; omega
      refine bk ?_
      refine rIdxStr rfl k rfl hlt ?_
      have hdrop : s.drop k = s[k] :: s.drop (k + 1) := List.drop_eq_getElem_cons hlt
      rw [hdrop, rdS] at hrd
      have hc := s[k].toNat_lt
      generalize s[k] = c at *
      have hsb : -64 ≤ sev c.toNat ∧ sev c.toNat < 64 := by unfold sev; split <;> omega
      have hleft : vWrap .i64 (bits - vWrap .i64 (7 * k)) = ((bits - 7 * k : Nat) : Int) := by
        rw [wi64 (n := 7 * k) (by omega), wi64 (by omega)]; omega
      have hsev := sev_walk c.toNat hc
      refine ShiftP.mk (by decide) ?_
      refine rConvInt rfl rfl ?_
      refine rConvInt rfl rfl ?_
      refine ShiftP.mk (by decide) ?_
      have e7 : vWrap .i64 (7 * (k : Int)) = ((7 * k : Nat) : Int) := by rw [wi64 (by omega)]; omega
      refine cI (fun h3 => ?_) (fun h3 => ?_)
      · rw [hleft] at h3
        have h3' := vLt_t h3
        have hl1 : vWrap .i64 (((bits - 7 * k : Nat) : Int) - 1) = ((bits - 7 * k - 1 : Nat) : Int) := by rw [wi64 (by omega)]; omega
        rw [← hleft] at hl1
        refine ShiftP.mk (by rw [hl1]; omega) ?_
        have hm6 : (2 : Nat) ^ (bits - 7 * k - 1) ≤ 2 ^ 6 := Nat.pow_le_pow_right (by decide) (by omega)
        have hm0 := Nat.two_pow_pos (bits - 7 * k - 1)
        have hbb : (2 : Nat) ^ (bits - 7 * k - 1) * 2 ^ (7 * k) = 2 ^ (bits - 1) := by rw [← Nat.pow_add]; congr 1; omega
        have hmost : vShl .i64 1 (vWrap .i64 (vWrap .i64 (bits - vWrap .i64 (7 * k)) - 1)) = ((2 ^ (bits - 7 * k - 1) : Nat) : Int) := by
          rw [hl1, vShl_eq _ _ _ (by simp [IntKind.bits]; omega), Int.one_mul]
          have e : (2 : Int) ^ (bits - 7 * k - 1) = ((2 ^ (bits - 7 * k - 1) : Nat) : Int) := by norm_cast
          rw [e]
          generalize 2 ^ (bits - 7 * k - 1) = M at *
          rw [wi64 (by omega)]
        have hbad : badS bits k c.toNat ↔ (bits < 7 * k + 7 ∧ (128 ≤ c.toNat ∨ sev c.toNat < -((2 ^ (bits - 7 * k - 1) : Nat) : Int) ∨ ((2 ^ (bits - 7 * k - 1) : Nat) : Int) ≤ sev c.toNat)) := Iff.rfl
        obtain ⟨M, hM⟩ : ∃ M, M = 2 ^ (bits - 7 * k - 1) := ⟨_, rfl⟩
        rw [← hM] at hbad hm6 hm0 hbb hmost
        refine br (fun h4 => ?_) (fun h4 => ?_)
        · have h4 := vLe_t h4
          refine cT rfl ?_
          refine Done.mk ?_
          rw [if_pos (hbad.2 ⟨by omega, .inl (by omega)⟩)] at hrd
          exact ⟨_, _, _, rfl, hrd.symm, rfl⟩
        · have h4 := vLe_f h4
          refine br (fun h5 => ?_) (fun h5 => ?_)
          · rw [hsev, hmost] at h5
            have h5 := vLt_t h5
            rw [wi64 (by omega)] at h5
            refine cT rfl ?_
            refine Done.mk ?_
            rw [if_pos (hbad.2 ⟨by omega, .inr (.inl (by omega))⟩)] at hrd
            exact ⟨_, _, _, rfl, hrd.symm, rfl⟩
          · rw [hsev, hmost] at h5
            have h5 := vLt_f h5
            rw [wi64 (by omega)] at h5
            refine cI (fun h6 => ?_) (fun h6 => ?_)
            · rw [hsev, hmost] at h6
              have h6 := vLe_t h6
              refine Done.mk ?_
              rw [if_pos (hbad.2 ⟨by omega, .inr (.inr h6)⟩)] at hrd
              exact ⟨_, _, _, rfl, hrd.symm, rfl⟩
            · rw [hsev, hmost] at h6
              have h6 := vLe_f h6
              rw [if_neg (by rw [hbad]; rintro ⟨_, h | h | h⟩ <;> omega), if_pos (by omega)] at hrd
              refine cT (by rw [vLt_iff]; simp; omega) ?_
              refine ShiftP.mk (by rw [e7]; omega) ?_
              refine Done.mk ?_
              have hpe : (2 : Int) ^ (7 * k) = ((2 ^ (7 * k) : Nat) : Int) := by norm_cast
              have h63 : (2 : Nat) ^ (bits - 1) ≤ 2 ^ 63 := Nat.pow_le_pow_right (by decide) (by omega)
              have hx1 : -((2 ^ 63 : Nat) : Int) ≤ sev c.toNat * 2 ^ (7 * k) := by
                rw [hpe]
                have := Int.mul_le_mul_of_nonneg_right h5 (show (0 : Int) ≤ ((2 ^ (7 * k) : Nat) : Int) by omega)
                rw [Int.sub_mul, Int.zero_mul, ← Int.natCast_mul, hbb] at this
                omega
              have hx2 : sev c.toNat * 2 ^ (7 * k) < ((2 ^ 63 : Nat) : Int) := by
                rw [hpe]
                have := Int.mul_lt_mul_of_pos_right h6 (show (0 : Int) < ((2 ^ (7 * k) : Nat) : Int) by have := Nat.two_pow_pos (7 * k); omega)
                rw [← Int.natCast_mul, hbb] at this
                omega
              rw [hsev, e7, vShl_eq _ _ _ (by simp [IntKind.bits]; omega), wi64 (by omega), vOr_i64 acc _ (7 * k) hacc (by omega) ⟨_, Int.mul_comm _ _⟩ (by omega) (by omega), hpe, wi64 (by omega)]
              exact ⟨_, _, _, rfl, hrd.symm, rfl⟩
      · rw [hleft] at h3
        have h3' := vLt_f h3
        rw [if_neg (by rintro ⟨h, _⟩; omega)] at hrd
        have hp63 : (2 : Nat) ^ (7 * (k + 1)) ≤ 2 ^ 63 := Nat.pow_le_pow_right (by decide) (by omega)
        have hnx := acc_next (c := c.toNat) hacc
        refine cI (fun h4 => ?_) (fun h4 => ?_)
        · have h4 := vLt_t h4
          rw [if_pos (by omega)] at hrd
          refine ShiftP.mk (by rw [e7]; omega) ?_
          refine Done.mk ?_
          have hpe : (2 : Int) ^ (7 * k) = ((2 ^ (7 * k) : Nat) : Int) := by norm_cast
          have hp56 : (2 : Nat) ^ (7 * k) ≤ 2 ^ 57 := Nat.pow_le_pow_right (by decide) (by omega)
          have hx1 : -((2 ^ 63 : Nat) : Int) ≤ sev c.toNat * 2 ^ (7 * k) := by
            rw [hpe]
            have := Int.mul_le_mul_of_nonneg_right hsb.1 (show (0 : Int) ≤ ((2 ^ (7 * k) : Nat) : Int) by omega)
            omega
          have hx2 : sev c.toNat * 2 ^ (7 * k) < ((2 ^ 63 : Nat) : Int) := by
            rw [hpe]
            have := Int.mul_lt_mul_of_pos_right hsb.2 (show (0 : Int) < ((2 ^ (7 * k) : Nat) : Int) by have := Nat.two_pow_pos (7 * k); omega)
            omega
          rw [hsev, e7, vShl_eq _ _ _ (by simp [IntKind.bits]; omega), wi64 (by omega), vOr_i64 acc _ (7 * k) hacc (by omega) ⟨_, Int.mul_comm _ _⟩ (by omega) (by omega), hpe, wi64 (by omega)]
          exact ⟨_, _, _, rfl, hrd.symm, rfl⟩
        · have h4 := vLt_f h4
          rw [if_neg (by omega)] at hrd
          refine rConvInt rfl rfl ?_
          refine ShiftP.mk (by rw [e7]; omega) ?_
          refine Nxt.mk (k + 1, acc + c.toNat % 128 * 2 ^ (7 * k)) (mt_i rfl ?_ (mt_i rfl ?_ mt_nil)) ⟨rfl, hlt, ?_, hnx, hrd⟩ ?_
          · rw [e7]; exact acc_stepS acc k c.toNat (by omega) hacc (by omega)
          · rw [wi64 (by omega)]; rfl
          · show 7 * (k + 1) < bits
            omega
          · show s.length - (k + 1) < s.length - k
            omega
    · refine Done.mk ?_
      have : s.drop k = [] := by have := vLt_f h2; exact List.drop_eq_nil_of_le (by omega)
      rw [this] at hrd
      exact ⟨_, _, _, rfl, hrd.symm, rfl⟩
end Go.Proofs.Yteddbemcbnpemaa.Leb
