/- Package frame: the check sum, numbers as bytes. -/
import Derived.Test.YtepceieglhfnoaaFrame2
set_option maxRecDepth 100000
set_option maxHeartbeats 4000000
set_option linter.unusedVariables false
set_option linter.unusedSimpArgs false
namespace Go.Proofs.Ytepceieglhfnoaa.Frame
open Go Go.Proofs.Ytepceieglhfnoaa.Eng Go.RowKit
def tn (x : Nat) : Nat := if x % 2 = 1 then (x / 2) ^^^ 3988292384 else x / 2
def tns : Nat → Nat → Nat
  | 0, x => x
  | n + 1, x => tn (tns n x)
def crcB (r : Nat) (c : UInt8) : Nat := tns 8 (r ^^^ c.toNat)
def crcL (r : Nat) (l : List UInt8) : Nat := l.foldl crcB r
def sumL (l : List UInt8) : Nat := 4294967295 - crcL 4294967295 l
theorem tn_eq (x : Nat) : tn x = (x / 2) ^^^ (3988292384 &&& ((4294967296 - x % 2) % 4294967296)) := by
  unfold tn
  split
  · rename_i h; rw [h, show (3988292384 &&& (4294967296 - 1) % 4294967296 : Nat) = 3988292384 by decide]
  · rename_i h; rw [show x % 2 = 0 by omega]; simp
theorem tn_lt {x : Nat} (h : x < 4294967296) : tn x < 4294967296 := by
  unfold tn
  split
  · exact Nat.xor_lt_two_pow (n := 32) (by omega) (by decide)
  · omega
theorem tns_lt (n : Nat) {x : Nat} (h : x < 4294967296) : tns n x < 4294967296 := by
  induction n with
  | zero => exact h
  | succ n ih => exact tn_lt ih
theorem crcB_lt {r : Nat} (c : UInt8) (h : r < 4294967296) : crcB r c < 4294967296 := tns_lt 8 (Nat.xor_lt_two_pow (n := 32) h (by have := c.toNat_lt; omega))
theorem crcL_lt (l : List UInt8) : ∀ {r : Nat}, r < 4294967296 → crcL r l < 4294967296 := by
  induction l with
  | nil => intro r h; exact h
  | cons c l ih => intro r h; exact ih (crcB_lt c h)
theorem crcL_snoc (r : Nat) (l : List UInt8) (c : UInt8) : crcL r (l ++ [c]) = crcB (crcL r l) c := by unfold crcL; rw [List.foldl_append]; rfl
theorem take_snoc {α : Type} {xs : List α} {i : Nat} {x : α} (h : xs[i]? = some x) : xs.take (i + 1) = xs.take i ++ [x] := by
  rw [List.take_add_one, h]; rfl
theorem sum (s : List UInt8) (hs : s.length ≤ 9223372036854775807) (w : World) : Fc Try.prog 24 #[.string (bs s)] w (fun v w' => v = .int .u32 (sumL s : Nat) ∧ Sat (froz w) w' []) := by
  refine Fc.of Try.func24 rfl (by kernel_rfl) ?_
  have H := Sat.start w
  refine rLenStr rfl ?_
  refine LoopP.rule (α := Nat × Nat) (0, 4294967295) (fun x_ => [(8, .int .i64 x_.1), (3, .int .u32 x_.2)]) (fun x_ w_ => (x_.1 ≤ s.length) ∧ (x_.2 = crcL 4294967295 (s.take x_.1)) ∧ Sat (froz w) w_ ([])) (fun x_ => s.length - x_.1) ?_ ?_ ?_
  · repeat first | exact mt_nil | refine mt_cons rfl ?_ | refine mt_i rfl (by first | omega | (simp only; omega) | (simp; omega) | (simp; done)) ?_
  · try simp only
    refine ⟨?_, ?_⟩
    · omega
    refine ⟨?_, ?_⟩
    · rfl
    exact H
  clear H
  rintro ⟨i, r⟩ f_ w_ ⟨hi, hr, H⟩
  try simp only at hi hr H ⊢
  have hrl : r < 4294967296 := by rw [hr]; exact crcL_lt _ (by decide)
  refine cI (fun c1 => ?_) (fun c1 => ?_)
  rotate_left
  · replace c1 := vLt_f (c1)
    refine rNotU32 (by omega) (by omega) ?_
    refine Done.mk ?_
    refine ⟨?_, ?_⟩
    · refine int_eq ?_
      (rw [hr, List.take_of_length_le (by omega)]; unfold sumL; have := crcL_lt s (r := 4294967295) (by decide); omega)
    exact H
  replace c1 := vLt_t (c1)
  refine bk ?_
  obtain ⟨x1, hx1⟩ : ∃ x, (s)[(i)]? = some x := ⟨_, List.getElem?_eq_getElem (by omega)⟩
  have hb1 := byteLt hx1
  refine rIdxStrX rfl (i) hx1 rfl ?_
  refine rConvU32 (by omega) rfl rfl ?_
  (refine eqXorU32 ((r)) ((x1.toNat)) (by omega) (by omega) (by omega) (by omega) ?_; intro hB)
  have hx0 : r ^^^ x1.toNat < 4294967296 := Nat.xor_lt_two_pow (n := 32) hrl (by omega)
  refine LoopP.rule (α := Nat × Nat) (0, r ^^^ x1.toNat) (fun x_ => [(17, .int .i64 x_.1), (3, .int .u32 x_.2)]) (fun x_ w_ => (x_.1 ≤ 8) ∧ (x_.2 = tns x_.1 (r ^^^ x1.toNat)) ∧ Sat (froz w) w_ ([])) (fun x_ => 8 - x_.1) ?_ ?_ ?_
  · repeat first | exact mt_nil | refine mt_cons rfl ?_ | refine mt_i rfl (by first | omega | (simp only; omega) | (simp; omega) | (simp; done)) ?_
  · try simp only
    refine ⟨?_, ?_⟩
    · omega
    refine ⟨?_, ?_⟩
    · rfl
    exact H
  clear H
  rintro ⟨j, x⟩ f_ w_ ⟨hj, hxe, H⟩
  try simp only at hj hxe H ⊢
  have hxl : x < 4294967296 := by rw [hxe]; exact tns_lt _ hx0
  refine cI (fun c2 => ?_) (fun c2 => ?_)
  · replace c2 := vLt_t (c2)
    refine bk ?_
    refine eqAndMask 1 2 rfl rfl (by decide) ?_
    refine ShiftP.mk (by decide) ?_
    refine eqShrL 1 2 rfl rfl (by decide) ?_
    refine eqNegU32 (by omega) ?_
    (refine eqAndU32 (3988292384) (((4294967296 - ((x) % 2)) % 4294967296)) (by omega) (by omega) (by omega) (by omega) ?_; intro hA1 hA2)
    (refine eqXorU32 (((x) / 2)) ((3988292384 &&& (4294967296 - x % 2) % 4294967296)) (by omega) (by omega) (by omega) (by omega) ?_; intro hB)
    refine eqI64 (by omega) ?_
    refine Nxt.mk ((j + 1, x / 2 ^^^ 3988292384 &&& (4294967296 - x % 2) % 4294967296)) (mt_i rfl (by first | omega | (simp only; omega) | (simp; omega)) (mt_cons rfl (mt_nil))) ?_ ?_
    · refine ⟨?_, ?_⟩
      · omega
      refine ⟨?_, ?_⟩
      · (rw [← tn_eq, hxe]; rfl)
      exact H
    omega
  replace c2 := vLt_f (c2)
  refine eqI64 (by omega) ?_
  refine Nxt.mk ((i + 1, x)) (mt_i rfl (by first | omega | (simp only; omega) | (simp; omega)) (mt_cons rfl (mt_nil))) ?_ ?_
  · refine ⟨?_, ?_⟩
    · omega
    refine ⟨?_, ?_⟩
    · (rw [take_snoc hx1, crcL_snoc, ← hr, hxe, show j = 8 by omega]; rfl)
    exact H
  omega
def le4 (n : Nat) : List UInt8 := [UInt8.ofNat n, UInt8.ofNat (n / 256), UInt8.ofNat (n / 65536), UInt8.ofNat (n / 16777216)]
theorem ending (s : List UInt8) (hs : s.length ≤ 9223372036854775807) (w : World) : Fc Try.prog 39 #[.string (bs s)] w (fun v w' => v = .string (bs (le4 (sumL s))) ∧ Sat (froz w) w' []) := by
  refine Fc.of Try.func39 rfl (by kernel_rfl) ?_
  have H := Sat.start w
  have hl : sumL s < 4294967296 := by unfold sumL; omega
  refine CallP.mk (Fc.imp (Go.Proofs.Ytepceieglhfnoaa.Frame.sum _ ?_ _) ?_)
  · assumption
  rintro _ w1 ⟨rfl, H'⟩
  refine H.mergeK H' ?_
  clear H H'
  intro H
  refine rConvU8M rfl rfl ?_
  refine ShiftP.mk (by decide) ?_
  refine eqShrL 8 256 rfl rfl (by decide) ?_
  refine rConvU8M rfl rfl ?_
  refine ShiftP.mk (by decide) ?_
  refine eqShrL 16 65536 rfl rfl (by decide) ?_
  refine rConvU8M rfl rfl ?_
  refine ShiftP.mk (by decide) ?_
  refine eqShrL 24 16777216 rfl rfl (by decide) ?_
  refine rConvU8 (by omega) rfl rfl ?_
  refine rBuildSliceS H rfl rfl rfl rfl ?_
  clear H
  intro p1 w2 H
  clear w1
  have hbk1 := byteIs (x := (↑(sumL s) : Int) % 256) (n := (sumL s)) (by omega)
  rw [hbk1] at H
  clear hbk1
  have hbk1 := byteIs (x := (↑(sumL s) : Int) / 256 % 256) (n := ((sumL s) / 256)) (by omega)
  rw [hbk1] at H
  clear hbk1
  have hbk1 := byteIs (x := (↑(sumL s) : Int) / 65536 % 256) (n := ((sumL s) / 65536)) (by omega)
  rw [hbk1] at H
  clear hbk1
  have hbk1 := byteIs (x := (↑(sumL s) : Int) / 16777216) (n := ((sumL s) / 16777216)) (by omega)
  rw [hbk1] at H
  clear hbk1
  refine H.ptSl (n := 4) (en := enY) (s := 1) 0 rfl [_, _, _, _] rfl rfl (fun _ => rfl) rfl ?_
  clear H
  intro H
  refine rBytesStrS H 0 rfl rfl rfl rfl ?_
  refine Done.mk ?_
  refine ⟨?_, ?_⟩
  · rfl
  refine H.firsts 0 ?_
  clear H
  intro H
  exact H
def valB (l : List UInt8) : Nat := l.foldl (fun n c => n * 256 + c.toNat) 0
def valF (a : Nat) (l : List UInt8) : Nat := l.foldl (fun n c => n * 256 + c.toNat) a
theorem valF_eq (l : List UInt8) : ∀ a, valF a l = a * 256 ^ l.length + valB l := by
  induction l with
  | nil => intro a; simp [valF, valB]
  | cons c l ih =>
    intro a
    show valF (a * 256 + c.toNat) l = _ + valF (0 * 256 + c.toNat) l
    rw [ih, ih (0 * 256 + c.toNat), List.length_cons, Nat.pow_succ, Nat.add_mul, Nat.zero_mul, Nat.zero_add, Nat.mul_assoc, Nat.mul_comm 256]
    omega
theorem valB_lt (l : List UInt8) : valB l < 256 ^ l.length := by
  induction l with
  | nil => simp [valB]
  | cons c l ih =>
    show valF (0 * 256 + c.toNat) l < _
    rw [valF_eq, List.length_cons, Nat.pow_succ]
    have h1 := c.toNat_lt
    have h2 : (0 * 256 + c.toNat) * 256 ^ l.length ≤ 255 * 256 ^ l.length := Nat.mul_le_mul_right _ (by omega)
    omega
theorem valB_snoc (l : List UInt8) (c : UInt8) : valB (l ++ [c]) = valB l * 256 + c.toNat := by unfold valB; rw [List.foldl_append]; rfl
theorem low (s : List UInt8) (hs : s.length ≤ 8) (w : World) : Fc Try.prog 42 #[.string (bs s)] w (fun v w' => v = .int .u64 (valB s : Nat) ∧ Sat (froz w) w' []) := by
  refine Fc.of Try.func42 rfl (by kernel_rfl) ?_
  have H := Sat.start w
  refine rLenStr rfl ?_
  refine LoopP.rule (α := Nat × Nat) (0, 0) (fun x_ => [(7, .int .i64 x_.1), (3, .int .u64 x_.2)]) (fun x_ w_ => (x_.1 ≤ s.length) ∧ (x_.2 = valB (s.take x_.1)) ∧ Sat (froz w) w_ ([])) (fun x_ => s.length - x_.1) ?_ ?_ ?_
  · repeat first | exact mt_nil | refine mt_cons rfl ?_ | refine mt_i rfl (by first | omega | (simp only; omega) | (simp; omega) | (simp; done)) ?_
  · try simp only
    refine ⟨?_, ?_⟩
    · omega
    refine ⟨?_, ?_⟩
    · rfl
    exact H
  clear H
  rintro ⟨i, n⟩ f_ w_ ⟨hi, hn, H⟩
  try simp only at hi hn H ⊢
  have hnb : i < s.length → n < 72057594037927936 := by
    intro h
    have h1 := valB_lt (s.take i)
    have h2 : 256 ^ (s.take i).length ≤ 256 ^ 7 := Nat.pow_le_pow_right (by decide) (by rw [List.length_take]; omega)
    rw [← hn] at h1
    omega
  refine cI (fun c1 => ?_) (fun c1 => ?_)
  · replace c1 := vLt_t (c1)
    refine bk ?_
    refine ShiftP.mk (by decide) ?_
    refine eqShlU64 8 256 rfl rfl (by decide) (by omega) (by omega) ?_
    obtain ⟨x1, hx1⟩ : ∃ x, (s)[(i)]? = some x := ⟨_, List.getElem?_eq_getElem (by omega)⟩
    have hb1 := byteLt hx1
    refine rIdxStrX rfl (i) hx1 rfl ?_
    refine rConvU64 (by omega) rfl rfl ?_
    refine eqOrAddU64 8 256 rfl (by omega) (by omega) (by omega) (by omega) ?_
    refine eqI64 (by omega) ?_
    refine Nxt.mk ((i + 1, n * 256 + x1.toNat)) (mt_i rfl (by first | omega | (simp only; omega) | (simp; omega)) (mt_i rfl (by first | omega | (simp only; omega) | (simp; omega)) (mt_nil))) ?_ ?_
    · refine ⟨?_, ?_⟩
      · omega
      refine ⟨?_, ?_⟩
      · (rw [take_snoc hx1, valB_snoc, ← hn])
      exact H
    omega
  replace c1 := vLt_f (c1)
  refine Done.mk ?_
  refine ⟨?_, ?_⟩
  · (rw [hn, List.take_of_length_le (by omega)]; done)
  exact H
def highL (n : Nat) : Nat → List UInt8
  | 0 => []
  | m + 1 => UInt8.ofNat (n / 256 ^ m) :: highL n m
theorem highL_len (n : Nat) (m : Nat) : (highL n m).length = m := by
  induction m with
  | zero => rfl
  | succ m ih => simp [highL, ih]
theorem p256 (m : Nat) : 2 ^ (8 * m) = 256 ^ m := by rw [Nat.pow_mul]
theorem high {g : Glob} {w : World} {l : List As} {v : Value} {xs : List UInt8} (H : Sat g w (Sl 5 1 enY v xs :: l)) (n m : Nat) (hn : n < 18446744073709551616) (hm : m ≤ 8) (hl : xs.length ≤ 1000) :
    Fc Try.prog 38 #[v, .int .u64 n, .int .i64 m] w (fun u w' => Sat g w' (Sl 5 1 enY u (xs ++ highL n m) :: l)) := by
  refine Fc.of Try.func38 rfl (by kernel_rfl) ?_
  refine eqI64 (by omega) ?_
  refine LoopP.rule (α := Nat × Value × List UInt8) (m, v, xs) (fun x_ => [(7, .int .i64 ((x_.1 : Int) - 1)), (0, x_.2.1)]) (fun x_ w_ => (x_.1 ≤ m) ∧ (x_.2.2 ++ highL n x_.1 = xs ++ highL n m) ∧ (x_.2.2.length + x_.1 = xs.length + m) ∧ Sat g w_ ((Sl 5 1 enY x_.2.1 x_.2.2 :: l))) (fun x_ => x_.1) ?_ ?_ ?_
  · repeat first | exact mt_nil | refine mt_cons rfl ?_ | refine mt_i rfl (by first | omega | (simp only; omega) | (simp; omega) | (simp; done)) ?_
  · try simp only
    refine ⟨?_, ?_⟩
    · omega
    refine ⟨?_, ?_⟩
    · (constructor <;> omega)
    refine ⟨?_, ?_⟩
    · (constructor <;> omega)
    exact H
  clear H
  rintro ⟨k, vo, ys⟩ f_ w_ ⟨hk, hy, hyl, H⟩
  try simp only at hk hy hyl H ⊢
  rcases k with _ | k
  · refine cF (vLe_F (by omega)) ?_
    refine Done.mk ?_
    refine H.cg (cgC (cgSl ?_) (rfl))
    (rw [show highL n 0 = [] from rfl, List.append_nil] at hy; exact hy)
  · refine cT (vLe_T (by omega)) ?_
    refine bk ?_
    refine eqI64 (by omega) ?_
    refine ShiftP.mk (by omega) ?_
    refine eqShrN ((n)) ((8 * ((k + 1) - 1))) (by omega) (by omega) (by show _ ≤ 64; omega) ?_
    refine rConvU8M rfl rfl ?_
    refine rBuildSliceS H rfl rfl rfl rfl ?_
    clear H
    intro p1 w1 H
    clear w_
    have hbk1 := byteIs (x := (↑(n / 2 ^ (8 * (k + 1 - 1))) : Int) % 256) (n := (n / 2 ^ (8 * (k + 1 - 1)))) (by omega)
    rw [hbk1] at H
    clear hbk1
    refine rApS (ys := [_]) 1 H 1 rfl (H.at 0 rfl) rfl (fun y _ => rfl) rfl rfl rfl (by omega) (by omega) ?_
    intro v1
    clear H
    intro w2 H
    clear w1
    refine eqI64 (by omega) ?_
    rw [Nat.add_sub_cancel, p256] at H
    refine Nxt.mk (k, v1, ys ++ [UInt8.ofNat (n / 256 ^ k)]) (mt_i rfl (by simp only; omega) (mt_cons rfl mt_nil)) ⟨by simp only; omega, ?_, ?_, ?_⟩ (by simp only; omega)
    · simp only [← hy, highL, List.append_assoc, List.cons_append, List.nil_append]
    · simp only [List.length_append, List.length_cons, List.length_nil]; omega
    · refine H.fronts [1] ?_
      clear H
      intro H
      refine H.drop 1 ?_
      clear H
      intro H
      exact H
theorem valB_highL (n : Nat) : ∀ m a, valF a (highL n m) = a * 256 ^ m + n % 256 ^ m := by
  intro m
  induction m with
  | zero => intro a; simp [valF, highL, Nat.mod_one]
  | succ m ih =>
    intro a
    show valF (a * 256 + (UInt8.ofNat (n / 256 ^ m)).toNat) (highL n m) = _
    have e : n % 256 ^ (m + 1) = n % 256 ^ m + 256 ^ m * (n / 256 ^ m % 256) := by rw [Nat.pow_succ, Nat.mod_mul]
    rw [ih, e, UInt8.toNat_ofNat', Nat.add_mul, Nat.mul_assoc, show (2 : Nat) ^ 8 = 256 from rfl, Nat.pow_succ, Nat.mul_comm 256 (256 ^ m), Nat.mul_comm (n / 256 ^ m % 256)]
    omega
theorem valB_high8 {n : Nat} (h : n < 18446744073709551616) : valB (highL n 8) = n := by
  show valF 0 (highL n 8) = n
  rw [valB_highL, Nat.zero_mul, Nat.zero_add, Nat.mod_eq_of_lt (by exact h)]
theorem highL_valF (l : List UInt8) : ∀ a, highL (valF a l) l.length = l := by
  induction l with
  | nil => intro a; rfl
  | cons c l ih =>
    intro a
    show UInt8.ofNat (valF (a * 256 + c.toNat) l / 256 ^ l.length) :: highL (valF (a * 256 + c.toNat) l) l.length = c :: l
    rw [ih, valF_eq, Nat.mul_comm, Nat.mul_add_div (Nat.pow_pos (by decide)), Nat.div_eq_of_lt (valB_lt l), Nat.add_zero]
    congr 1
    apply UInt8.toNat_inj.1
    rw [UInt8.toNat_ofNat']
    have := c.toNat_lt
    omega
theorem high_val8 {l : List UInt8} (h : l.length = 8) : highL (valB l) 8 = l := by
  have := highL_valF l 0
  rw [h] at this; exact this
end Go.Proofs.Ytepceieglhfnoaa.Frame
