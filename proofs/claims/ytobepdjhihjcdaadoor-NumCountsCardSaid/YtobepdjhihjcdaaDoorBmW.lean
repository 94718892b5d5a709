/- The walks of math/bits. -/
import Derived.Test.YtobepdjhihjcdaaDoorBm
import Derived.Test.YtobepdjhihjcdaaDoorDraw
import Derived.Test.YtobepdjhihjcdaaDoorRows
set_option maxRecDepth 100000
set_option linter.unusedVariables false
namespace Go.Proofs.YtobepdjhihjcdaaDoor.Bm
open Go Go.Proofs.YtobepdjhihjcdaaDoor.Eng Go.RowKit
theorem mixed : (Tryd.prog).follows .mixedOrders = true := by kernel_rfl
/-- The two tables lie where they lie. -/
structure Tabs (w : World) : Prop where
  t32 : At w 0 0 (tabV tab32)
  t64 : At w 1 0 (tabV tab64)
theorem Tabs.keep {w w' : World} (h : Tabs w) (h1 : w'.heap[0]? = w.heap[0]?) (h2 : w'.heap[1]? = w.heap[1]?) : Tabs w' := ⟨h.t32.keep h1, h.t64.keep h2⟩
theorem Tabs.still {w w' : World} (h : Tabs w) (s : Still w w') : Tabs w' := h.keep (by rw [s.heap]) (by rw [s.heap])
theorem Tabs.below {w w' : World} {B : Nat} (h : Tabs w) (s : Below B w w') (hB : w.heap.size ≤ B) : Tabs w' := ⟨h.t32.below s (Nat.lt_of_lt_of_le h.t32.lt hB), h.t64.below s (Nat.lt_of_lt_of_le h.t64.lt hB)⟩
theorem rIdxArr {P : Program} {w : World} {K : Value → World → Prop} {t e : TypeId} {b o n : Nat} {ki : IntKind} {i : Int} (sz j p : Nat) (hj : i = j) (hl : j < n) (hp : o + j * sz = p) (ht : P.underlying t = some (.array n e)) (hs : (P.info? e).map (fun i => i.size) = some sz)
    (k : K (.pointer (some ⟨b, p, none⟩)) w) : RunP P (Instr.indexAt t (.pointer (some ⟨b, o, none⟩)) (.int ki i)) w K := by
  subst hj; subst hp
  refine ⟨_, w, ?_, k⟩
  cases hi' : P.info? e with
  | none => simp [hi'] at hs
  | some i' =>
    simp only [hi', Option.map_some, Option.some.injEq] at hs
    simp [Instr.indexAt, Instr.sureAddr, asIntOf, run_underlying ht, sizeOf, typeInfo, hi', hs, Addr.add_lit, hl]
theorem Len32 (n : Nat) (hn : n < 2 ^ 32) (w : World) : Fc Tryd.prog 29 #[.int .u32 n] w (fun v w' => (∃ r, v = .int .i64 r ∧ r = (blen n : Int)) ∧ w = w') := by
  refine Fc.of Tryd.func29 rfl (by kernel_rfl) ?_
  refine cond_join (α := Nat × Nat) (fun x => [(0, .int .u32 x.1), (2, .int .i64 x.2)]) (fun x w' => w = w' ∧ x.1 < 2 ^ 16 ∧ x.2 + blen x.1 = blen n ∧ x.2 ≤ 16) (fun h => ?_) (fun h => ?_) ?_
  · have h := vLe_t h
    refine ShiftP.mk (by decide) ?_
    refine Jn.mk (n / 2 ^ 16, 16) (mt_i rfl (nShr .u32 n 16 (by decide)) (mt_cons rfl mt_nil)) ⟨rfl, ?_, ?_, by dsimp only; omega⟩
    · show n / 2 ^ 16 < 2 ^ 16
      omega
    · have := blen_shift (n := n) (k := 16) (by omega)
      show 16 + blen (n / 2 ^ 16) = blen n
      omega
  · have h := vLe_f h
    exact Jn.mk (n, 0) (mt_cons rfl (mt_cons rfl mt_nil)) ⟨rfl, by show n < 2 ^ 16; omega, by show 0 + blen n = blen n; omega, by show 0 ≤ 16; omega⟩
  rintro ⟨x, k⟩ f w1 ⟨rfl, hx, hk, hk2⟩
  dsimp only at *
  refine cond_join (α := Nat × Nat) (fun x => [(0, .int .u32 x.1), (2, .int .i64 x.2)]) (fun x w' => w = w' ∧ x.1 < 256 ∧ x.2 + blen x.1 = blen n ∧ x.2 ≤ 24) (fun h => ?_) (fun h => ?_) ?_
  · have h := vLe_t h
    refine ShiftP.mk (by decide) ?_
    refine Jn.mk (x / 2 ^ 8, k + 8) (mt_i rfl (nShr .u32 x 8 (by decide)) (mt_i rfl (by rw [wi64 (by omega)]; rfl) mt_nil)) ⟨rfl, ?_, ?_, by show k + 8 ≤ 24; omega⟩
    · show x / 2 ^ 8 < 256
      omega
    · have := blen_shift (n := x) (k := 8) (by omega)
      show k + 8 + blen (x / 2 ^ 8) = blen n
      omega
  · have h := vLe_f h
    exact Jn.mk (x, k) (mt_cons rfl (mt_cons rfl mt_nil)) ⟨rfl, by show x < 256; omega, hk, by show k ≤ 24; omega⟩
  clear hx hk hk2
  rintro ⟨x, k⟩ f w1 ⟨rfl, hx, hk, hk2⟩
  dsimp only at *
  refine rConvIntE ((x : Int)) (by exact wu8 (by omega)) rfl rfl ?_
  have hb := blen_le (n := x) (k := 8) (by omega)
  have hj : x < len8.length := by rw [len8_n]; exact hx
  refine rIdxStr (s := len8) rfl x rfl hj ?_
  refine rConvInt rfl rfl ?_
  exact Done.mk ⟨⟨_, rfl, by rw [len8_at x hj, wi64 (n := (blen x : Int)) (by omega), wi64 (by omega)]; omega⟩, rfl⟩
theorem Len64 (n : Nat) (hn : n < 2 ^ 64) (w : World) : Fc Tryd.prog 30 #[.int .u64 n] w (fun v w' => (∃ r, v = .int .i64 r ∧ r = (blen n : Int)) ∧ w = w') := by
  refine Fc.of Tryd.func30 rfl (by kernel_rfl) ?_
  refine cond_join (α := Nat × Nat) (fun x => [(0, .int .u64 x.1), (2, .int .i64 x.2)]) (fun x w' => w = w' ∧ x.1 < 2 ^ 32 ∧ x.2 + blen x.1 = blen n ∧ x.2 ≤ 32) (fun h => ?_) (fun h => ?_) ?_
  · have h := vLe_t h
    refine ShiftP.mk (by decide) ?_
    refine Jn.mk (n / 2 ^ 32, 32) (mt_i rfl (nShr .u64 n 32 (by decide)) (mt_cons rfl mt_nil)) ⟨rfl, ?_, ?_, by dsimp only; omega⟩
    · show n / 2 ^ 32 < 2 ^ 32
      omega
    · have := blen_shift (n := n) (k := 32) (by omega)
      show 32 + blen (n / 2 ^ 32) = blen n
      omega
  · have h := vLe_f h
    exact Jn.mk (n, 0) (mt_cons rfl (mt_cons rfl mt_nil)) ⟨rfl, by show n < 2 ^ 32; omega, by show 0 + blen n = blen n; omega, by show 0 ≤ 32; omega⟩
  rintro ⟨x, k⟩ f w1 ⟨rfl, hx, hk, hk2⟩
  dsimp only at *
  refine cond_join (α := Nat × Nat) (fun x => [(0, .int .u64 x.1), (2, .int .i64 x.2)]) (fun x w' => w = w' ∧ x.1 < 2 ^ 16 ∧ x.2 + blen x.1 = blen n ∧ x.2 ≤ 48) (fun h => ?_) (fun h => ?_) ?_
  · have h := vLe_t h
    refine ShiftP.mk (by decide) ?_
    refine Jn.mk (x / 2 ^ 16, k + 16) (mt_i rfl (nShr .u64 x 16 (by decide)) (mt_i rfl (by rw [wi64 (by omega)]; rfl) mt_nil)) ⟨rfl, ?_, ?_, by show k + 16 ≤ 48; omega⟩
    · show x / 2 ^ 16 < 2 ^ 16
      omega
    · have := blen_shift (n := x) (k := 16) (by omega)
      show k + 16 + blen (x / 2 ^ 16) = blen n
      omega
  · have h := vLe_f h
    exact Jn.mk (x, k) (mt_cons rfl (mt_cons rfl mt_nil)) ⟨rfl, by show x < 2 ^ 16; omega, hk, by show k ≤ 48; omega⟩
  clear hx hk hk2
  rintro ⟨x, k⟩ f w1 ⟨rfl, hx, hk, hk2⟩
  dsimp only at *
  refine cond_join (α := Nat × Nat) (fun x => [(0, .int .u64 x.1), (2, .int .i64 x.2)]) (fun x w' => w = w' ∧ x.1 < 256 ∧ x.2 + blen x.1 = blen n ∧ x.2 ≤ 56) (fun h => ?_) (fun h => ?_) ?_
  · have h := vLe_t h
    refine ShiftP.mk (by decide) ?_
    refine Jn.mk (x / 2 ^ 8, k + 8) (mt_i rfl (nShr .u64 x 8 (by decide)) (mt_i rfl (by rw [wi64 (by omega)]; rfl) mt_nil)) ⟨rfl, ?_, ?_, by show k + 8 ≤ 56; omega⟩
    · show x / 2 ^ 8 < 256
      omega
    · have := blen_shift (n := x) (k := 8) (by omega)
      show k + 8 + blen (x / 2 ^ 8) = blen n
      omega
  · have h := vLe_f h
    exact Jn.mk (x, k) (mt_cons rfl (mt_cons rfl mt_nil)) ⟨rfl, by show x < 256; omega, hk, by show k ≤ 56; omega⟩
  clear hx hk hk2
  rintro ⟨x, k⟩ f w1 ⟨rfl, hx, hk, hk2⟩
  dsimp only at *
  refine rConvIntE ((x : Int)) (by exact wu8 (by omega)) rfl rfl ?_
  have hb := blen_le (n := x) (k := 8) (by omega)
  have hj : x < len8.length := by rw [len8_n]; exact hx
  refine rIdxStr (s := len8) rfl x rfl hj ?_
  refine rConvInt rfl rfl ?_
  exact Done.mk ⟨⟨_, rfl, by rw [len8_at x hj, wi64 (n := (blen x : Int)) (by omega), wi64 (by omega)]; omega⟩, rfl⟩
theorem LeadingZeros32 (n : Nat) (hn : n < 2 ^ 32) (w : World) : Fc Tryd.prog 23 #[.int .u32 n] w (fun v w' => (∃ r, v = .int .i64 r ∧ r = 32 - (blen n : Int)) ∧ w = w') := by
  refine Fc.of Tryd.func23 rfl (by kernel_rfl) ?_
  have hb := blen_le hn
  refine CallP.mk (Fc.imp (Len32 n hn _) ?_)
  rintro _ _ ⟨⟨r, rfl, hr⟩, rfl⟩
  exact Done.mk ⟨⟨_, rfl, by rw [hr, wi64 (by omega)]⟩, rfl⟩
theorem LeadingZeros64 (n : Nat) (hn : n < 2 ^ 64) (w : World) : Fc Tryd.prog 26 #[.int .u64 n] w (fun v w' => (∃ r, v = .int .i64 r ∧ r = 64 - (blen n : Int)) ∧ w = w') := by
  refine Fc.of Tryd.func26 rfl (by kernel_rfl) ?_
  have hb := blen_le hn
  refine CallP.mk (Fc.imp (Len64 n hn _) ?_)
  rintro _ _ ⟨⟨r, rfl, hr⟩, rfl⟩
  exact Done.mk ⟨⟨_, rfl, by rw [hr, wi64 (by omega)]⟩, rfl⟩
theorem neg32 (n : Nat) (h0 : n ≠ 0) (hn : n < 2 ^ 32) : vWrap .u32 (0 - (n : Int)) = ((2 ^ 32 - n : Nat) : Int) := by
  unfold vWrap; simp [IntKind.wrap, IntKind.bits, IntKind.signed]; omega
theorem neg64 (n : Nat) (h0 : n ≠ 0) (hn : n < 2 ^ 64) : vWrap .u64 (0 - (n : Int)) = ((2 ^ 64 - n : Nat) : Int) := by
  unfold vWrap; simp [IntKind.wrap, IntKind.bits, IntKind.signed]; omega
theorem wn32 (n : Nat) : vWrap .u32 (n : Int) = ((n % 2 ^ 32 : Nat) : Int) := by
  unfold vWrap; simp [IntKind.wrap, IntKind.bits, IntKind.signed]
theorem wn64 (n : Nat) : vWrap .u64 (n : Int) = ((n % 2 ^ 64 : Nat) : Int) := by
  unfold vWrap; simp [IntKind.wrap, IntKind.bits, IntKind.signed]
theorem TrailingZeros32 (n : Nat) (hn : n < 2 ^ 32) (w : World) (T : Tabs w) : Fc Tryd.prog 24 #[.int .u32 n] w (fun v w' => (∃ r, v = .int .i64 r ∧ r = (ctz 32 n : Int)) ∧ w = w') := by
  refine Fc.of Tryd.func24 rfl (by kernel_rfl) ?_
  refine cI (fun h => ?_) (fun h => ?_)
  · have h := vEq_t h
    have : n = 0 := by omega
    exact Done.mk ⟨⟨_, rfl, by rw [this]; rfl⟩, rfl⟩
  have h := vEq_f h
  have h0 : n ≠ 0 := by omega
  have hz := ctz_lt h0 hn
  refine ShiftP.mk (by decide) ?_
  have hp : (2 : Nat) ^ ctz 32 n < 2 ^ 32 := Nat.pow_lt_pow_right (by decide) hz
  refine rIdxArr 1 (2 ^ ctz 32 n * 125613361 % 2 ^ 32 / 2 ^ 27) (2 ^ ctz 32 n * 125613361 % 2 ^ 32 / 2 ^ 27) ?_ (by omega) (by omega) rfl rfl ?_
  · rw [neg32 n h0 hn, nAnd .u32 rfl _ _ (by show (n : Int) ≤ 4294967295; omega) (by show ((2 ^ 32 - n : Nat) : Int) ≤ 4294967295; omega), low_one 32 n h0 hn]
    rw [show (((2 ^ ctz 32 n : Nat) : Int) * 125613361) = ((2 ^ ctz 32 n * 125613361 : Nat) : Int) by rw [Int.natCast_mul]; rfl, wn32]
    exact nShr .u32 _ 27 (by decide)
  refine rLoadC (v := .int .u8 (ctz 32 n : Int)) (by have := T.t32.cell (i := 2 ^ ctz 32 n * 125613361 % 2 ^ 32 / 2 ^ 27) (v := .int .u8 (ctz 32 n : Int)) (by rw [tabV, List.getElem?_map, tab32_at _ hz]; rfl); rwa [Nat.zero_add] at this) rfl rfl ?_
  refine rConvInt rfl rfl ?_
  exact Done.mk ⟨⟨_, rfl, wi64 (by omega)⟩, rfl⟩
theorem TrailingZeros64 (n : Nat) (hn : n < 2 ^ 64) (w : World) (T : Tabs w) : Fc Tryd.prog 27 #[.int .u64 n] w (fun v w' => (∃ r, v = .int .i64 r ∧ r = (ctz 64 n : Int)) ∧ w = w') := by
  refine Fc.of Tryd.func27 rfl (by kernel_rfl) ?_
  refine cI (fun h => ?_) (fun h => ?_)
  · have h := vEq_t h
    have : n = 0 := by omega
    exact Done.mk ⟨⟨_, rfl, by rw [this]; rfl⟩, rfl⟩
  have h := vEq_f h
  have h0 : n ≠ 0 := by omega
  have hz := ctz_lt h0 hn
  refine ShiftP.mk (by decide) ?_
  have hp : (2 : Nat) ^ ctz 64 n < 2 ^ 64 := Nat.pow_lt_pow_right (by decide) hz
  refine rIdxArr 1 (2 ^ ctz 64 n * 285870213051353865 % 2 ^ 64 / 2 ^ 58) (2 ^ ctz 64 n * 285870213051353865 % 2 ^ 64 / 2 ^ 58) ?_ (by omega) (by omega) rfl rfl ?_
  · rw [neg64 n h0 hn, nAnd .u64 rfl _ _ (by show (n : Int) ≤ 18446744073709551615; omega) (by show ((2 ^ 64 - n : Nat) : Int) ≤ 18446744073709551615; omega), low_one 64 n h0 hn]
    rw [show (((2 ^ ctz 64 n : Nat) : Int) * 285870213051353865) = ((2 ^ ctz 64 n * 285870213051353865 : Nat) : Int) by rw [Int.natCast_mul]; rfl, wn64]
    exact nShr .u64 _ 58 (by decide)
  refine rLoadC (v := .int .u8 (ctz 64 n : Int)) (by have := T.t64.cell (i := 2 ^ ctz 64 n * 285870213051353865 % 2 ^ 64 / 2 ^ 58) (v := .int .u8 (ctz 64 n : Int)) (by rw [tabV, List.getElem?_map, tab64_at _ hz]; rfl); rwa [Nat.zero_add] at this) rfl rfl ?_
  refine rConvInt rfl rfl ?_
  exact Done.mk ⟨⟨_, rfl, wi64 (by omega)⟩, rfl⟩
theorem OnesCount64 (n : Nat) (hn : n < 2 ^ 64) (w : World) : Fc Tryd.prog 28 #[.int .u64 n] w (fun v w' => (∃ r, v = .int .i64 r ∧ r = (popF 64 n : Int)) ∧ w = w') := by
  refine Fc.of Tryd.func28 rfl (by kernel_rfl) ?_
  have m1 : ((6148914691236517205 : Int)) = ((rep 85 8 : Nat) : Int) := rfl
  have m2 : ((3689348814741910323 : Int)) = ((rep 51 8 : Nat) : Int) := rfl
  have m3 : ((1085102592571150095 : Int)) = ((rep 15 8 : Nat) : Int) := rfl
  have l1 : ∀ a b : Nat, a < 2 ^ 64 → b < 2 ^ 64 → vAnd .u64 (a : Int) (b : Int) = ((a &&& b : Nat) : Int) := fun a b ha hb => nAnd .u64 rfl a b (by show (a : Int) ≤ 18446744073709551615; omega) (by show (b : Int) ≤ 18446744073709551615; omega)
  have q1 := swar1 8 n
  have q2 := swar2 8 (mapD f1 8 n)
  have q3 := swar3 8 n
  rw [mapD_comp] at q2
  have a1 : n / 2 &&& rep 85 8 ≤ rep 85 8 := Nat.and_le_right
  have a2 : n &&& rep 85 8 ≤ rep 85 8 := Nat.and_le_right
  have a3 : mapD f1 8 n / 4 &&& rep 51 8 ≤ rep 51 8 := Nat.and_le_right
  have a4 : mapD f1 8 n &&& rep 51 8 ≤ rep 51 8 := Nat.and_le_right
  have r1 : rep 85 8 = 6148914691236517205 := rfl
  have r2 : rep 51 8 = 3689348814741910323 := rfl
  have r3 : rep 15 8 = 1085102592571150095 := rfl
  obtain ⟨e1, e2, e3, e4, e5⟩ := swar_sum n hn _ _ _ _ rfl rfl rfl rfl
  obtain ⟨x1, hx1⟩ : ∃ x, x = mapD f1 8 n := ⟨_, rfl⟩
  obtain ⟨x2, hx2⟩ : ∃ x, x = mapD (fun b => f2 (f1 b)) 8 n := ⟨_, rfl⟩
  obtain ⟨x3, hx3⟩ : ∃ x, x = mapD (popF 8) 8 n := ⟨_, rfl⟩
  rw [← hx1] at q1 q2 a3 a4
  rw [← hx2] at q2 q3
  rw [← hx3] at q3 e1 e2 e3 e4 e5
  have s1 : vWrap .u64 (vAnd .u64 (vShr .u64 n 1) 6148914691236517205 + vAnd .u64 n 6148914691236517205) = (x1 : Int) := by
    have h1 : vShr .u64 (n : Int) 1 = ((n / 2 : Nat) : Int) := nShr .u64 n 1 (by decide)
    rw [h1, m1, l1 _ _ (by omega) (by omega), l1 _ _ (by omega) (by omega), wu64 (by omega)]; omega
  have s2 : vWrap .u64 (vAnd .u64 (vShr .u64 x1 2) 3689348814741910323 + vAnd .u64 x1 3689348814741910323) = (x2 : Int) := by
    have h1 : vShr .u64 (x1 : Int) 2 = ((x1 / 4 : Nat) : Int) := nShr .u64 x1 2 (by decide)
    rw [h1, m2, l1 _ _ (by omega) (by omega), l1 _ _ (by omega) (by omega), wu64 (by omega)]; omega
  have s3 : vAnd .u64 (vWrap .u64 (vShr .u64 x2 4 + x2)) 1085102592571150095 = (x3 : Int) := by
    have h1 : vShr .u64 (x2 : Int) 4 = ((x2 / 16 : Nat) : Int) := nShr .u64 x2 4 (by decide)
    rw [h1, wu64 (by omega), m3, show ((x2 / 16 : Nat) : Int) + (x2 : Int) = ((x2 / 16 + x2 : Nat) : Int) by omega, l1 _ _ (by omega) (by omega), q3]
  obtain ⟨x4, hx4⟩ : ∃ x, x = x3 + x3 / 2 ^ 8 := ⟨_, rfl⟩
  rw [← hx4] at e1 e3 e4 e5
  obtain ⟨x5, hx5⟩ : ∃ x, x = x4 + x4 / 2 ^ 16 := ⟨_, rfl⟩
  rw [← hx5] at e1 e4 e5
  obtain ⟨x6, hx6⟩ : ∃ x, x = x5 + x5 / 2 ^ 32 := ⟨_, rfl⟩
  rw [← hx6] at e1 e5
  have s4 : vWrap .u64 (x3 + vShr .u64 x3 8) = (x4 : Int) := by
    have h1 : vShr .u64 (x3 : Int) 8 = ((x3 / 2 ^ 8 : Nat) : Int) := nShr .u64 x3 8 (by decide)
    rw [h1, wu64 (by omega)]; omega
  have s5 : vWrap .u64 (x4 + vShr .u64 x4 16) = (x5 : Int) := by
    have h1 : vShr .u64 (x4 : Int) 16 = ((x4 / 2 ^ 16 : Nat) : Int) := nShr .u64 x4 16 (by decide)
    rw [h1, wu64 (by omega)]; omega
  have s6 : vWrap .u64 (x5 + vShr .u64 x5 32) = (x6 : Int) := by
    have h1 : vShr .u64 (x5 : Int) 32 = ((x5 / 2 ^ 32 : Nat) : Int) := nShr .u64 x5 32 (by decide)
    rw [h1, wu64 (by omega)]; omega
  refine ShiftP.mk (by decide) ?_
  refine ShiftP.mk (by decide) ?_
  refine ShiftP.mk (by decide) ?_
  refine ShiftP.mk (by decide) ?_
  refine ShiftP.mk (by decide) ?_
  refine ShiftP.mk (by decide) ?_
  refine rConvIntE ((x6 : Int)) (by rw [s1, s2, s3, s4, s5, s6]; exact wi64 (by omega)) rfl rfl ?_
  exact Done.mk ⟨⟨_, rfl, by rw [vAnd127]; omega⟩, rfl⟩
theorem pop32 (n : Nat) (hn : n < 2 ^ 32) : popF 32 n = popF 8 (n / 2 ^ 24) + popF 8 (n / 2 ^ 16 % 256) + popF 8 (n / 2 ^ 8 % 256) + popF 8 (n % 256) := by
  have st : ∀ f y, 8 ≤ f → popF f y = popF 8 (y % 256) + popF (f - 8) (y / 256) := fun f y hf => by
    have := popF_add 8 f (y % 256) (y / 256) (by omega) hf
    rw [show y % 256 + 2 ^ 8 * (y / 256) = y by omega] at this
    exact this
  have e1 : popF 32 n = popF 8 (n % 256) + popF 24 (n / 256) := st 32 n (by decide)
  have e2 : popF 24 (n / 256) = popF 8 (n / 256 % 256) + popF 16 (n / 256 / 256) := st 24 _ (by decide)
  have e3 : popF 16 (n / 256 / 256) = popF 8 (n / 256 / 256 % 256) + popF 8 (n / 256 / 256 / 256) := st 16 _ (by decide)
  rw [e1, e2, e3, show n / 256 / 256 / 256 = n / 2 ^ 24 by omega, show n / 256 / 256 % 256 = n / 2 ^ 16 % 256 by omega, show n / 256 % 256 = n / 2 ^ 8 % 256 by omega]
  omega
theorem OnesCount32 (n : Nat) (hn : n < 2 ^ 32) (w : World) : Fc Tryd.prog 25 #[.int .u32 n] w (fun v w' => (∃ r, v = .int .i64 r ∧ r = (popF 32 n : Int)) ∧ Still w w') := by
  refine Fc.of Tryd.func25 rfl (by kernel_rfl) ?_
  have l1 : ∀ a : Nat, a < 2 ^ 32 → vAnd .u32 (a : Int) 255 = ((a % 256 : Nat) : Int) := fun a ha => by
    have := vAnd_mask .u32 (a : Int) 8 (by decide)
    rw [show ((2 : Int) ^ 8 - 1) = 255 from rfl] at this
    rw [this]; omega
  have h24 : vShr .u32 (n : Int) 24 = ((n / 2 ^ 24 : Nat) : Int) := nShr .u32 n 24 (by decide)
  have h16 : vShr .u32 (n : Int) 16 = ((n / 2 ^ 16 : Nat) : Int) := nShr .u32 n 16 (by decide)
  have h8 : vShr .u32 (n : Int) 8 = ((n / 2 ^ 8 : Nat) : Int) := nShr .u32 n 8 (by decide)
  have b3 := popF_le 8 (n / 2 ^ 24)
  have b2 := popF_le 8 (n / 2 ^ 16 % 256)
  have b1 := popF_le 8 (n / 2 ^ 8 % 256)
  have b0 := popF_le 8 (n % 256)
  refine draw (fun _ => True) [(0, true), (1, true), (2, true), (3, true), (4, true), (5, true), (6, true), (7, true), (8, true), (9, true), (10, true), (11, true), (12, true), (13, true), (14, true), (15, true), (16, true), (17, true), (18, true)] mixed (by kernel_rfl) (fun w1 hw1 => ⟨trivial, ?_⟩)
  refine ShiftP.mk (by decide) ?_
  refine tk (fun wx hS => rIdxStr (s := pop8) rfl (n / 2 ^ 24) h24 (by rw [pop8_n]; omega) ⟨rfl, rfl⟩) ?_
  refine ShiftP.mk (by decide) ?_
  refine tk (fun wx hS => rIdxStr (s := pop8) rfl (n / 2 ^ 16 % 256) (by rw [h16, l1 _ (by omega)]) (by rw [pop8_n]; omega) ⟨rfl, rfl⟩) ?_
  refine ShiftP.mk (by decide) ?_
  refine tk (fun wx hS => rIdxStr (s := pop8) rfl (n / 2 ^ 8 % 256) (by rw [h8, l1 _ (by omega)]) (by rw [pop8_n]; omega) ⟨rfl, rfl⟩) ?_
  refine tk (fun wx hS => rIdxStr (s := pop8) rfl (n % 256) (l1 _ (by omega)) (by rw [pop8_n]; omega) ⟨rfl, rfl⟩) ?_
  refine tk (fun wx hS => rConvInt rfl rfl ⟨rfl, rfl⟩) ?_
  exact Done.mk ⟨⟨_, rfl, by rw [pop8_at, pop8_at, pop8_at, pop8_at, wu8 (n := (popF 8 (n / 2 ^ 24) : Int) + popF 8 (n / 2 ^ 16 % 256)) (by omega), wu8 (n := (popF 8 (n / 2 ^ 24) : Int) + popF 8 (n / 2 ^ 16 % 256) + popF 8 (n / 2 ^ 8 % 256)) (by omega), wu8 (by omega), wi64 (by omega), pop32 n hn]; omega⟩, by rw [hw1]; exact Still.drew _⟩
end Go.Proofs.YtobepdjhihjcdaaDoor.Bm
