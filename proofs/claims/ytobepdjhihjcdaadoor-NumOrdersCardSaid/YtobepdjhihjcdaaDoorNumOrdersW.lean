/- The walk of the law NumOrders. -/
import Derived.Test.YtobepdjhihjcdaaDoorNumOne
set_option maxRecDepth 100000
set_option linter.unusedVariables false
namespace Go.Proofs.YtobepdjhihjcdaaDoor.Num
open Go Go.Proofs.YtobepdjhihjcdaaDoor.Eng Go.RowKit
def fitted (wide : Bool) (x : Int) : Prop := if wide then -9223372036854775808 ≤ x ∧ x ≤ 9223372036854775807 else -2147483648 ≤ x ∧ x ≤ 2147483647
def uns (wide : Bool) (x : Int) : Int := if wide then vWrap .u64 x else vWrap .u32 x
theorem fitted_fit (wide : Bool) (x : Int) (hx : -9223372036854775808 ≤ x ∧ x ≤ 9223372036854775807) : fitted wide (fitS wide x) := by
  cases wide
  · have := vWrap_range .i32 x
    rw [show IntKind.min .i32 = -2147483648 from rfl, show IntKind.max .i32 = 2147483647 from rfl] at this
    show -2147483648 ≤ vWrap .i64 (vWrap .i32 x) ∧ vWrap .i64 (vWrap .i32 x) ≤ 2147483647
    rw [wi64 (by omega)]; exact this
  · exact hx
theorem fitted_rng {wide : Bool} {x : Int} (h : fitted wide x) : -9223372036854775808 ≤ x ∧ x ≤ 9223372036854775807 := by
  cases wide
  · have h : -2147483648 ≤ x ∧ x ≤ 2147483647 := h
    omega
  · exact h
theorem fitted_i32 {x : Int} (h : fitted false x) : vWrap .i32 x = x := wi32 h
theorem uns_inj {wide : Bool} {x y : Int} (hx : fitted wide x) (hy : fitted wide y) (h : uns wide x = uns wide y) : x = y := by
  cases wide
  · have hx : -2147483648 ≤ x ∧ x ≤ 2147483647 := hx
    have hy : -2147483648 ≤ y ∧ y ≤ 2147483647 := hy
    have h : vWrap .u32 x = vWrap .u32 y := h
    unfold vWrap at h; simp [IntKind.wrap, IntKind.bits, IntKind.signed] at h; omega
  · have hx : -9223372036854775808 ≤ x ∧ x ≤ 9223372036854775807 := hx
    have hy : -9223372036854775808 ≤ y ∧ y ≤ 9223372036854775807 := hy
    have h : vWrap .u64 x = vWrap .u64 y := h
    unfold vWrap at h; simp [IntKind.wrap, IntKind.bits, IntKind.signed] at h; omega
theorem cmpV (wide : Bool) (op x y : Int) (hop : 70 ≤ op ∧ op ≤ 79) (hx : fitted wide x) (hy : fitted wide y) : (twoS (widthS op wide) x y).1 = cmpS (op - 70) x y (uns wide x) (uns wide y) := by
  cases wide
  · rw [show widthS op false = op from rfl, twoS, if_pos (by omega), fitted_i32 hx, fitted_i32 hy]; rfl
  · rw [show widthS op true = if op < 80 then op + 11 else op + 18 from rfl, if_pos (by omega), twoS, if_neg (by omega), if_pos (by omega), show op + 11 - 81 = op - 70 by omega]; rfl
/-- What an order goes by. -/
def key (wide : Bool) (op x : Int) : Int := if op = 72 then x else uns wide x
section
variable {wide : Bool} {op : Int} (hop : op = 72 ∨ op = 73) (x y : Int)
include hop
theorem k0 : cmpS (op - 70) x y (uns wide x) (uns wide y) = b2i (decide (key wide op x < key wide op y)) := by rcases hop with rfl | rfl <;> rfl
theorem k2 : cmpS (op + 2 - 70) x y (uns wide x) (uns wide y) = b2i (decide (key wide op y < key wide op x)) := by rcases hop with rfl | rfl <;> rfl
theorem k4 : cmpS (op + 4 - 70) x y (uns wide x) (uns wide y) = b2i (decide (key wide op x ≤ key wide op y)) := by rcases hop with rfl | rfl <;> rfl
theorem k6 : cmpS (op + 6 - 70) x y (uns wide x) (uns wide y) = b2i (decide (key wide op y ≤ key wide op x)) := by rcases hop with rfl | rfl <;> rfl
theorem key_inj (hx : fitted wide x) (hy : fitted wide y) (h : key wide op x = key wide op y) : x = y := by
  rcases hop with rfl | rfl
  · exact h
  · exact uns_inj hx hy h
end
theorem okW (op : Int) (wide : Bool) (h : 70 ≤ op ∧ op ≤ 79) : okOp (widthS op wide) := by
  cases wide
  · exact .inl h
  · rw [show widthS op true = if op < 80 then op + 11 else op + 18 from rfl, if_pos (by omega)]; unfold okOp; omega
/-- Beside 'wide', the operation that 'less' holds. -/
structure EnvO (wide : Bool) (op : Int) (w0 : World) (b bo : Nat) (w : World) : Prop where
  env : Env wide w0 b w
  op_ : At w bo 0 [.int .u8 op]
theorem EnvO.still {wide : Bool} {op : Int} {w0 : World} {b bo : Nat} {w w' : World} (h : EnvO wide op w0 b bo w) (s : Still w w') : EnvO wide op w0 b bo w' := ⟨h.env.still s, At.still h.op_ s⟩
theorem less {wide : Bool} {op : Int} (hop : op = 72 ∨ op = 73) (x y : Int) (hx : fitted wide x) (hy : fitted wide y) {w0 : World} {b bo : Nat} {w : World} (E : EnvO wide op w0 b bo w) :
    Fc Tryd.prog 7 #[.int .i64 x, .int .i64 y, .pointer (some ⟨bo, 0, none⟩), .pointer (some ⟨b, 0, none⟩)] w (fun v w' => v = .bool (decide (key wide op x < key wide op y)) ∧ Still w w') := by
  refine Fc.of Tryd.func7 rfl (by kernel_rfl) ?_
  refine rLoad0 E.op_ rfl rfl ?_
  refine rLoad0 E.env.at_ rfl rfl ?_
  refine CallP.mk (Fc.imp (width op wide (by omega) _) ?_)
  rintro _ _ ⟨⟨r, rfl, hr⟩, rfl⟩
  refine CallP.mk (Fc.imp (two r x y (by rw [hr]; exact okW op wide (by omega)) (fitted_rng hx) (fitted_rng hy) _) ?_)
  rintro _ w1 ⟨⟨s, rfl, hs⟩, hst⟩
  exact Done.mk ⟨by rw [hs, hr, cmpV wide op x y (by omega) hx hy, k0 hop, vEq_iff]; congr 1; cases decide (key wide op x < key wide op y) <;> rfl, hst⟩
theorem b2i_ne (p q : Bool) (h : p = q) : vNe (b2i p) (b2i q) = false := by rw [vNe_iff, h]; simp
theorem b2i_eq (p q : Bool) (h : p = !q) : vEq (b2i p) (b2i q) = false := by rw [vEq_iff, h]; cases q <;> rfl
set_option maxHeartbeats 2000000 in
theorem numOrders (a0 b0 c0 : Int) (wide : Bool) (ha : -9223372036854775808 ≤ a0 ∧ a0 ≤ 9223372036854775807) (hb : -9223372036854775808 ≤ b0 ∧ b0 ≤ 9223372036854775807) (hc : -9223372036854775808 ≤ c0 ∧ c0 ≤ 9223372036854775807) (w : World) (T : Bm.Tabs w) :
    Fc Tryd.prog 3 #[.int .i64 a0, .int .i64 b0, .int .i64 c0, .bool wide] w (fun v w' => v = .bool true ∧ Below w.heap.size w w') := by
  refine Fc.of Tryd.func3 rfl (by kernel_rfl) ?_
  refine rBox ?_
  intro w1 n1
  refine rLoad0 n1.blk.at rfl rfl ?_
  refine rBuildSlice (z := .int .i64 0) (sz := 1) rfl rfl rfl (by decide) ?_
  intro w2 n2
  obtain ⟨a, ea⟩ : ∃ a, fitS wide a0 = a := ⟨_, rfl⟩
  obtain ⟨b, eb⟩ : ∃ b, fitS wide b0 = b := ⟨_, rfl⟩
  obtain ⟨c, ec⟩ : ∃ c, fitS wide c0 = c := ⟨_, rfl⟩
  have fa : fitted wide a := ea ▸ fitted_fit wide a0 ha
  have fb : fitted wide b := eb ▸ fitted_fit wide b0 hb
  have fc : fitted wide c := ec ▸ fitted_fit wide c0 hc
  refine CallP.mk (Fc.imp (fits wide w1.heap.size [a0, b0, c0] [a, b, c] 3 rfl (by simp only [List.map, ea, eb, ec]) (by decide) _ w2 n2.blk) ?_)
  rintro _ w3 ⟨rfl, b3, u3⟩
  have k1 : At w3 w.heap.size 0 [.bool wide] := (n1.blk.at.below n2.below (by rw [n1.size]; omega)).keep (u3.block _ (by rw [n1.size]; omega))
  have g3 : Below w.heap.size w w3 := u3.below (n1.below.trans (n2.below.mono (by rw [n1.size]; omega))) (by rw [n1.size]; omega)
  refine draw (fun wx => Blk wx w1.heap.size (List.map (Value.int .i64) [a, b, c]) 2) [(0, true), (1, true), (2, true), (3, true), (4, true), (5, true), (6, true), (7, true), (8, true), (9, true), (10, true), (11, true)] Bm.mixed (by kernel_rfl) (fun w4 h4 => ⟨by rw [h4]; exact b3, ?_⟩)
  refine tk (fun wx hS => rIdx 1 0 0 rfl (by decide) rfl rfl rfl ⟨rfl, rfl⟩) ?_
  refine tk (v := .int .i64 a) (fun wx hS => rLoadC (hS.at.cell (i := 0) rfl) rfl rfl ⟨rfl, rfl⟩) ?_
  refine tk (fun wx hS => rIdx 1 1 1 rfl (by decide) rfl rfl rfl ⟨rfl, rfl⟩) ?_
  refine tk (v := .int .i64 b) (fun wx hS => rLoadC (hS.at.cell (i := 1) rfl) rfl rfl ⟨rfl, rfl⟩) ?_
  refine tk (fun wx hS => rIdx 1 2 2 rfl (by decide) rfl rfl rfl ⟨rfl, rfl⟩) ?_
  refine tk (v := .int .i64 c) (fun wx hS => rLoadC (hS.at.cell (i := 2) rfl) rfl rfl ⟨rfl, rfl⟩) ?_
  have E : Env wide w w.heap.size w4 := (⟨g3, k1⟩ : Env wide w w.heap.size w3).still (by rw [h4]; exact Still.drew _)
  clear h4 g3 k1 b3 u3 n2 n1
  have hlt : w.heap.size < w4.heap.size := E.at_.lt
  refine rBuildSlice (z := .int .u8 0) (sz := 1) rfl rfl rfl (by decide) ?_
  intro w5 n5
  refine rLenSl rfl ?_
  refine LoopP.rule (α := Nat) 0 (fun i => [(31, .int .i64 i)]) (fun i w' => i ≤ 2 ∧ Env wide w w.heap.size w' ∧ Blk w' w4.heap.size [.int .u8 72, .int .u8 73] 5) (fun i => 2 - i) (mt_cons rfl mt_nil) ⟨by decide, ⟨E.below.trans (n5.below.mono (Nat.le_of_lt hlt)), E.at_.below n5.below hlt⟩, n5.blk⟩ ?_
  clear E n5
  rintro i f w6 ⟨hi, E, hO⟩
  dsimp only at *
  refine cI (fun h => ?_) (fun h => ?_)
  · have h := vLt_t h
    refine bk ?_
    obtain ⟨op, hop, hget⟩ : ∃ op : Int, (op = 72 ∨ op = 73) ∧ [Value.int .u8 72, .int .u8 73][i]? = some (.int .u8 op) := by
      have : i = 0 ∨ i = 1 := by omega
      rcases this with rfl | rfl
      · exact ⟨72, .inl rfl, rfl⟩
      · exact ⟨73, .inr rfl, rfl⟩
    refine rIdx 1 i i rfl (by omega) (by omega) rfl rfl ?_
    refine rLoadC (v := .int .u8 op) (by have := hO.at.cell hget; rwa [Nat.zero_add] at this) rfl rfl ?_
    have hl6 : w.heap.size < w6.heap.size := E.at_.lt
    refine rAlloc rfl ?_
    intro w7 n7
    refine rStoreL n7.blk (by decide) rfl rfl ?_
    intro w8 u8 b8
    have hO8 : Blk w8 w4.heap.size [.int .u8 72, .int .u8 73] 5 := (hO.below n7.below hO.lt).keep (u8.block _ (Nat.ne_of_lt hO.lt))
    have E : EnvO wide op w w.heap.size w6.heap.size w8 := ⟨⟨u8.below (E.below.trans (n7.below.mono (Nat.le_of_lt hl6))) (Nat.le_of_lt hl6), (E.at_.below n7.below hl6).keep (u8.block _ (Nat.ne_of_lt hl6))⟩, b8.at⟩
    have hne : a ≠ b → key wide op a ≠ key wide op b := fun hne e => hne (key_inj hop a b fa fb e)
    have tri : key wide op a < key wide op b ∨ a = b ∨ key wide op b < key wide op a := by
      by_cases e : a = b
      · exact .inr (.inl e)
      · have := hne e
        omega
    clear n7 u8 b8 hO hne
    have hnab : ∀ {x y : Int}, key wide op x < key wide op y → x ≠ y := fun {x y} h e => by
      rw [e] at h; omega
    rcases tri with h1 | h1 | h1 <;> by_cases h2 : key wide op b < key wide op c
    all_goals
      first
        | (subst h1)
        | (have hab := hnab h1)
      repeat first
        | refine br_t (by first | (simp [vNe_iff]; done) | (simp [vNe_iff]; omega)) ?_
        | refine br_f (by first | (simp [vNe_iff]; done) | (simp [vNe_iff]; omega)) ?_
        | (refine CallP.mk (Fc.imp (less hop _ _ (by assumption) (by assumption) E) ?_); rintro _ w8 ⟨rfl, st⟩; replace E := E.still st; replace hO8 := hO8.keep (by rw [st.heap]); clear st)
      refine cF (by first | rfl | (simp; omega)) ?_
      refine draws (fun wx => EnvO wide op w w.heap.size w6.heap.size wx ∧ Blk wx w4.heap.size [.int .u8 72, .int .u8 73] 5) [(0, true), (1, true), (2, true), (4, true), (5, true), (7, true), (8, true), (10, true), (11, true), (3, false), (6, false), (9, false), (12, false), (13, true), (14, true), (15, true), (16, true), (17, true), (19, true), (20, true), (22, true), (23, true), (24, true), (26, true), (27, true), (18, false), (21, false), (25, false), (28, false), (29, true), (30, true), (31, true), (32, true), (33, true), (34, true), (36, true), (37, true), (39, true), (40, true), (42, true), (43, true), (35, false), (38, false), (41, false), (44, false), (45, true), (46, true)] Bm.mixed (by kernel_rfl) (fun w9 h9 => ⟨⟨E.still (by rw [h9]; exact Still.drew _), hO8.keep (by rw [h9]; rfl)⟩, ?_⟩)
      replace E := E.still (by rw [h9]; exact Still.drew _ : Still _ w9)
      replace hO8 := hO8.keep (w' := w9) (by rw [h9]; rfl)
      clear h9
      refine tk (fun wx hS => rLoad0 hS.1.op_ rfl rfl ⟨rfl, rfl⟩) ?_
      refine tk (fun wx hS => rLoad0 hS.1.env.at_ rfl rfl ⟨rfl, rfl⟩) ?_
      refine tk (fun wx hS => rLoad0 hS.1.op_ rfl rfl ⟨rfl, rfl⟩) ?_
      refine tk (fun wx hS => rLoad0 hS.1.env.at_ rfl rfl ⟨rfl, rfl⟩) ?_
      refine CallP.mk (Fc.imp (Fc.arg (width (op + 2) wide (by omega) _) (by rw [wu8 (by omega)])) ?_)
      rintro _ _ ⟨⟨r1, rfl, hr1⟩, rfl⟩
      refine KeepP.mk (⟨E, hO8⟩) ?_
      refine CallP.mk (Fc.imp (two r1 _ _ (by rw [hr1]; exact okW (op + 2) wide (by omega)) (fitted_rng (by assumption)) (fitted_rng (by assumption)) _) ?_)
      rintro _ w8 ⟨⟨s1, rfl, hs1⟩, st⟩
      replace E := E.still st
      replace hO8 := hO8.keep (by rw [st.heap])
      clear st
      refine KeepP.mk (⟨E, hO8⟩) ?_
      rw [hr1, cmpV wide (op + 2) _ _ (by omega) (by assumption) (by assumption), k2 hop] at hs1
      refine CallP.mk (Fc.imp (width op wide (by omega) _) ?_)
      rintro _ _ ⟨⟨r2, rfl, hr2⟩, rfl⟩
      refine KeepP.mk (⟨E, hO8⟩) ?_
      refine CallP.mk (Fc.imp (two r2 _ _ (by rw [hr2]; exact okW op wide (by omega)) (fitted_rng (by assumption)) (fitted_rng (by assumption)) _) ?_)
      rintro _ w8 ⟨⟨s2, rfl, hs2⟩, st⟩
      replace E := E.still st
      replace hO8 := hO8.keep (by rw [st.heap])
      clear st
      refine KeepP.mk (⟨E, hO8⟩) ?_
      rw [hr2, cmpV wide op _ _ (by omega) (by assumption) (by assumption), k0 hop] at hs2
      refine br_f (by rw [hs1, hs2]; exact b2i_ne _ _ rfl) ?_
      refine tk (fun wx hS => rLoad0 hS.1.op_ rfl rfl ⟨rfl, rfl⟩) ?_
      refine tk (fun wx hS => rLoad0 hS.1.env.at_ rfl rfl ⟨rfl, rfl⟩) ?_
      refine tk (fun wx hS => rLoad0 hS.1.op_ rfl rfl ⟨rfl, rfl⟩) ?_
      refine tk (fun wx hS => rLoad0 hS.1.env.at_ rfl rfl ⟨rfl, rfl⟩) ?_
      refine CallP.mk (Fc.imp (Fc.arg (width (op + 4) wide (by omega) _) (by rw [wu8 (by omega)])) ?_)
      rintro _ _ ⟨⟨r3, rfl, hr3⟩, rfl⟩
      refine KeepP.mk (⟨E, hO8⟩) ?_
      refine CallP.mk (Fc.imp (two r3 _ _ (by rw [hr3]; exact okW (op + 4) wide (by omega)) (fitted_rng (by assumption)) (fitted_rng (by assumption)) _) ?_)
      rintro _ w8 ⟨⟨s3, rfl, hs3⟩, st⟩
      replace E := E.still st
      replace hO8 := hO8.keep (by rw [st.heap])
      clear st
      refine KeepP.mk (⟨E, hO8⟩) ?_
      rw [hr3, cmpV wide (op + 4) _ _ (by omega) (by assumption) (by assumption), k4 hop] at hs3
      refine CallP.mk (Fc.imp (Fc.arg (width (op + 2) wide (by omega) _) (by rw [wu8 (by omega)])) ?_)
      rintro _ _ ⟨⟨r4, rfl, hr4⟩, rfl⟩
      refine KeepP.mk (⟨E, hO8⟩) ?_
      refine CallP.mk (Fc.imp (two r4 _ _ (by rw [hr4]; exact okW (op + 2) wide (by omega)) (fitted_rng (by assumption)) (fitted_rng (by assumption)) _) ?_)
      rintro _ w8 ⟨⟨s4, rfl, hs4⟩, st⟩
      replace E := E.still st
      replace hO8 := hO8.keep (by rw [st.heap])
      clear st
      refine KeepP.mk (⟨E, hO8⟩) ?_
      rw [hr4, cmpV wide (op + 2) _ _ (by omega) (by assumption) (by assumption), k2 hop] at hs4
      refine br_f (by rw [hs3, hs4]; exact b2i_eq _ _ (by rw [Bool.eq_iff_iff]; simp)) ?_
      refine tk (fun wx hS => rLoad0 hS.1.op_ rfl rfl ⟨rfl, rfl⟩) ?_
      refine tk (fun wx hS => rLoad0 hS.1.env.at_ rfl rfl ⟨rfl, rfl⟩) ?_
      refine tk (fun wx hS => rLoad0 hS.1.op_ rfl rfl ⟨rfl, rfl⟩) ?_
      refine tk (fun wx hS => rLoad0 hS.1.env.at_ rfl rfl ⟨rfl, rfl⟩) ?_
      refine CallP.mk (Fc.imp (Fc.arg (width (op + 6) wide (by omega) _) (by rw [wu8 (by omega)])) ?_)
      rintro _ _ ⟨⟨r5, rfl, hr5⟩, rfl⟩
      refine KeepP.mk (⟨E, hO8⟩) ?_
      refine CallP.mk (Fc.imp (two r5 _ _ (by rw [hr5]; exact okW (op + 6) wide (by omega)) (fitted_rng (by assumption)) (fitted_rng (by assumption)) _) ?_)
      rintro _ w8 ⟨⟨s5, rfl, hs5⟩, st⟩
      replace E := E.still st
      replace hO8 := hO8.keep (by rw [st.heap])
      clear st
      refine KeepP.mk (⟨E, hO8⟩) ?_
      rw [hr5, cmpV wide (op + 6) _ _ (by omega) (by assumption) (by assumption), k6 hop] at hs5
      refine CallP.mk (Fc.imp (width op wide (by omega) _) ?_)
      rintro _ _ ⟨⟨r6, rfl, hr6⟩, rfl⟩
      refine KeepP.mk (⟨E, hO8⟩) ?_
      refine CallP.mk (Fc.imp (two r6 _ _ (by rw [hr6]; exact okW op wide (by omega)) (fitted_rng (by assumption)) (fitted_rng (by assumption)) _) ?_)
      rintro _ w8 ⟨⟨s6, rfl, hs6⟩, st⟩
      replace E := E.still st
      replace hO8 := hO8.keep (by rw [st.heap])
      clear st
      refine KeepP.mk (⟨E, hO8⟩) ?_
      rw [hr6, cmpV wide op _ _ (by omega) (by assumption) (by assumption), k0 hop] at hs6
      refine cF (by rw [hs5, hs6]; exact b2i_eq _ _ (by rw [Bool.eq_iff_iff]; simp)) ?_
      exact Nxt.mk (i + 1) (mt_i rfl (by rw [wi64 (by omega)]; omega) mt_nil) ⟨by omega, E.env, hO8⟩ (by omega)
  have h := vLt_f h
  clear hi h hO
  refine rLoad0 E.at_ rfl rfl ?_
  refine CallP.mk (Fc.imp (width 70 wide (by decide) _) ?_)
  rintro _ _ ⟨⟨r1, rfl, hr1⟩, rfl⟩
  refine CallP.mk (Fc.imp (two r1 a b (by rw [hr1]; exact okW 70 wide (by decide)) (fitted_rng fa) (fitted_rng fb) _) ?_)
  rintro _ w7 ⟨⟨s1, rfl, hs1⟩, st⟩
  replace E := E.still st
  clear st
  rw [hr1, cmpV wide 70 _ _ (by decide) fa fb, show (70 : Int) - 70 = 0 from rfl, show cmpS 0 a b (uns wide a) (uns wide b) = b2i (decide (a = b)) from rfl] at hs1
  refine draws (fun wx => Env wide w w.heap.size wx) [(0, true), (1, true), (2, true), (3, true), (4, true), (5, true), (6, true), (7, true), (9, true), (10, true), (12, true), (13, true), (8, false), (11, false), (14, true), (15, true), (16, true), (17, true), (19, true), (21, true), (23, true), (18, false), (20, false), (22, false), (24, false), (25, true), (26, true), (27, true)] Bm.mixed (by kernel_rfl) (fun w9 h9 => ⟨E.still (by rw [h9]; exact Still.drew _), ?_⟩)
  replace E := E.still (by rw [h9]; exact Still.drew _ : Still _ w9)
  clear h9
  refine tk (fun wx hS => rBoolEq rfl ⟨rfl, rfl⟩) ?_
  refine br_t (by rw [hs1, vEq_iff, vEq_iff]; cases h : decide (a = b) <;> simp [h, b2i]) ?_
  refine tk (fun wx hS => rLoad0 hS.at_ rfl rfl ⟨rfl, rfl⟩) ?_
  refine CallP.mk (Fc.imp (width 71 wide (by decide) _) ?_)
  rintro _ _ ⟨⟨r2, rfl, hr2⟩, rfl⟩
  refine KeepP.mk (E) ?_
  refine CallP.mk (Fc.imp (two r2 a b (by rw [hr2]; exact okW 71 wide (by decide)) (fitted_rng fa) (fitted_rng fb) _) ?_)
  rintro _ w8 ⟨⟨s2, rfl, hs2⟩, st⟩
  replace E := E.still st
  clear st
  refine KeepP.mk (E) ?_
  rw [hr2, cmpV wide 71 _ _ (by decide) fa fb, show (71 : Int) - 70 = 1 from rfl, show cmpS 1 a b (uns wide a) (uns wide b) = b2i (!decide (a = b)) from rfl] at hs2
  refine br_t (by rw [hs1, hs2, vEq_iff]; cases h : decide (a = b) <;> simp [b2i] <;> exact (wi64 (by decide)).symm) ?_
  refine tk (fun wx hS => rLoad0 hS.at_ rfl rfl ⟨rfl, rfl⟩) ?_
  refine tk (fun wx hS => rLoad0 hS.at_ rfl rfl ⟨rfl, rfl⟩) ?_
  refine CallP.mk (Fc.imp (width 69 wide (by decide) _) ?_)
  rintro _ _ ⟨⟨r3, rfl, hr3⟩, rfl⟩
  refine KeepP.mk (E) ?_
  refine CallP.mk (Fc.imp (one r3 a _ (T.below E.below (Nat.le_refl _))) ?_)
  rintro _ w8 ⟨⟨s3, rfl, hs3⟩, st⟩
  replace E := E.still st
  clear st
  refine KeepP.mk (E) ?_
  refine CallP.mk (Fc.imp (width 70 wide (by decide) _) ?_)
  rintro _ _ ⟨⟨r4, rfl, hr4⟩, rfl⟩
  refine KeepP.mk (E) ?_
  refine CallP.mk (Fc.imp (two r4 a 0 (by rw [hr4]; exact okW 70 wide (by decide)) (fitted_rng fa) (by decide) _) ?_)
  rintro _ w8 ⟨⟨s4, rfl, hs4⟩, st⟩
  replace E := E.still st
  clear st
  refine KeepP.mk (E) ?_
  have f0 : fitted wide 0 := by cases wide <;> (unfold fitted; simp)
  rw [hr4, cmpV wide 70 _ _ (by decide) fa f0, show (70 : Int) - 70 = 0 from rfl, show cmpS 0 a 0 (uns wide a) (uns wide 0) = b2i (decide (a = 0)) from rfl] at hs4
  have hs3' : s3 = b2i (decide (a = 0)) := by
    rw [hs3, hr3]
    cases wide
    · rw [show widthS 69 false = 69 from rfl, oneS, if_pos rfl, fitted_i32 fa]
    · rw [show widthS 69 true = 80 from rfl, oneS, if_neg (by decide), if_pos rfl]
  exact Done.mk ⟨congrArg Value.bool (by rw [hs3', hs4, vEq_iff]; simp), E.below⟩
end Go.Proofs.YtobepdjhihjcdaaDoor.Num
