/- What the laws of package num share: fits, and the closures. -/
import Derived.Test.YtobepdjhihjcdaaNumW
import Derived.Test.YtobepdjhihjcdaaNumB
import Derived.Test.YtobepdjhihjcdaaRow
import Derived.Test.YtobepdjhihjcdaaPlan
set_option maxRecDepth 100000
set_option linter.unusedVariables false
namespace Go.Proofs.Ytobepdjhihjcdaa.Num
open Go Go.Proofs.Ytobepdjhihjcdaa.Eng Go.RowKit
theorem At.still {w w' : World} {b o : Nat} {vs : List Value} (h : At w b o vs) (s : Still w w') : At w' b o vs := h.keep (by rw [s.heap])
theorem set_self {α : Type} {l : List α} {i : Nat} {x : α} (h : l[i]? = some x) : l.set i x = l := by
  apply List.ext_getElem?
  intro j
  rw [List.getElem?_set]
  split
  · rename_i e; subst e
    split
    · exact h.symm
    · rename_i hh; rw [List.getElem?_eq_none (by omega)]
  · rfl
theorem fits (wide : Bool) (b : Nat) (xs ys : List Int) (n : Nat) (hn : xs.length = n) (hys : ys = xs.map (fitS wide)) (hl : n ≤ 1000) (e : TypeId) (w : World) (hB : Blk w b (xs.map (Value.int .i64)) e) :
    Fc Try.prog 8 #[.bool wide, .slice (some ⟨b, 0, none⟩) n n] w
    (fun v w' => v = .slice (some ⟨b, 0, none⟩) n n ∧ Blk w' b (ys.map (Value.int .i64)) e ∧ Upd w w' b) := by
  refine Fc.of Try.func8 rfl (by kernel_rfl) ?_
  refine rLenSl rfl ?_
  refine LoopP.rule (α := Nat) 0 (fun i => [(8, .int .i64 i)]) (fun i w' => i ≤ n ∧ Blk w' b ((ys.take i ++ xs.drop i).map (Value.int .i64)) e ∧ Upd w w' b) (fun i => n - i)
    (mt_cons rfl mt_nil) ⟨Nat.zero_le _, by simpa using hB, Upd.refl _ _⟩ ?_
  rintro i f w1 ⟨hi, hb, hu⟩
  dsimp only at *
  refine cI (fun h => ?_) (fun h => ?_)
  · have h := vLt_t h
    have hlt : i < xs.length := by omega
    have hly : ys.length = n := by rw [hys, List.length_map, hn]
    refine bk ?_
    have hxi : (ys.take i ++ xs.drop i)[i]? = some xs[i] := by
      rw [List.getElem?_append_right (by rw [List.length_take]; omega), List.length_take, List.getElem?_drop, show i + (i - min i ys.length) = i by omega, List.getElem?_eq_getElem hlt]
    have hstep : ∀ v : Int, v = fitS wide xs[i] → (ys.take i ++ xs.drop i).set i v = ys.take (i + 1) ++ xs.drop (i + 1) := by
      intro v hv
      apply List.ext_getElem?
      intro j
      rw [List.getElem?_set]
      have e1 : ys[i]? = some (fitS wide xs[i]) := by rw [hys, List.getElem?_map, List.getElem?_eq_getElem hlt]; rfl
      by_cases hj : i = j
      · subst hj
        rw [if_pos rfl, if_pos (by rw [List.length_append, List.length_take, List.length_drop]; omega), List.getElem?_append_left (by rw [List.length_take]; omega), List.getElem?_take, if_pos (by omega), e1, hv]
      · rw [if_neg hj]
        by_cases hj2 : j < i
        · rw [List.getElem?_append_left (by rw [List.length_take]; omega), List.getElem?_append_left (by rw [List.length_take]; omega), List.getElem?_take, List.getElem?_take, if_pos hj2, if_pos (by omega)]
        · rw [List.getElem?_append_right (by rw [List.length_take]; omega), List.getElem?_append_right (by rw [List.length_take]; omega), List.getElem?_drop, List.getElem?_drop, List.length_take, List.length_take]
          congr 1; omega
    refine cI (fun hw => ?_) (fun hw => ?_)
    · have hw : wide = false := by simpa using hw
      refine rIdx 1 i i rfl (by omega) (by omega) rfl rfl ?_
      refine rLoadC (v := .int .i64 xs[i]) ?_ rfl rfl ?_
      · have := hb.at.cell (i := i) (v := .int .i64 xs[i]) (by rw [List.getElem?_map, hxi]; rfl)
        rwa [Nat.zero_add] at this
      refine rConvInt rfl rfl ?_
      refine rConvInt rfl rfl ?_
      refine rIdx 1 i i rfl (by omega) (by omega) rfl rfl ?_
      refine rStoreL hb (by rw [List.length_map, List.length_append, List.length_take, List.length_drop]; omega) rfl rfl ?_
      intro w2 hu2 hb2
      refine Nxt.mk (i + 1) (mt_i rfl (by rw [wi64 (by omega)]; omega) mt_nil) ⟨by omega, ?_, hu.trans hu2⟩ (by omega)
      rw [← List.map_set, hstep _ (by rw [fitS, hw]; rfl)] at hb2
      exact hb2
    · have hw : wide = true := by simpa using hw
      refine Nxt.mk (i + 1) (mt_i rfl (by rw [wi64 (by omega)]; omega) mt_nil) ⟨by omega, ?_, hu⟩ (by omega)
      have := hstep xs[i] (by rw [fitS, hw]; rfl)
      rw [← this, set_self hxi]
      exact hb
  · have h := vLt_f h
    have hin : i = n := by omega
    refine Done.mk ⟨rfl, ?_, hu⟩
    rw [hin, List.take_of_length_le (by rw [hys, List.length_map, hn]; omega), List.drop_of_length_le (by omega), List.append_nil] at hb
    exact hb
theorem rngI32 (X : BitVec 32) : -9223372036854775808 ≤ X.toInt ∧ X.toInt ≤ 9223372036854775807 := by have := rng32 X; omega
theorem rngI64 (X : BitVec 64) : -9223372036854775808 ≤ X.toInt ∧ X.toInt ≤ 9223372036854775807 := rng64 X
theorem fit32 (x : Int) : ∃ X : BitVec 32, fitS false x = X.toInt := by
  refine ⟨BitVec.ofInt 32 x, ?_⟩
  have h : vWrap .i32 x = (BitVec.ofInt 32 x).toInt := by
    rw [← i32_nat, ofInt_toNat]
    unfold vWrap; simp [IntKind.wrap, IntKind.bits, IntKind.signed]
  rw [fitS, h]; exact i64_int32 _
theorem fit64 (x : Int) (hx : -9223372036854775808 ≤ x ∧ x ≤ 9223372036854775807) : ∃ X : BitVec 64, fitS true x = X.toInt := by
  refine ⟨BitVec.ofInt 64 x, ?_⟩
  have h : vWrap .i64 x = (BitVec.ofInt 64 x).toInt := by
    rw [← i64_nat, ofInt_toNat]
    unfold vWrap; simp [IntKind.wrap, IntKind.bits, IntKind.signed]
  rw [← h, wi64 hx]; rfl
theorem fl32p : fitS false 1 = (1#32).toInt := by kernel_rfl
theorem fl32m : fitS false (-1) = (-1#32).toInt := by kernel_rfl
theorem fl64p : fitS true 1 = (1#64).toInt := by kernel_rfl
theorem fl64m : fitS true (-1) = (-1#64).toInt := by kernel_rfl
/-- What stands while a law runs: the old memory, and the variable 'wide' that the closures hold. -/
structure Env (wide : Bool) (w0 : World) (b : Nat) (w : World) : Prop where
  below : Below w0.heap.size w0 w
  at_ : At w b 0 [.bool wide]
theorem Env.still {wide : Bool} {w0 : World} {b : Nat} {w w' : World} (h : Env wide w0 b w) (s : Still w w') : Env wide w0 b w' := ⟨h.below.trans (s.below _), At.still h.at_ s⟩
theorem cadd (wide : Bool) (x y : Int) (hx : -9223372036854775808 ≤ x ∧ x ≤ 9223372036854775807) (hy : -9223372036854775808 ≤ y ∧ y ≤ 9223372036854775807) {w0 : World} {b : Nat} {w : World} (E : Env wide w0 b w) :
    Fc Try.prog 9 #[.int .i64 x, .int .i64 y, .pointer (some ⟨b, 0, none⟩)] w (fun v w' => v = .int .i64 (twoS (widthS 106 wide) x y).1 ∧ Env wide w0 b w') := by
  refine Fc.of Try.func9 rfl (by kernel_rfl) ?_
  refine rLoad0 E.at_ rfl rfl ?_
  refine CallP.mk (Fc.imp (width 106 wide (by decide) _) ?_)
  rintro _ _ ⟨⟨r, rfl, hr⟩, rfl⟩
  refine CallP.mk (Fc.imp (two r x y (by rw [hr]; cases wide <;> decide) hx hy _) ?_)
  rintro _ w1 ⟨⟨s, rfl, hs⟩, hst⟩
  exact Done.mk ⟨by rw [hs, hr], E.still hst⟩
theorem add32 (X Y : BitVec 32) {w0 : World} {b : Nat} {w : World} (E : Env false w0 b w) :
    Fc Try.prog 9 #[.int .i64 X.toInt, .int .i64 Y.toInt, .pointer (some ⟨b, 0, none⟩)] w (fun v w' => v = .int .i64 (X + Y).toInt ∧ Env false w0 b w') :=
  Fc.imp (cadd false _ _ (rngI32 X) (rngI32 Y) E) (fun v w' ⟨h1, h2⟩ => ⟨by rw [h1, show widthS 106 false = 106 + 0 from rfl, rk32 X Y (by omega) (a32_0 X Y)], h2⟩)
theorem add64 (X Y : BitVec 64) {w0 : World} {b : Nat} {w : World} (E : Env true w0 b w) :
    Fc Try.prog 9 #[.int .i64 X.toInt, .int .i64 Y.toInt, .pointer (some ⟨b, 0, none⟩)] w (fun v w' => v = .int .i64 (X + Y).toInt ∧ Env true w0 b w') :=
  Fc.imp (cadd true _ _ (rngI64 X) (rngI64 Y) E) (fun v w' ⟨h1, h2⟩ => ⟨by rw [h1, show widthS 106 true = 124 + 0 from rfl, rk64 X Y (by omega) (a64_0 X Y)], h2⟩)
theorem csub (wide : Bool) (x y : Int) (hx : -9223372036854775808 ≤ x ∧ x ≤ 9223372036854775807) (hy : -9223372036854775808 ≤ y ∧ y ≤ 9223372036854775807) {w0 : World} {b : Nat} {w : World} (E : Env wide w0 b w) :
    Fc Try.prog 12 #[.int .i64 x, .int .i64 y, .pointer (some ⟨b, 0, none⟩)] w (fun v w' => v = .int .i64 (twoS (widthS 107 wide) x y).1 ∧ Env wide w0 b w') := by
  refine Fc.of Try.func12 rfl (by kernel_rfl) ?_
  refine rLoad0 E.at_ rfl rfl ?_
  refine CallP.mk (Fc.imp (width 107 wide (by decide) _) ?_)
  rintro _ _ ⟨⟨r, rfl, hr⟩, rfl⟩
  refine CallP.mk (Fc.imp (two r x y (by rw [hr]; cases wide <;> decide) hx hy _) ?_)
  rintro _ w1 ⟨⟨s, rfl, hs⟩, hst⟩
  exact Done.mk ⟨by rw [hs, hr], E.still hst⟩
theorem sub32 (X Y : BitVec 32) {w0 : World} {b : Nat} {w : World} (E : Env false w0 b w) :
    Fc Try.prog 12 #[.int .i64 X.toInt, .int .i64 Y.toInt, .pointer (some ⟨b, 0, none⟩)] w (fun v w' => v = .int .i64 (X - Y).toInt ∧ Env false w0 b w') :=
  Fc.imp (csub false _ _ (rngI32 X) (rngI32 Y) E) (fun v w' ⟨h1, h2⟩ => ⟨by rw [h1, show widthS 107 false = 106 + 1 from rfl, rk32 X Y (by omega) (a32_1 X Y)], h2⟩)
theorem sub64 (X Y : BitVec 64) {w0 : World} {b : Nat} {w : World} (E : Env true w0 b w) :
    Fc Try.prog 12 #[.int .i64 X.toInt, .int .i64 Y.toInt, .pointer (some ⟨b, 0, none⟩)] w (fun v w' => v = .int .i64 (X - Y).toInt ∧ Env true w0 b w') :=
  Fc.imp (csub true _ _ (rngI64 X) (rngI64 Y) E) (fun v w' ⟨h1, h2⟩ => ⟨by rw [h1, show widthS 107 true = 124 + 1 from rfl, rk64 X Y (by omega) (a64_1 X Y)], h2⟩)
theorem cmul (wide : Bool) (x y : Int) (hx : -9223372036854775808 ≤ x ∧ x ≤ 9223372036854775807) (hy : -9223372036854775808 ≤ y ∧ y ≤ 9223372036854775807) {w0 : World} {b : Nat} {w : World} (E : Env wide w0 b w) :
    Fc Try.prog 13 #[.int .i64 x, .int .i64 y, .pointer (some ⟨b, 0, none⟩)] w (fun v w' => v = .int .i64 (twoS (widthS 108 wide) x y).1 ∧ Env wide w0 b w') := by
  refine Fc.of Try.func13 rfl (by kernel_rfl) ?_
  refine rLoad0 E.at_ rfl rfl ?_
  refine CallP.mk (Fc.imp (width 108 wide (by decide) _) ?_)
  rintro _ _ ⟨⟨r, rfl, hr⟩, rfl⟩
  refine CallP.mk (Fc.imp (two r x y (by rw [hr]; cases wide <;> decide) hx hy _) ?_)
  rintro _ w1 ⟨⟨s, rfl, hs⟩, hst⟩
  exact Done.mk ⟨by rw [hs, hr], E.still hst⟩
theorem mul32 (X Y : BitVec 32) {w0 : World} {b : Nat} {w : World} (E : Env false w0 b w) :
    Fc Try.prog 13 #[.int .i64 X.toInt, .int .i64 Y.toInt, .pointer (some ⟨b, 0, none⟩)] w (fun v w' => v = .int .i64 (X * Y).toInt ∧ Env false w0 b w') :=
  Fc.imp (cmul false _ _ (rngI32 X) (rngI32 Y) E) (fun v w' ⟨h1, h2⟩ => ⟨by rw [h1, show widthS 108 false = 106 + 2 from rfl, rk32 X Y (by omega) (a32_2 X Y)], h2⟩)
theorem mul64 (X Y : BitVec 64) {w0 : World} {b : Nat} {w : World} (E : Env true w0 b w) :
    Fc Try.prog 13 #[.int .i64 X.toInt, .int .i64 Y.toInt, .pointer (some ⟨b, 0, none⟩)] w (fun v w' => v = .int .i64 (X * Y).toInt ∧ Env true w0 b w') :=
  Fc.imp (cmul true _ _ (rngI64 X) (rngI64 Y) E) (fun v w' ⟨h1, h2⟩ => ⟨by rw [h1, show widthS 108 true = 124 + 2 from rfl, rk64 X Y (by omega) (a64_2 X Y)], h2⟩)
theorem cand (wide : Bool) (x y : Int) (hx : -9223372036854775808 ≤ x ∧ x ≤ 9223372036854775807) (hy : -9223372036854775808 ≤ y ∧ y ≤ 9223372036854775807) {w0 : World} {b : Nat} {w : World} (E : Env wide w0 b w) :
    Fc Try.prog 14 #[.int .i64 x, .int .i64 y, .pointer (some ⟨b, 0, none⟩)] w (fun v w' => v = .int .i64 (twoS (widthS 113 wide) x y).1 ∧ Env wide w0 b w') := by
  refine Fc.of Try.func14 rfl (by kernel_rfl) ?_
  refine rLoad0 E.at_ rfl rfl ?_
  refine CallP.mk (Fc.imp (width 113 wide (by decide) _) ?_)
  rintro _ _ ⟨⟨r, rfl, hr⟩, rfl⟩
  refine CallP.mk (Fc.imp (two r x y (by rw [hr]; cases wide <;> decide) hx hy _) ?_)
  rintro _ w1 ⟨⟨s, rfl, hs⟩, hst⟩
  exact Done.mk ⟨by rw [hs, hr], E.still hst⟩
theorem and32 (X Y : BitVec 32) {w0 : World} {b : Nat} {w : World} (E : Env false w0 b w) :
    Fc Try.prog 14 #[.int .i64 X.toInt, .int .i64 Y.toInt, .pointer (some ⟨b, 0, none⟩)] w (fun v w' => v = .int .i64 (X &&& Y).toInt ∧ Env false w0 b w') :=
  Fc.imp (cand false _ _ (rngI32 X) (rngI32 Y) E) (fun v w' ⟨h1, h2⟩ => ⟨by rw [h1, show widthS 113 false = 106 + 7 from rfl, rk32 X Y (by omega) (a32_7 X Y)], h2⟩)
theorem and64 (X Y : BitVec 64) {w0 : World} {b : Nat} {w : World} (E : Env true w0 b w) :
    Fc Try.prog 14 #[.int .i64 X.toInt, .int .i64 Y.toInt, .pointer (some ⟨b, 0, none⟩)] w (fun v w' => v = .int .i64 (X &&& Y).toInt ∧ Env true w0 b w') :=
  Fc.imp (cand true _ _ (rngI64 X) (rngI64 Y) E) (fun v w' ⟨h1, h2⟩ => ⟨by rw [h1, show widthS 113 true = 124 + 7 from rfl, rk64 X Y (by omega) (a64_7 X Y)], h2⟩)
theorem cor (wide : Bool) (x y : Int) (hx : -9223372036854775808 ≤ x ∧ x ≤ 9223372036854775807) (hy : -9223372036854775808 ≤ y ∧ y ≤ 9223372036854775807) {w0 : World} {b : Nat} {w : World} (E : Env wide w0 b w) :
    Fc Try.prog 15 #[.int .i64 x, .int .i64 y, .pointer (some ⟨b, 0, none⟩)] w (fun v w' => v = .int .i64 (twoS (widthS 114 wide) x y).1 ∧ Env wide w0 b w') := by
  refine Fc.of Try.func15 rfl (by kernel_rfl) ?_
  refine rLoad0 E.at_ rfl rfl ?_
  refine CallP.mk (Fc.imp (width 114 wide (by decide) _) ?_)
  rintro _ _ ⟨⟨r, rfl, hr⟩, rfl⟩
  refine CallP.mk (Fc.imp (two r x y (by rw [hr]; cases wide <;> decide) hx hy _) ?_)
  rintro _ w1 ⟨⟨s, rfl, hs⟩, hst⟩
  exact Done.mk ⟨by rw [hs, hr], E.still hst⟩
theorem or32 (X Y : BitVec 32) {w0 : World} {b : Nat} {w : World} (E : Env false w0 b w) :
    Fc Try.prog 15 #[.int .i64 X.toInt, .int .i64 Y.toInt, .pointer (some ⟨b, 0, none⟩)] w (fun v w' => v = .int .i64 (X ||| Y).toInt ∧ Env false w0 b w') :=
  Fc.imp (cor false _ _ (rngI32 X) (rngI32 Y) E) (fun v w' ⟨h1, h2⟩ => ⟨by rw [h1, show widthS 114 false = 106 + 8 from rfl, rk32 X Y (by omega) (a32_8 X Y)], h2⟩)
theorem or64 (X Y : BitVec 64) {w0 : World} {b : Nat} {w : World} (E : Env true w0 b w) :
    Fc Try.prog 15 #[.int .i64 X.toInt, .int .i64 Y.toInt, .pointer (some ⟨b, 0, none⟩)] w (fun v w' => v = .int .i64 (X ||| Y).toInt ∧ Env true w0 b w') :=
  Fc.imp (cor true _ _ (rngI64 X) (rngI64 Y) E) (fun v w' ⟨h1, h2⟩ => ⟨by rw [h1, show widthS 114 true = 124 + 8 from rfl, rk64 X Y (by omega) (a64_8 X Y)], h2⟩)
theorem cxor (wide : Bool) (x y : Int) (hx : -9223372036854775808 ≤ x ∧ x ≤ 9223372036854775807) (hy : -9223372036854775808 ≤ y ∧ y ≤ 9223372036854775807) {w0 : World} {b : Nat} {w : World} (E : Env wide w0 b w) :
    Fc Try.prog 16 #[.int .i64 x, .int .i64 y, .pointer (some ⟨b, 0, none⟩)] w (fun v w' => v = .int .i64 (twoS (widthS 115 wide) x y).1 ∧ Env wide w0 b w') := by
  refine Fc.of Try.func16 rfl (by kernel_rfl) ?_
  refine rLoad0 E.at_ rfl rfl ?_
  refine CallP.mk (Fc.imp (width 115 wide (by decide) _) ?_)
  rintro _ _ ⟨⟨r, rfl, hr⟩, rfl⟩
  refine CallP.mk (Fc.imp (two r x y (by rw [hr]; cases wide <;> decide) hx hy _) ?_)
  rintro _ w1 ⟨⟨s, rfl, hs⟩, hst⟩
  exact Done.mk ⟨by rw [hs, hr], E.still hst⟩
theorem xor32 (X Y : BitVec 32) {w0 : World} {b : Nat} {w : World} (E : Env false w0 b w) :
    Fc Try.prog 16 #[.int .i64 X.toInt, .int .i64 Y.toInt, .pointer (some ⟨b, 0, none⟩)] w (fun v w' => v = .int .i64 (X ^^^ Y).toInt ∧ Env false w0 b w') :=
  Fc.imp (cxor false _ _ (rngI32 X) (rngI32 Y) E) (fun v w' ⟨h1, h2⟩ => ⟨by rw [h1, show widthS 115 false = 106 + 9 from rfl, rk32 X Y (by omega) (a32_9 X Y)], h2⟩)
theorem xor64 (X Y : BitVec 64) {w0 : World} {b : Nat} {w : World} (E : Env true w0 b w) :
    Fc Try.prog 16 #[.int .i64 X.toInt, .int .i64 Y.toInt, .pointer (some ⟨b, 0, none⟩)] w (fun v w' => v = .int .i64 (X ^^^ Y).toInt ∧ Env true w0 b w') :=
  Fc.imp (cxor true _ _ (rngI64 X) (rngI64 Y) E) (fun v w' ⟨h1, h2⟩ => ⟨by rw [h1, show widthS 115 true = 124 + 9 from rfl, rk64 X Y (by omega) (a64_9 X Y)], h2⟩)
end Go.Proofs.Ytobepdjhihjcdaa.Num
