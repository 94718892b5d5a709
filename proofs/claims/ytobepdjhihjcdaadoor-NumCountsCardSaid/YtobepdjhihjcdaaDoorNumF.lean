/- What the laws of package num share: fits. -/
import Derived.Test.YtobepdjhihjcdaaDoorNumW
import Derived.Test.YtobepdjhihjcdaaDoorNumB
import Derived.Test.YtobepdjhihjcdaaDoorRow
import Derived.Test.YtobepdjhihjcdaaDoorPlan
set_option maxRecDepth 100000
set_option linter.unusedVariables false
namespace Go.Proofs.YtobepdjhihjcdaaDoor.Num
open Go Go.Proofs.YtobepdjhihjcdaaDoor.Eng Go.RowKit
theorem At.still {w w' : World} {b o : Nat} {vs : List Value} (h : At w b o vs) (s : Still w w') : At w' b o vs := h.keep (by rw [s.heap])
theorem set_self {α : Type} {l : List α} {i : Nat} {x : α} (h : l[i]? = some x) : l.set i x = l := by
  apply List.ext_getElem?
  intro j
  rw [List.getElem?_set]
  split
  · rename_i e; subst e
    split
    · exact h.symm
    · rename_i hh; rw [List.getElem?_eq_none (by omega)]
  · rfl
theorem fits (wide : Bool) (b : Nat) (xs ys : List Int) (n : Nat) (hn : xs.length = n) (hys : ys = xs.map (fitS wide)) (hl : n ≤ 1000) (e : TypeId) (w : World) (hB : Blk w b (xs.map (Value.int .i64)) e) :
    Fc Tryd.prog 6 #[.bool wide, .slice (some ⟨b, 0, none⟩) n n] w
    (fun v w' => v = .slice (some ⟨b, 0, none⟩) n n ∧ Blk w' b (ys.map (Value.int .i64)) e ∧ Upd w w' b) := by
  refine Fc.of Tryd.func6 rfl (by kernel_rfl) ?_
  refine rLenSl rfl ?_
  refine LoopP.rule (α := Nat) 0 (fun i => [(8, .int .i64 i)]) (fun i w' => i ≤ n ∧ Blk w' b ((ys.take i ++ xs.drop i).map (Value.int .i64)) e ∧ Upd w w' b) (fun i => n - i)
    (mt_cons rfl mt_nil) ⟨Nat.zero_le _, by simpa using hB, Upd.refl _ _⟩ ?_
  rintro i f w1 ⟨hi, hb, hu⟩
  dsimp only at *
  refine cI (fun h => ?_) (fun h => ?_)
  · have h := vLt_t h
    have hlt : i < xs.length := by omega
    have hly : ys.length = n := by rw [hys, List.length_map, hn]
    refine bk ?_
    have hxi : (ys.take i ++ xs.drop i)[i]? = some xs[i] := by
      rw [List.getElem?_append_right (by rw [List.length_take]; omega), List.length_take, List.getElem?_drop, show i + (i - min i ys.length) = i by omega, List.getElem?_eq_getElem hlt]
    have hstep : ∀ v : Int, v = fitS wide xs[i] → (ys.take i ++ xs.drop i).set i v = ys.take (i + 1) ++ xs.drop (i + 1) := by
      intro v hv
      apply List.ext_getElem?
      intro j
      rw [List.getElem?_set]
      have e1 : ys[i]? = some (fitS wide xs[i]) := by rw [hys, List.getElem?_map, List.getElem?_eq_getElem hlt]; rfl
      by_cases hj : i = j
      · subst hj
        rw [if_pos rfl, if_pos (by rw [List.length_append, List.length_take, List.length_drop]; omega), List.getElem?_append_left (by rw [List.length_take]; omega), List.getElem?_take, if_pos (by omega), e1, hv]
      · rw [if_neg hj]
        by_cases hj2 : j < i
        · rw [List.getElem?_append_left (by rw [List.length_take]; omega), List.getElem?_append_left (by rw [List.length_take]; omega), List.getElem?_take, List.getElem?_take, if_pos hj2, if_pos (by omega)]
        · rw [List.getElem?_append_right (by rw [List.length_take]; omega), List.getElem?_append_right (by rw [List.length_take]; omega), List.getElem?_drop, List.getElem?_drop, List.length_take, List.length_take]
          congr 1; omega
    refine cI (fun hw => ?_) (fun hw => ?_)
    · have hw : wide = false := by simpa using hw
      refine rIdx 1 i i rfl (by omega) (by omega) rfl rfl ?_
      refine rLoadC (v := .int .i64 xs[i]) ?_ rfl rfl ?_
      · have := hb.at.cell (i := i) (v := .int .i64 xs[i]) (by rw [List.getElem?_map, hxi]; rfl)
        rwa [Nat.zero_add] at this
      refine rConvInt rfl rfl ?_
      refine rConvInt rfl rfl ?_
      refine rIdx 1 i i rfl (by omega) (by omega) rfl rfl ?_
      refine rStoreL hb (by rw [List.length_map, List.length_append, List.length_take, List.length_drop]; omega) rfl rfl ?_
      intro w2 hu2 hb2
      refine Nxt.mk (i + 1) (mt_i rfl (by rw [wi64 (by omega)]; omega) mt_nil) ⟨by omega, ?_, hu.trans hu2⟩ (by omega)
      rw [← List.map_set, hstep _ (by rw [fitS, hw]; rfl)] at hb2
      exact hb2
    · have hw : wide = true := by simpa using hw
      refine Nxt.mk (i + 1) (mt_i rfl (by rw [wi64 (by omega)]; omega) mt_nil) ⟨by omega, ?_, hu⟩ (by omega)
      have := hstep xs[i] (by rw [fitS, hw]; rfl)
      rw [← this, set_self hxi]
      exact hb
  · have h := vLt_f h
    have hin : i = n := by omega
    refine Done.mk ⟨rfl, ?_, hu⟩
    rw [hin, List.take_of_length_le (by rw [hys, List.length_map, hn]; omega), List.drop_of_length_le (by omega), List.append_nil] at hb
    exact hb
theorem rngI32 (X : BitVec 32) : -9223372036854775808 ≤ X.toInt ∧ X.toInt ≤ 9223372036854775807 := by have := rng32 X; omega
theorem rngI64 (X : BitVec 64) : -9223372036854775808 ≤ X.toInt ∧ X.toInt ≤ 9223372036854775807 := rng64 X
theorem fit32 (x : Int) : ∃ X : BitVec 32, fitS false x = X.toInt := by
  refine ⟨BitVec.ofInt 32 x, ?_⟩
  have h : vWrap .i32 x = (BitVec.ofInt 32 x).toInt := by
    rw [← i32_nat, ofInt_toNat]
    unfold vWrap; simp [IntKind.wrap, IntKind.bits, IntKind.signed]
  rw [fitS, h]; exact i64_int32 _
theorem fit64 (x : Int) (hx : -9223372036854775808 ≤ x ∧ x ≤ 9223372036854775807) : ∃ X : BitVec 64, fitS true x = X.toInt := by
  refine ⟨BitVec.ofInt 64 x, ?_⟩
  have h : vWrap .i64 x = (BitVec.ofInt 64 x).toInt := by
    rw [← i64_nat, ofInt_toNat]
    unfold vWrap; simp [IntKind.wrap, IntKind.bits, IntKind.signed]
  rw [← h, wi64 hx]; rfl
theorem fl32p : fitS false 1 = (1#32).toInt := by kernel_rfl
theorem fl32m : fitS false (-1) = (-1#32).toInt := by kernel_rfl
theorem fl64p : fitS true 1 = (1#64).toInt := by kernel_rfl
theorem fl64m : fitS true (-1) = (-1#64).toInt := by kernel_rfl
/-- What stands while a law runs: the old memory, and the variable 'wide' that the closures hold. -/
structure Env (wide : Bool) (w0 : World) (b : Nat) (w : World) : Prop where
  below : Below w0.heap.size w0 w
  at_ : At w b 0 [.bool wide]
theorem Env.still {wide : Bool} {w0 : World} {b : Nat} {w w' : World} (h : Env wide w0 b w) (s : Still w w') : Env wide w0 b w' := ⟨h.below.trans (s.below _), At.still h.at_ s⟩
end Go.Proofs.YtobepdjhihjcdaaDoor.Num
