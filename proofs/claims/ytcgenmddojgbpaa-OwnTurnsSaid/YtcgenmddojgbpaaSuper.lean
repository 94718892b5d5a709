/- Package super: Past, Plan, New, Kids, Over. -/
import Derived.Test.YtcgenmddojgbpaaRefR
set_option maxRecDepth 100000
set_option maxHeartbeats 4000000
set_option linter.unusedVariables false
set_option linter.unusedSimpArgs false
namespace Go.Proofs.Ytcgenmddojgbpaa.Super
open Go Go.Proofs.Ytcgenmddojgbpaa.Eng Go.RowKit
def isT (n : Int) : Prop := 0 ≤ n ∧ n ≤ 1099511627776
theorem isTime (n : Int) (w : World) : Fc Try.prog 45 #[.int .i64 n] w (fun v w' => (∃ b, v = .bool b ∧ (b = true ↔ isT n)) ∧ w = w') := by
  refine Fc.of Try.func45 rfl (by kernel_rfl) ?_
  have H := Sat.start w
  refine br (fun c1 => ?_) (fun c1 => ?_)
  · replace c1 := vLe_t (c1)
    refine Done.mk ?_
    exact ⟨⟨_, rfl, by simp [isT, vLe_iff]; omega⟩, rfl⟩
  replace c1 := vLe_f (c1)
  refine Done.mk ?_
  exact ⟨⟨_, rfl, by simp [isT, vLe_iff]; omega⟩, rfl⟩
def isSt (n : Int) : Prop := 1 ≤ n ∧ n ≤ 3
theorem isStrategy (n : Int) (w : World) : Fc Try.prog 43 #[.int .i64 n] w (fun v w' => (∃ b, v = .bool b ∧ (b = true ↔ isSt n)) ∧ w = w') := by
  refine Fc.of Try.func43 rfl (by kernel_rfl) ?_
  have H := Sat.start w
  refine br (fun c1 => ?_) (fun c1 => ?_)
  · replace c1 := vLe_t (c1)
    refine Done.mk ?_
    exact ⟨⟨_, rfl, by simp [isSt, vLe_iff]; omega⟩, rfl⟩
  replace c1 := vLe_f (c1)
  refine Done.mk ?_
  exact ⟨⟨_, rfl, by simp [isSt, vLe_iff]; omega⟩, rfl⟩
open Ref
def okI (n : Int) : Prop := True
/-- What Past keeps. -/
def recent (past : List Int) (now window : Int) : List Int := past.filter (fun n => decide (now - window ≤ n)) ++ [now]
theorem take_succ' {α : Type} {xs : List α} {i : Nat} {x : α} (h : xs[i]? = some x) : xs.take (i + 1) = xs.take i ++ [x] := by
  rw [List.take_add_one, h]; rfl
theorem past (w : World) (v : Value) (xs : List Int) (now most window : Int) (hx : Rd enI okI 1 w v xs) (hl : xs.length ≤ 64) (hm : 0 ≤ most ∧ most ≤ 64) (hn : isT now) (hw : isT window) (ht : ∀ x ∈ xs, isT x) :
    Fc Try.prog 19 #[v, .int .i64 now, .int .i64 most, .int .i64 window] w (fun r w' => ∃ u b, r = .tuple #[u, .bool b, .int .i64 0] ∧ (b = true ↔ most < (recent xs now window).length) ∧ Sat (froz w) w' [Sl 3 1 enI u (recent xs now window)]) := by
  refine Fc.of Try.func19 rfl (by kernel_rfl) ?_
  have H := Sat.start w
  have hx := hx.fz
  have hnb := hn.1; have hnc := hn.2; have hwb := hw.1; have hwc := hw.2
  refine rLenF hx rfl ?_
  refine cF (vLt_F (by omega)) ?_
  refine br_f (vLt_F (by omega)) ?_
  refine br_f (vLt_F (by omega)) ?_
  refine CallP.mk (Fc.imp (Go.Proofs.Ytcgenmddojgbpaa.Super.isTime _ _) ?_)
  rintro _ _ ⟨⟨b1, ⟨rfl, h1⟩⟩, rfl⟩
  refine br_f (not_F (h1.2 (by assumption))) ?_
  refine CallP.mk (Fc.imp (Go.Proofs.Ytcgenmddojgbpaa.Super.isTime _ _) ?_)
  rintro _ _ ⟨⟨b2, ⟨rfl, h2⟩⟩, rfl⟩
  refine cF (not_F (h2.2 (by assumption))) ?_
  refine rLenF hx rfl ?_
  replace H := H.sl0 (en := enI) (s := 1) 3 (fun _ => rfl)
  refine LoopP.rule (α := Nat × Value) (0, .slice none 0 0) (fun x => [(35, .int .i64 x.1), (11, x.2)]) (fun x w' => x.1 ≤ xs.length ∧ Sat (froz w) w' [Sl 3 1 enI x.2 ((xs.take x.1).filter (fun n => decide (now - window ≤ n)))]) (fun x => xs.length - x.1) (mt_cons rfl (mt_cons rfl mt_nil)) ⟨Nat.zero_le _, H⟩ ?_
  clear H
  rintro ⟨i, vo⟩ f w1 ⟨hi, H⟩
  have hfl := List.length_filter_le (fun n => decide (now - window ≤ n)) (xs.take i)
  have htl : (xs.take i).length ≤ xs.length := List.length_take_le' ..
  simp only at hi H ⊢
  refine cI (fun c1 => ?_) (fun c1 => ?_)
  · replace c1 := vLt_t (c1)
    refine bk ?_
    obtain ⟨x1, hx1⟩ : ∃ x, (xs)[(i)]? = some x := ⟨_, List.getElem?_eq_getElem (by omega)⟩
    obtain ⟨b3, o1, E1, F1, hok1⟩ := FSl.elt hx hx1
    refine rIxE E1 rfl rfl rfl ?_
    refine rLd (H.fat F1) 0 rfl rfl rfl ?_
    refine CallP.mk (Fc.imp (Go.Proofs.Ytcgenmddojgbpaa.Super.isTime _ _) ?_)
    rintro _ _ ⟨⟨b4, ⟨rfl, h3⟩⟩, rfl⟩
    refine cF (not_F (h3.2 (by exact ht _ (List.mem_of_getElem? (by assumption))))) ?_
    refine eqI64 (by omega) ?_
    refine cI (fun c2 => ?_) (fun c2 => ?_)
    · replace c2 := vLe_t (c2)
      refine rBuildSliceS H rfl rfl rfl rfl ?_
      clear H
      intro p1 w2 H
      clear w1
      refine rApS (ys := [_]) 8 H 1 rfl (H.at 0 rfl) rfl (fun y _ => rfl) rfl rfl rfl (by omega) (by omega) ?_
      intro v1
      clear H
      intro w1 H
      clear w2
      refine eqI64 (by omega) ?_
      refine Nxt.mk ((i + 1, v1)) (mt_i rfl (by first | omega | (simp only; omega) | (simp; omega)) (mt_cons rfl (mt_nil))) ?_ ?_
      · refine ⟨?_, ?_⟩
        · omega
        refine H.fronts [1] ?_
        clear H
        intro H
        refine H.firsts 1 ?_
        clear H
        intro H
        refine H.cg (cgC (cgSl ?_) (rfl))
        (simp only [take_succ' hx1, List.filter_append]; rw [show List.filter (fun n => decide (now - window ≤ n)) [x1] = [x1] by simp; omega]; done)
      omega
    replace c2 := vLe_f (c2)
    refine eqI64 (by omega) ?_
    refine Nxt.mk ((i + 1, vo)) (mt_i rfl (by first | omega | (simp only; omega) | (simp; omega)) (mt_cons rfl (mt_nil))) ?_ ?_
    · refine ⟨?_, ?_⟩
      · omega
      refine H.cg (cgC (cgSl ?_) (rfl))
      (simp only [take_succ' hx1, List.filter_append]; rw [show List.filter (fun n => decide (now - window ≤ n)) [x1] = [] by simp; omega, List.append_nil]; done)
    omega
  replace c1 := vLt_f (c1)
  refine rBuildSliceS H rfl rfl rfl rfl ?_
  clear H
  intro p1 w2 H
  clear w1
  refine rApS (ys := [_]) 8 H 1 rfl (H.at 0 rfl) rfl (fun y _ => rfl) rfl rfl rfl (by omega) (by omega) ?_
  intro v1
  clear H
  intro w1 H
  clear w2
  refine rLenS H 1 rfl rfl ?_
  refine Done.mk ?_
  refine ⟨v1, vLt most (↑(List.filter (fun n => decide (now - window ≤ n)) (List.take i xs) ++ [now]).length : Int), ?_⟩
  refine ⟨?_, ?_⟩
  · rfl
  refine ⟨?_, ?_⟩
  · (rw [vLt_iff, decide_eq_true_iff, show i = xs.length by omega, List.take_length]; rfl)
  refine H.fronts [1] ?_
  clear H
  intro H
  refine H.firsts 1 ?_
  clear H
  intro H
  refine H.cg (cgC (cgSl ?_) (rfl))
  (rw [show i = xs.length by omega, List.take_length]; rfl)
/-- How far the turning round has come: i at each end. -/
def Rv {α : Type} (i : Nat) (xs ys : List α) : Prop := ys.length = xs.length ∧ ∀ k, ys[k]? = if k < i ∨ (xs.length - i ≤ k ∧ k < xs.length) then xs[xs.length - 1 - k]? else xs[k]?
theorem Rv.step {α : Type} {i : Nat} {xs ys : List α} (h : Rv i xs ys) (hi : 2 * i + 1 < xs.length) {x y : α} (hx : ys[i]? = some x) (hy : ys[xs.length - 1 - i]? = some y) : Rv (i + 1) xs ((ys.set i y).set (xs.length - 1 - i) x) := by
  obtain ⟨hl, hc⟩ := h
  refine ⟨by simp [hl], fun k => ?_⟩
  have hxi := hc i
  rw [if_neg (by omega), hx] at hxi
  have hyi := hc (xs.length - 1 - i)
  rw [if_neg (by omega), hy] at hyi
  rw [List.getElem?_set, List.length_set]
  by_cases h1 : xs.length - 1 - i = k
  · subst h1
    rw [if_pos rfl, if_pos (by omega), if_pos (by omega), hxi]; congr 1; omega
  · rw [if_neg h1, List.getElem?_set]
    by_cases h2 : i = k
    · subst h2
      rw [if_pos rfl, if_pos (by omega), if_pos (by omega), hyi]
    · rw [if_neg h2, hc k]
      by_cases h3 : k < i ∨ (xs.length - i ≤ k ∧ k < xs.length)
      · rw [if_pos h3, if_pos (by omega)]
      · rw [if_neg h3, if_neg (by omega)]
theorem Rv.fin {α : Type} {i : Nat} {xs ys : List α} (h : Rv i xs ys) (hi : xs.length ≤ 2 * i + 1) (hi2 : 2 * i ≤ xs.length) : ys = xs.reverse := by
  obtain ⟨hl, hc⟩ := h
  apply List.ext_getElem?
  intro k
  by_cases hk : k < xs.length
  · rw [hc k, List.getElem?_reverse hk]
    split
    · rfl
    · congr 1; omega
  · rw [List.getElem?_eq_none (by omega), List.getElem?_eq_none (by simp; omega)]
theorem reverse {g : Glob} {w : World} {l : List As} {v : Value} {xs : List Int} (H : Sat g w (Sl 3 1 enI v xs :: l)) (hl : xs.length ≤ 9223372036854775807) : Fc Try.prog 44 #[v] w (fun _ w' => Sat g w' (Sl 3 1 enI v xs.reverse :: l)) := by
  refine Fc.of Try.func44 rfl (by kernel_rfl) ?_
  refine rLenS H 0 rfl rfl ?_
  refine eqI64 (by omega) ?_
  refine LoopP.rule (α := Nat × List Int) (0, xs) (fun x => [(2, .int .i64 x.1), (3, .int .i64 ((xs.length : Int) - 1 - x.1))]) (fun x w' => (2 * x.1 ≤ xs.length ∧ Rv x.1 xs x.2) ∧ Sat g w' (Sl 3 1 enI v x.2 :: l)) (fun x => xs.length - x.1) (mt_cons rfl (mt_i rfl (by simp) mt_nil)) ⟨⟨by omega, rfl, fun k => by rw [if_neg (by omega)]⟩, H⟩ ?_
  clear H
  rintro ⟨i, ys⟩ f w1 ⟨⟨hi, hR⟩, H⟩
  simp only at hi hR H ⊢
  have hyl := hR.1
  refine cI (fun c1 => ?_) (fun c1 => ?_)
  · replace c1 := vLt_t (c1)
    refine bk ?_
    refine drawzS H [] [(0, .pure), (1, .pure), (2, .pure), (3, .pure), (4, .pure), (5, .pure), (6, .pure), (7, .held), (8, .pure), (9, .pure), (10, .pure), (11, .held), (12, .pure), (13, .free), (14, .pure), (15, .free)] mixed (by kernel_rfl) (by kernel_rfl) ?_
    clear H
    intro w2 H
    clear w1
    obtain ⟨x1, hx1⟩ : ∃ x, (ys)[(((xs.length) - 1) - (i))]? = some x := ⟨_, List.getElem?_eq_getElem (by omega)⟩
    obtain ⟨b1, o1, E1⟩ := H.elt 0 rfl (((xs.length) - 1) - (i)) (by omega)
    refine tk (fun wx HS => rIxE E1 (by omega) rfl rfl ⟨rfl, rfl⟩) ?_
    refine tk (fun wx HS => rLd (HS.el 0 rfl E1 hx1) 0 rfl rfl rfl ⟨rfl, rfl⟩) ?_
    obtain ⟨x2, hx2⟩ : ∃ x, (ys)[(i)]? = some x := ⟨_, List.getElem?_eq_getElem (by omega)⟩
    obtain ⟨b2, o2, E2⟩ := H.elt 0 rfl (i) (by omega)
    refine tk (fun wx HS => rIxE E2 rfl rfl rfl ⟨rfl, rfl⟩) ?_
    refine tk (fun wx HS => rLd (HS.el 0 rfl E2 hx2) 0 rfl rfl rfl ⟨rfl, rfl⟩) ?_
    refine tk (fun wx HS => rIxE E2 rfl rfl rfl ⟨rfl, rfl⟩) ?_
    refine rStE H 0 rfl E2 hx2 0 (x1) rfl rfl rfl rfl ?_
    clear H
    intro w1 H
    clear w2
    refine tk (fun wx HS => rIxE E1 (by omega) rfl rfl ⟨rfl, rfl⟩) ?_
    have hx3 : (ys.set i x1)[xs.length - 1 - i]? = some _ := setOther hx1 (by omega)
    refine rStE H 0 rfl E1 hx3 0 (x2) rfl rfl rfl rfl ?_
    clear H
    intro w2 H
    clear w1
    refine eqI64 (by omega) ?_
    refine eqI64 (by omega) ?_
    refine Nxt.mk ((i + 1, (ys.set i x1).set (xs.length - 1 - i) x2)) (mt_i rfl (by first | omega | (simp only; omega) | (simp; omega)) (mt_i rfl (by first | omega | (simp only; omega) | (simp; omega)) (mt_nil))) ?_ ?_
    · refine ⟨?_, ?_⟩
      · refine ⟨?_, ?_⟩
        · omega
        exact hR.step (by omega) hx2 hx1
      exact H
    omega
  replace c1 := vLt_f (c1)
  refine Done.mk ?_
  refine H.cg (cgC (cgSl ?_) (rfl))
  exact hR.fin (by omega) (by omega)
end Go.Proofs.Ytcgenmddojgbpaa.Super
