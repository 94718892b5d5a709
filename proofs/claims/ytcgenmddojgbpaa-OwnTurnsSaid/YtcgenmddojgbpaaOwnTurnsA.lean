/- Plan and Past, whatever comes; copies and comparisons of kids. -/
import Derived.Test.YtcgenmddojgbpaaSuper3a
import Derived.Test.YtcgenmddojgbpaaTurns3
import Derived.Test.YtcgenmddojgbpaaRing3
set_option maxRecDepth 100000
set_option maxHeartbeats 4000000
set_option linter.unusedVariables false
set_option linter.unusedSimpArgs false
namespace Go.Proofs.Ytcgenmddojgbpaa.Super
open Go Go.Proofs.Ytcgenmddojgbpaa.Eng Go.RowKit
open Ref
theorem planAny (w : World) (v : Value) (xs : List (Bool × Bool)) (F : Int) (hx : Rd enK (fun _ => True) 2 w v xs) :
    Fc Try.prog 18 #[.int .i64 3, v, .int .i64 F] w (fun r w' => Sat (froz w) w' []) := by
  by_cases h1 : xs.length ≤ 8 ∧ 0 ≤ F ∧ F < xs.length
  · obtain ⟨a, b, c⟩ := h1
    obtain ⟨n, rfl⟩ : ∃ n : Nat, F = n := ⟨F.toNat, (Int.toNat_of_nonneg b).symm⟩
    obtain ⟨x0, hx0⟩ : ∃ x, xs[n]? = some x := ⟨_, List.getElem?_eq_getElem (by omega)⟩
    rcases hk : x0.2 with _ | _
    · refine Fc.of Try.func18 rfl (by kernel_rfl) ?_
      have H := Sat.start w
      have hx := hx.fz
      have hst : isSt 3 := ⟨by decide, by decide⟩
      refine rLenF hx rfl ?_
      refine cF (vLt_F (by omega)) ?_
      refine CallP.mk (Fc.imp (Go.Proofs.Ytcgenmddojgbpaa.Super.isStrategy _ _) ?_)
      rintro _ _ ⟨⟨b1, ⟨rfl, h1⟩⟩, rfl⟩
      refine br_f (not_F (h1.2 (by assumption))) ?_
      refine br_f (vLt_F (by assumption)) ?_
      refine rLenF hx rfl ?_
      refine cF (vLe_F (by assumption)) ?_
      obtain ⟨b2, o1, E1, F1, hok1⟩ := FSl.elt hx hx0
      refine rIxE E1 rfl rfl rfl ?_
      refine rFieldAt rfl ?_
      refine rLd (H.fat F1) 1 rfl rfl rfl ?_
      refine cT (not_T ((by assumption))) ?_
      refine Done.mk ?_
      exact H
    · have := plan w 3 v xs n hx a ⟨by decide, by decide⟩ (by omega) (by rw [keepAt_of hx0]; exact hk)
      exact this.imp fun r w' ⟨u, t, _, H⟩ => H.drop 0 (fun H => H.drop 0 (fun H => H))
  · refine Fc.of Try.func18 rfl (by kernel_rfl) ?_
    have H := Sat.start w
    have hx := hx.fz
    refine rLenF hx rfl ?_
    refine cI (fun c1 => ?_) (fun c1 => ?_)
    · replace c1 := vLt_t (c1)
      refine Done.mk ?_
      exact H
    replace c1 := vLt_f (c1)
    refine CallP.mk (Fc.imp (Go.Proofs.Ytcgenmddojgbpaa.Super.isStrategy _ _) ?_)
    rintro _ _ ⟨⟨b1, ⟨rfl, h2⟩⟩, rfl⟩
    refine br (fun c2 => ?_) (fun c2 => ?_)
    · replace c2 := iff_f h2 (not_t (c2))
      refine cT rfl ?_
      refine Done.mk ?_
      exact H
    replace c2 := h2.1 (not_f (c2))
    refine br (fun c3 => ?_) (fun c3 => ?_)
    · replace c3 := vLt_t (c3)
      refine cT rfl ?_
      refine Done.mk ?_
      exact H
    replace c3 := vLt_f (c3)
    refine rLenF hx rfl ?_
    refine cT (vLe_T (by omega)) ?_
    refine Done.mk ?_
    exact H
theorem pastAny (w : World) (v : Value) (xs : List Int) (hx : Rd enI (fun _ => True) 1 w v xs) :
    Fc Try.prog 19 #[v, .int .i64 5, .int .i64 5, .int .i64 5] w (fun r w' => Sat (froz w) w' []) := by
  refine Fc.of Try.func19 rfl (by kernel_rfl) ?_
  have H := Sat.start w
  have hx := hx.fz
  refine rLenF hx rfl ?_
  refine cI (fun c1 => ?_) (fun c1 => ?_)
  · replace c1 := vLt_t (c1)
    refine Done.mk ?_
    exact H
  replace c1 := vLt_f (c1)
  refine br_f (vLt_F (by omega)) ?_
  refine br_f (vLt_F (by omega)) ?_
  refine CallP.mk (Fc.imp (Go.Proofs.Ytcgenmddojgbpaa.Super.isTime _ _) ?_)
  rintro _ _ ⟨⟨b1, ⟨rfl, h1⟩⟩, rfl⟩
  refine br (fun c2 => ?_) (fun c2 => ?_)
  · replace c2 := iff_f h1 (not_t (c2))
    refine cT rfl ?_
    refine Done.mk ?_
    exact H
  replace c2 := h1.1 (not_f (c2))
  refine CallP.mk (Fc.imp (Go.Proofs.Ytcgenmddojgbpaa.Super.isTime _ _) ?_)
  rintro _ _ ⟨⟨b2, ⟨rfl, h2⟩⟩, rfl⟩
  refine cF (not_F (h2.2 (by assumption))) ?_
  refine rLenF hx rfl ?_
  refine LoopP.rule (α := Nat × Value × List Int) (0, .slice none 0 0, []) (fun x_ => [(35, .int .i64 x_.1), (11, x_.2.1)]) (fun x_ w_ => (x_.1 ≤ xs.length) ∧ (x_.2.2.length ≤ x_.1) ∧ Sat (froz w) w_ ([Sl 3 1 enI x_.2.1 x_.2.2])) (fun x_ => xs.length - x_.1) ?_ ?_ ?_
  · repeat first | exact mt_nil | refine mt_cons rfl ?_ | refine mt_i rfl (by first | omega | (simp only; omega) | (simp; omega) | (simp; done)) ?_
  · try simp only
    refine ⟨?_, ?_⟩
    · omega
    refine ⟨?_, ?_⟩
    · (constructor <;> omega)
    replace H := H.sl0 (en := enI) (s := 1) (3) (fun _ => rfl)
    exact H
  clear H
  rintro ⟨i, vo, os⟩ f_ w_ ⟨hi, ho, H⟩
  try simp only at hi ho H ⊢
  refine cI (fun c3 => ?_) (fun c3 => ?_)
  · replace c3 := vLt_t (c3)
    refine bk ?_
    obtain ⟨x1, hx1⟩ : ∃ x, (xs)[(i)]? = some x := ⟨_, List.getElem?_eq_getElem (by omega)⟩
    obtain ⟨b3, o1, E1, F1, hok1⟩ := FSl.elt hx hx1
    refine rIxE E1 rfl rfl rfl ?_
    refine rLd (H.fat F1) 0 rfl rfl rfl ?_
    refine CallP.mk (Fc.imp (Go.Proofs.Ytcgenmddojgbpaa.Super.isTime _ _) ?_)
    rintro _ _ ⟨⟨b4, ⟨rfl, h3⟩⟩, rfl⟩
    refine cI (fun c4 => ?_) (fun c4 => ?_)
    · replace c4 := iff_f h3 (not_t (c4))
      refine Done.mk ?_
      refine H.firsts 0 ?_
      clear H
      intro H
      exact H
    replace c4 := h3.1 (not_f (c4))
    refine eqI64 (by omega) ?_
    refine cI (fun c5 => ?_) (fun c5 => ?_)
    · replace c5 := vLe_t (c5)
      refine rBuildSliceS H rfl rfl rfl rfl ?_
      clear H
      intro p1 w1 H
      clear w_
      refine rApS (ys := [_]) 8 H 1 rfl (H.at 0 rfl) rfl (fun y _ => rfl) rfl rfl rfl (by omega) (by omega) ?_
      intro v1
      clear H
      intro w2 H
      clear w1
      refine eqI64 (by omega) ?_
      refine Nxt.mk ((i + 1, v1, os ++ [x1])) (mt_i rfl (by first | omega | (simp only; omega) | (simp; omega)) (mt_cons rfl (mt_nil))) ?_ ?_
      · refine ⟨?_, ?_⟩
        · omega
        refine ⟨?_, ?_⟩
        · (simp only [List.length_append, List.length_set, List.length_cons, List.length_nil]; omega)
        refine H.fronts [1] ?_
        clear H
        intro H
        refine H.firsts 1 ?_
        clear H
        intro H
        exact H
      omega
    replace c5 := vLe_f (c5)
    refine eqI64 (by omega) ?_
    refine Nxt.mk ((i + 1, vo, os)) (mt_i rfl (by first | omega | (simp only; omega) | (simp; omega)) (mt_cons rfl (mt_nil))) ?_ ?_
    · refine ⟨?_, ?_⟩
      · omega
      refine ⟨?_, ?_⟩
      · (constructor <;> omega)
      exact H
    omega
  replace c3 := vLt_f (c3)
  refine rBuildSliceS H rfl rfl rfl rfl ?_
  clear H
  intro p1 w1 H
  clear w_
  refine rApS (ys := [_]) 8 H 1 rfl (H.at 0 rfl) rfl (fun y _ => rfl) rfl rfl rfl (by omega) (by omega) ?_
  intro v1
  clear H
  intro w2 H
  clear w1
  refine rLenS H 1 rfl rfl ?_
  refine Done.mk ?_
  refine H.firsts 0 ?_
  clear H
  intro H
  exact H
theorem shareAny (w : World) (v : Value) (needs : List Int) (hx : Rd enI (fun _ => True) 1 w v needs) : Fc Try.prog 17 #[v, .int .i64 7, .int .i64 90] w
    (fun r w' => ∃ u t e, r = .tuple #[u, t, .int .i64 e] ∧ Sat (froz w) w' []) :=
  (Turns.share w v needs 7 90 hx ⟨by decide, by decide⟩ ⟨by decide, by decide⟩).imp fun r w' ⟨u, t, e, got, ord, h, _, H⟩ => ⟨u, t, e, h, H.drop 0 (fun H => H.drop 0 (fun H => H))⟩
theorem newOk (w : World) (v : Value) (xs : List Bool) (hx : Rd enB (fun _ => True) 1 w v xs) (hl : xs.length ≤ 8) : Fc Try.prog 20 #[.int .i64 2, v, .int .i64 9, .int .i64 9] w
    (fun r w' => ∃ p kv ks, r = .tuple #[.pointer (some ⟨p, 0, none⟩), .int .i64 0] ∧ ks = xs.map (fun k => (true, k)) ∧ Sat (froz w) w' [Pt p (supC ⟨2, 9, 9, ks, [], 0, false⟩ kv (.slice none 0 0)) 102, Sl 45 2 enK kv ks]) :=
  (new w 2 v xs 9 9 hx).imp fun r w' h => by
    rcases h with ⟨h, _⟩ | ⟨h, _⟩ | ⟨_, p, kv, e, H⟩
    · omega
    · exact absurd ⟨hl, ⟨by decide, by decide⟩, by decide, by decide, ⟨by decide, by decide⟩⟩ h
    · exact ⟨p, kv, _, e, rfl, H⟩
theorem newBad (w : World) (v : Value) (xs : List Bool) (hx : Rd enB (fun _ => True) 1 w v xs) (hl : 8 < xs.length) : Fc Try.prog 20 #[.int .i64 2, v, .int .i64 9, .int .i64 9] w
    (fun r w' => ∃ e, r = .tuple #[.pointer none, .int .i64 e] ∧ e ≠ 0 ∧ Sat (froz w) w' []) :=
  (new w 2 v xs 9 9 hx).imp fun r w' h => by
    rcases h with ⟨_, e, H⟩ | ⟨_, e, H⟩ | ⟨h, _⟩
    · exact ⟨2, e, by decide, H⟩
    · exact ⟨1, e, by decide, H⟩
    · omega
theorem copyKid (w : World) (v : Value) (xs : List (Bool × Bool)) (hx : Rd enK (fun _ => True) 2 w v xs) (hl : xs.length * 2 ≤ 140737488351232) : Fc Try.prog 16 #[v] w (fun u w' => Sat (froz w) w' [Sl 45 2 enK u xs]) := by
  refine Fc.of Try.func16 rfl (by kernel_rfl) ?_
  have H := Sat.start w
  have hx := hx.fz
  replace H := H.sl0 (en := enK) (s := 2) 45 (fun _ => rfl)
  refine rApR 2 H 0 rfl (H.rd hx) (fun y _ => rfl) rfl rfl rfl (by (simp only [List.length_append, List.length_set, List.length_cons, List.length_nil]; omega)) (by (simp only [List.length_append, List.length_set, List.length_cons, List.length_nil]; omega)) ?_
  intro v1
  clear H
  intro w1 H
  refine Done.mk ?_
  exact H
theorem pairE {a b : Bool × Bool} (h : (a.1 == b.1 && (a.2 == b.2 && true)) = true) : a = b := by
  obtain ⟨a1, a2⟩ := a
  obtain ⟨b1, b2⟩ := b
  simpa using h
theorem pairN {a b : Bool × Bool} (h : (a.1 == b.1 && (a.2 == b.2 && true)) = false) : ¬ a = b := by
  rintro rfl
  simp at h
theorem eqKid (w : World) (u v : Value) (xs ys : List (Bool × Bool)) (hx : Rd enK (fun _ => True) 2 w u xs) (hy : Rd enK (fun _ => True) 2 w v ys) (hl : xs.length ≤ 1000000000000000) :
    Fc Try.prog 23 #[u, v] w (fun r w' => ∃ b, r = .bool b ∧ (b = true ↔ xs = ys) ∧ Sat (froz w) w' []) := by
  refine Fc.of Try.func23 rfl (by kernel_rfl) ?_
  have H := Sat.start w
  have hx := hx.fz
  have hy := hy.fz
  refine rLenF hx rfl ?_
  refine rLenF hy rfl ?_
  refine cI (fun c1 => ?_) (fun c1 => ?_)
  · replace c1 := vNe_t (c1)
    refine Done.mk ?_
    exact ⟨false, rfl, ⟨nofun, fun h => absurd (congrArg List.length h) (by omega)⟩, H⟩
  replace c1 := vNe_f (c1)
  refine rLenF hx rfl ?_
  refine LoopP.rule (α := Nat) (0) (fun x_ => [(14, .int .i64 x_)]) (fun x_ w_ => (x_ ≤ xs.length) ∧ (∀ q, q < x_ → xs[q]? = ys[q]?) ∧ Sat (froz w) w_ ([])) (fun x_ => xs.length - x_) ?_ ?_ ?_
  · repeat first | exact mt_nil | refine mt_cons rfl ?_ | refine mt_i rfl (by first | omega | (simp only; omega) | (simp; omega) | (simp; done)) ?_
  · try simp only
    refine ⟨?_, ?_⟩
    · omega
    refine ⟨?_, ?_⟩
    · (intro q hq; exact absurd hq (Nat.not_lt_zero q))
    exact H
  clear H
  rintro i f_ w_ ⟨hi, he, H⟩
  try simp only at hi he H ⊢
  refine cI (fun c2 => ?_) (fun c2 => ?_)
  · replace c2 := vLt_t (c2)
    refine bk ?_
    obtain ⟨x1, hx1⟩ : ∃ x, (xs)[(i)]? = some x := ⟨_, List.getElem?_eq_getElem (by omega)⟩
    obtain ⟨b1, o1, E1, F1, hok1⟩ := FSl.elt hx hx1
    refine rIxE E1 rfl rfl rfl ?_
    refine rLdA (H.fat F1) 0 rfl rfl rfl ?_
    refine rAllocS H rfl ?_
    clear H
    intro p1 w1 H
    clear w_
    refine rStAS H 0 rfl rfl rfl rfl ?_
    clear H
    intro w2 H
    clear w1
    refine drawzS H [] [(0, .held), (1, .pure), (2, .pure), (3, .pure), (4, .held), (5, .pure)] mixed (by kernel_rfl) (by kernel_rfl) ?_
    clear H
    intro w1 H
    clear w2
    refine tk (fun wx HS => rLdA (HS.at 0 rfl) 0 rfl rfl rfl ⟨rfl, rfl⟩) ?_
    obtain ⟨x2, hx2⟩ : ∃ x, (ys)[(i)]? = some x := ⟨_, List.getElem?_eq_getElem (by omega)⟩
    obtain ⟨b2, o2, E2, F2, hok2⟩ := FSl.elt hy hx2
    refine tk (fun wx HS => rIxE E2 rfl rfl rfl ⟨rfl, rfl⟩) ?_
    refine tk (fun wx HS => rLdA (HS.fat F2) 0 rfl rfl rfl ⟨rfl, rfl⟩) ?_
    refine tk (fun wx HS => rStructNe (by kernel_rfl) (by kernel_rfl) ⟨rfl, rfl⟩) ?_
    refine cI (fun c3 => ?_) (fun c3 => ?_)
    · replace c3 := not_t (c3)
      refine Done.mk ?_
      refine ⟨false, ?_⟩
      refine ⟨?_, ?_⟩
      · exact congrArg Value.bool (rfl)
      refine ⟨?_, ?_⟩
      · exact ⟨nofun, fun h => absurd (by subst h; exact Option.some.inj (hx1.symm.trans hx2)) (pairN (by assumption))⟩
      refine H.firsts 0 ?_
      clear H
      intro H
      exact H
    replace c3 := not_f (c3)
    refine eqI64 (by omega) ?_
    refine Nxt.mk (i + 1) (mt_i rfl (by first | omega | (simp only; omega) | (simp; omega)) (mt_nil)) ?_ ?_
    · refine ⟨?_, ?_⟩
      · omega
      refine ⟨?_, ?_⟩
      · exact eq_step (by assumption) (by rw [hx1, hx2]; exact congrArg some (pairE (by assumption)))
      refine H.firsts 0 ?_
      clear H
      intro H
      exact H
    omega
  replace c2 := vLt_f (c2)
  refine Done.mk ?_
  exact ⟨true, rfl, ⟨fun _ => eq_all (by omega) (by omega) he, fun _ => rfl⟩, H⟩
end Go.Proofs.Ytcgenmddojgbpaa.Super
