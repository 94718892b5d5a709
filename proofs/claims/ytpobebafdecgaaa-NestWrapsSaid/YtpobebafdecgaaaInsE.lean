/- Are two instructions the same? -/
import Derived.Test.YtpobebafdecgaaaInsO
set_option maxRecDepth 100000
set_option maxHeartbeats 4000000
set_option linter.unusedVariables false
set_option linter.unusedSimpArgs false
namespace Go.Proofs.Ytpobebafdecgaaa.Ins
open Go Go.Proofs.Ytpobebafdecgaaa.Eng Go.RowKit
theorem eq_step {α : Type} {xs ys : List α} {i : Nat} (h : ∀ q, q < i → xs[q]? = ys[q]?) (h1 : xs[i]? = ys[i]?) : ∀ q, q < i + 1 → xs[q]? = ys[q]? := fun q hq => by
  rcases Nat.lt_or_ge q i with h2 | h2
  · exact h q h2
  · rw [show q = i by omega]; exact h1
theorem eq_all {α : Type} {xs ys : List α} {i : Nat} (h1 : xs.length ≤ i) (h2 : ys.length ≤ i) (h : ∀ q, q < i → xs[q]? = ys[q]?) : xs = ys := by
  apply List.ext_getElem?
  intro q
  rcases Nat.lt_or_ge q i with h3 | h3
  · exact h q h3
  · rw [List.getElem?_eq_none (by omega), List.getElem?_eq_none (by omega)]
theorem eq64 (w : World) (u v : Value) (xs ys : List Int) (hx : Rd enI (fun _ => True) 1 w u xs) (hy : Rd enI (fun _ => True) 1 w v ys) :
    Fc Try.prog 43 #[u, v] w (fun r w' => ∃ b, r = .bool b ∧ (b = true ↔ xs = ys) ∧ Sat (froz w) w' []) := by
  refine Fc.of Try.func43 rfl (by kernel_rfl) ?_
  have H := Sat.start w
  have hx := hx.fz
  have hy := hy.fz
  have hlx := hx.len
  refine rLenF hx rfl ?_
  refine rLenF hy rfl ?_
  refine cI (fun c1 => ?_) (fun c1 => ?_)
  · replace c1 := vNe_t (c1)
    refine Done.mk ?_
    exact ⟨false, rfl, ⟨nofun, fun h => absurd (congrArg List.length h) (by omega)⟩, H⟩
  replace c1 := vNe_f (c1)
  refine rLenF hx rfl ?_
  refine LoopP.rule (α := Nat) (0) (fun x_ => [(14, .int .i64 x_)]) (fun x_ w_ => (x_ ≤ xs.length) ∧ (∀ q, q < x_ → xs[q]? = ys[q]?) ∧ Sat (froz w) w_ ([])) (fun x_ => xs.length - x_) ?_ ?_ ?_
  · repeat first | exact mt_nil | refine mt_cons rfl ?_ | refine mt_i rfl (by first | omega | (simp only; omega) | (simp; omega) | (simp; done)) ?_
  · try simp only
    refine ⟨?_, ?_⟩
    · omega
    refine ⟨?_, ?_⟩
    · (intro q hq; exact absurd hq (Nat.not_lt_zero q))
    exact H
  clear H
  rintro i f_ w_ ⟨hi, he, H⟩
  try simp only at hi he H ⊢
  refine cI (fun c2 => ?_) (fun c2 => ?_)
  · replace c2 := vLt_t (c2)
    refine bk ?_
    obtain ⟨x1, hx1⟩ : ∃ x, (xs)[(i)]? = some x := ⟨_, List.getElem?_eq_getElem (by omega)⟩
    obtain ⟨b1, o1, E1, F1, hok1⟩ := FSl.elt hx hx1
    refine rIxE E1 rfl rfl rfl ?_
    refine rLd (H.fat F1) 0 rfl rfl rfl ?_
    obtain ⟨x2, hx2⟩ : ∃ x, (ys)[(i)]? = some x := ⟨_, List.getElem?_eq_getElem (by omega)⟩
    obtain ⟨b2, o2, E2, F2, hok2⟩ := FSl.elt hy hx2
    refine rIxE E2 rfl rfl rfl ?_
    refine rLd (H.fat F2) 0 rfl rfl rfl ?_
    refine cI (fun c3 => ?_) (fun c3 => ?_)
    · replace c3 := vNe_t (c3)
      refine Done.mk ?_
      refine ⟨false, ?_⟩
      refine ⟨?_, ?_⟩
      · exact congrArg Value.bool (rfl)
      refine ⟨?_, ?_⟩
      · exact ⟨nofun, fun h => absurd (by subst h; exact Option.some.inj (hx1.symm.trans hx2)) (by assumption)⟩
      exact H
    replace c3 := vNe_f (c3)
    refine eqI64 (by omega) ?_
    refine Nxt.mk (i + 1) (mt_i rfl (by first | omega | (simp only; omega) | (simp; omega)) (mt_nil)) ?_ ?_
    · refine ⟨?_, ?_⟩
      · omega
      refine ⟨?_, ?_⟩
      · exact eq_step (by assumption) (by rw [hx1, hx2]; exact congrArg some (by assumption))
      exact H
    omega
  replace c2 := vLt_f (c2)
  refine Done.mk ?_
  exact ⟨true, rfl, ⟨fun _ => eq_all (by omega) (by omega) he, fun _ => rfl⟩, H⟩
theorem sameIns (w : World) (o a b : Int) (tv : Value) (to : List Int) (o' a' b' : Int) (tv' : Value) (to' : List Int) (hx : Rd enI (fun _ => True) 1 w tv to) (hy : Rd enI (fun _ => True) 1 w tv' to') :
    Fc Try.prog 24 #[.agg #[.int .u8 o, .int .i64 a, .int .i64 b, tv], .agg #[.int .u8 o', .int .i64 a', .int .i64 b', tv']] w (fun r w' => ∃ q, r = .bool q ∧ (q = true ↔ (⟨o, a, b, to⟩ : InsD) = ⟨o', a', b', to'⟩) ∧ Sat (froz w) w' []) := by
  refine Fc.of Try.func24 rfl (by kernel_rfl) ?_
  have H := Sat.start w
  have hx := hx.fz
  have hy := hy.fz
  refine rBoxS H ?_
  clear H
  intro p1 w1 H
  refine rBoxS H ?_
  clear H
  intro p2 w2 H
  clear w1
  refine rFieldAt rfl ?_
  refine rLd (H.at 1 rfl) 0 rfl rfl rfl ?_
  refine rFieldAt rfl ?_
  refine rLd (H.at 0 rfl) 0 rfl rfl rfl ?_
  refine br (fun c1 => ?_) (fun c1 => ?_)
  · replace c1 := vEq_t (c1)
    refine rFieldAt rfl ?_
    refine rLd (H.at 1 rfl) 1 rfl rfl rfl ?_
    refine rFieldAt rfl ?_
    refine rLd (H.at 0 rfl) 1 rfl rfl rfl ?_
    refine br (fun c2 => ?_) (fun c2 => ?_)
    · replace c2 := vEq_t (c2)
      refine rFieldAt rfl ?_
      refine rLd (H.at 1 rfl) 2 rfl rfl rfl ?_
      refine rFieldAt rfl ?_
      refine rLd (H.at 0 rfl) 2 rfl rfl rfl ?_
      refine br (fun c3 => ?_) (fun c3 => ?_)
      · replace c3 := vEq_t (c3)
        refine rFieldAt rfl ?_
        refine rLd (H.at 1 rfl) 3 rfl rfl rfl ?_
        refine rFieldAt rfl ?_
        refine rLd (H.at 0 rfl) 3 rfl rfl rfl ?_
        refine CallP.mk (Fc.imp (Go.Proofs.Ytpobebafdecgaaa.Ins.eq64 _ _ _ _ _ (H.rd hx) (H.rd hy)) ?_)
        rintro _ w1 ⟨b1, ⟨rfl, ⟨h1, H'⟩⟩⟩
        refine H.mergeK H' ?_
        clear H H'
        intro H
        refine Done.mk ?_
        refine ⟨b1, ?_⟩
        refine ⟨?_, ?_⟩
        · rfl
        refine ⟨?_, ?_⟩
        · (rw [InsD.mk.injEq]; simp [*]; done)
        refine H.firsts 0 ?_
        clear H
        intro H
        exact H
      replace c3 := vEq_f (c3)
      refine Done.mk ?_
      refine ⟨false, ?_⟩
      refine ⟨?_, ?_⟩
      · exact congrArg Value.bool (rfl)
      refine ⟨?_, ?_⟩
      · (rw [InsD.mk.injEq]; simp [*]; done)
      refine H.firsts 0 ?_
      clear H
      intro H
      exact H
    replace c2 := vEq_f (c2)
    refine Done.mk ?_
    refine ⟨false, ?_⟩
    refine ⟨?_, ?_⟩
    · exact congrArg Value.bool (rfl)
    refine ⟨?_, ?_⟩
    · (rw [InsD.mk.injEq]; simp [*]; done)
    refine H.firsts 0 ?_
    clear H
    intro H
    exact H
  replace c1 := vEq_f (c1)
  refine Done.mk ?_
  refine ⟨false, ?_⟩
  refine ⟨?_, ?_⟩
  · exact congrArg Value.bool (rfl)
  refine ⟨?_, ?_⟩
  · (rw [InsD.mk.injEq]; simp [*]; done)
  refine H.firsts 0 ?_
  clear H
  intro H
  exact H
end Go.Proofs.Ytpobebafdecgaaa.Ins
