/- The document's Eq and Copy, for int. -/
import Derived.Test.YtcgenmddojgbpaaRefR
set_option maxRecDepth 100000
set_option maxHeartbeats 4000000
set_option linter.unusedVariables false
set_option linter.unusedSimpArgs false
namespace Go.Proofs.Ytcgenmddojgbpaa.Ref
open Go Go.Proofs.Ytcgenmddojgbpaa.Eng Go.RowKit
theorem copyI (w : World) (v : Value) (xs : List Int) (hx : Rd enI (fun _ => True) 1 w v xs) (hl : xs.length ≤ 17592186043904) : Fc Try.prog 15 #[v] w (fun u w' => Sat (froz w) w' [Sl 3 1 enI u xs]) := by
  refine Fc.of Try.func15 rfl (by kernel_rfl) ?_
  have H := Sat.start w
  have hx := hx.fz
  replace H := H.sl0 (en := enI) (s := 1) 3 (fun _ => rfl)
  refine rApR 8 H 0 rfl (H.rd hx) (fun y _ => rfl) rfl rfl rfl (by (simp only [List.length_append, List.length_set, List.length_cons, List.length_nil]; omega)) (by (simp only [List.length_append, List.length_set, List.length_cons, List.length_nil]; omega)) ?_
  intro v1
  clear H
  intro w1 H
  refine Done.mk ?_
  exact H
theorem eqI (w : World) (u v : Value) (xs ys : List Int) (hx : Rd enI (fun _ => True) 1 w u xs) (hy : Rd enI (fun _ => True) 1 w v ys) (hl : xs.length ≤ 1000000000000000) :
    Fc Try.prog 22 #[u, v] w (fun r w' => ∃ b, r = .bool b ∧ (b = true ↔ xs = ys) ∧ Sat (froz w) w' []) := by
  refine Fc.of Try.func22 rfl (by kernel_rfl) ?_
  have H := Sat.start w
  have hx := hx.fz
  have hy := hy.fz
  refine rLenF hx rfl ?_
  refine rLenF hy rfl ?_
  refine cI (fun c1 => ?_) (fun c1 => ?_)
  · replace c1 := vNe_t (c1)
    refine Done.mk ?_
    exact ⟨false, rfl, ⟨nofun, fun h => absurd (congrArg List.length h) (by omega)⟩, H⟩
  replace c1 := vNe_f (c1)
  refine rLenF hx rfl ?_
  refine LoopP.rule (α := Nat) (0) (fun x_ => [(14, .int .i64 x_)]) (fun x_ w_ => (x_ ≤ xs.length) ∧ (∀ q, q < x_ → xs[q]? = ys[q]?) ∧ Sat (froz w) w_ ([])) (fun x_ => xs.length - x_) ?_ ?_ ?_
  · repeat first | exact mt_nil | refine mt_cons rfl ?_ | refine mt_i rfl (by first | omega | (simp only; omega) | (simp; omega) | (simp; done)) ?_
  · try simp only
    refine ⟨?_, ?_⟩
    · omega
    refine ⟨?_, ?_⟩
    · (intro q hq; exact absurd hq (Nat.not_lt_zero q))
    exact H
  clear H
  rintro i f_ w_ ⟨hi, he, H⟩
  try simp only at hi he H ⊢
  refine cI (fun c2 => ?_) (fun c2 => ?_)
  · replace c2 := vLt_t (c2)
    refine bk ?_
    obtain ⟨x1, hx1⟩ : ∃ x, (xs)[(i)]? = some x := ⟨_, List.getElem?_eq_getElem (by omega)⟩
    obtain ⟨b1, o1, E1, F1, hok1⟩ := FSl.elt hx hx1
    refine rIxE E1 rfl rfl rfl ?_
    refine rLd (H.fat F1) 0 rfl rfl rfl ?_
    obtain ⟨x2, hx2⟩ : ∃ x, (ys)[(i)]? = some x := ⟨_, List.getElem?_eq_getElem (by omega)⟩
    obtain ⟨b2, o2, E2, F2, hok2⟩ := FSl.elt hy hx2
    refine rIxE E2 rfl rfl rfl ?_
    refine rLd (H.fat F2) 0 rfl rfl rfl ?_
    refine cI (fun c3 => ?_) (fun c3 => ?_)
    · replace c3 := vNe_t (c3)
      refine Done.mk ?_
      refine ⟨false, ?_⟩
      refine ⟨?_, ?_⟩
      · exact congrArg Value.bool (rfl)
      refine ⟨?_, ?_⟩
      · exact ⟨nofun, fun h => absurd (by subst h; exact Option.some.inj (hx1.symm.trans hx2)) (by assumption)⟩
      exact H
    replace c3 := vNe_f (c3)
    refine eqI64 (by omega) ?_
    refine Nxt.mk (i + 1) (mt_i rfl (by first | omega | (simp only; omega) | (simp; omega)) (mt_nil)) ?_ ?_
    · refine ⟨?_, ?_⟩
      · omega
      refine ⟨?_, ?_⟩
      · exact eq_step (by assumption) (by rw [hx1, hx2]; exact congrArg some (by assumption))
      exact H
    omega
  replace c2 := vLt_f (c2)
  refine Done.mk ?_
  exact ⟨true, rfl, ⟨fun _ => eq_all (by omega) (by omega) he, fun _ => rfl⟩, H⟩
end Go.Proofs.Ytcgenmddojgbpaa.Ref
