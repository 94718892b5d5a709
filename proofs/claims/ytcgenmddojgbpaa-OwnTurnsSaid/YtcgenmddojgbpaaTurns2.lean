/- Package turns: Share. -/
import Derived.Test.YtcgenmddojgbpaaTurns
set_option maxRecDepth 100000
set_option maxHeartbeats 4000000
set_option linter.unusedVariables false
set_option linter.unusedSimpArgs false
namespace Go.Proofs.Ytcgenmddojgbpaa.Turns
open Go Go.Proofs.Ytcgenmddojgbpaa.Eng Go.RowKit
open Ref
theorem all_snoc {α : Type} {Q : α → Prop} {xs : List α} {i : Nat} {x : α} (hx : xs[i]? = some x) (h1 : ∀ y ∈ xs.take i, Q y) (h2 : Q x) : ∀ y ∈ xs.take (i + 1), Q y := by
  intro y hy
  rw [List.take_add_one, hx] at hy
  rcases List.mem_append.1 hy with hy | hy
  · exact h1 y hy
  · obtain rfl : y = x := by simpa using hy
    exact h2
theorem indexBad (w : World) (v : Value) (xs : List Int) (hx : Rd enI okI 1 w v xs) (hl : xs.length ≤ 16) : Fc Try.prog 61 #[v, .func (.func 41) #[] #[]] w
    (fun u w' => ∃ n : Int, u = .int .i64 n ∧ (0 ≤ n ↔ ∃ x ∈ xs, bad x) ∧ Sat (froz w) w' []) := by
  refine Fc.of Try.func61 rfl (by kernel_rfl) ?_
  have H := Sat.start w
  have hx := hx.fz
  refine rLenF hx rfl ?_
  refine LoopP.rule (α := Nat) (0) (fun x_ => [(8, .int .i64 x_)]) (fun x_ w_ => (x_ ≤ xs.length) ∧ (∀ x ∈ xs.take x_, ¬ bad x) ∧ Sat (froz w) w_ ([])) (fun x_ => xs.length - x_) ?_ ?_ ?_
  · repeat first | exact mt_nil | refine mt_cons rfl ?_ | refine mt_i rfl (by first | omega | (simp only; omega) | (simp; omega) | (simp; done)) ?_
  · try simp only
    refine ⟨?_, ?_⟩
    · omega
    refine ⟨?_, ?_⟩
    · nofun
    exact H
  clear H
  rintro i f_ w_ ⟨hi, hb, H⟩
  try simp only at hi hb H ⊢
  refine cI (fun c1 => ?_) (fun c1 => ?_)
  · replace c1 := vLt_t (c1)
    refine bk ?_
    obtain ⟨x1, hx1⟩ : ∃ x, (xs)[(i)]? = some x := ⟨_, List.getElem?_eq_getElem (by omega)⟩
    obtain ⟨b1, o1, E1, F1, hok1⟩ := FSl.elt hx hx1
    refine rIxE E1 rfl rfl rfl ?_
    refine rLd (H.fat F1) 0 rfl rfl rfl ?_
    refine CallP.mk (Fc.imp (Go.Proofs.Ytcgenmddojgbpaa.Turns.isBad _ _) ?_)
    rintro _ _ ⟨⟨b2, ⟨rfl, h1⟩⟩, rfl⟩
    refine cI (fun c2 => ?_) (fun c2 => ?_)
    · replace c2 := h1.1 (c2)
      refine Done.mk ?_
      exact ⟨_, rfl, ⟨fun _ => ⟨_, List.mem_of_getElem? (by assumption), by assumption⟩, fun _ => by omega⟩, H⟩
    replace c2 := iff_f h1 (c2)
    refine eqI64 (by omega) ?_
    refine Nxt.mk (i + 1) (mt_i rfl (by first | omega | (simp only; omega) | (simp; omega)) (mt_nil)) ?_ ?_
    · refine ⟨?_, ?_⟩
      · omega
      refine ⟨?_, ?_⟩
      · exact all_snoc (Q := fun x => ¬ bad x) hx1 hb (by assumption)
      exact H
    omega
  replace c1 := vLt_f (c1)
  refine Done.mk ?_
  exact ⟨_, rfl, ⟨fun h => by omega, fun ⟨y, hy, hbd⟩ => absurd hbd (hb y (by rw [List.take_of_length_le (by omega)]; exact hy))⟩, H⟩
theorem containsBad (w : World) (v : Value) (xs : List Int) (hx : Rd enI okI 1 w v xs) (hl : xs.length ≤ 16) : Fc Try.prog 42 #[v, .func (.func 41) #[] #[]] w
    (fun u w' => ∃ b, u = .bool b ∧ (b = true ↔ ∃ x ∈ xs, bad x) ∧ Sat (froz w) w' []) := by
  refine Fc.of Try.func42 rfl (by kernel_rfl) ?_
  have H := Sat.start w
  have hx := hx.fz
  refine CallP.mk (Fc.imp (Go.Proofs.Ytcgenmddojgbpaa.Turns.indexBad _ _ _ (H.rd hx) ?_) ?_)
  · assumption
  rintro _ w1 ⟨n1, ⟨rfl, ⟨h1, H'⟩⟩⟩
  refine H.mergeK H' ?_
  clear H H'
  intro H
  refine Done.mk ?_
  refine ⟨vLe 0 n1, ?_⟩
  refine ⟨?_, ?_⟩
  · rfl
  refine ⟨?_, ?_⟩
  · (rw [vLe_iff, decide_eq_true_iff]; exact h1)
  exact H
/-! ## Sums -/
theorem sum_set {xs : List Int} {j : Nat} {x y : Int} (h : xs[j]? = some x) : (xs.set j y).sum = xs.sum - x + y := by
  induction xs generalizing j with
  | nil => simp at h
  | cons a xs ih =>
    cases j with
    | zero => simp at h; subst h; simp; omega
    | succ j => simp at h; simp [ih h]; omega
theorem take_sum {xs : List Int} {i : Nat} {x : Int} (h : xs[i]? = some x) : (xs.take (i + 1)).sum = (xs.take i).sum + x := by
  rw [List.take_add_one, h, List.sum_append]; simp
def ceil (s g : Int) : Int := (g + s - 1) / s
theorem ceil_step {s r give : Int} (hs : 0 < s) (h0 : 0 < give) (h1 : give ≤ s) : ceil s (r * s + give) = ceil s (r * s) + 1 := by
  unfold ceil
  have e1 : r * s + give + s - 1 = (give - 1) + (r + 1) * s := by rw [Int.add_mul]; omega
  have e2 : r * s + s - 1 = (s - 1) + r * s := by omega
  rw [e1, e2, Int.add_mul_ediv_right _ _ (by omega), Int.add_mul_ediv_right _ _ (by omega), Int.ediv_eq_zero_of_lt (by omega) (by omega), Int.ediv_eq_zero_of_lt (by omega) (by omega)]
  omega
theorem ceil_bd {s g : Int} (hs : 0 < s) (h0 : 0 ≤ g) : 0 ≤ ceil s g ∧ ceil s g ≤ g := by
  unfold ceil
  refine ⟨Int.ediv_nonneg (by omega) (by omega), ?_⟩
  have h1 : (g + s - 1) / s < g + 1 := by
    rw [Int.ediv_lt_iff_lt_mul hs]
    have : (g + 1) * 1 ≤ (g + 1) * s := Int.mul_le_mul_of_nonneg_left (by omega) (by omega)
    rcases Int.lt_or_le g 1 with h | h
    · have : g = 0 := by omega
      subst this; omega
    · have h2 : g * 1 ≤ g * s := Int.mul_le_mul_of_nonneg_left (by omega) (by omega)
      have h3 : (g + 1) * s = g * s + s := by rw [Int.add_mul]; omega
      have h4 : (s - 1) * 1 ≤ (s - 1) * g := Int.mul_le_mul_of_nonneg_left (by omega) (by omega)
      have h5 : (s - 1) * g = g * s - g := by rw [Int.sub_mul, Int.mul_comm]; omega
      omega
  omega
end Go.Proofs.Ytcgenmddojgbpaa.Turns
