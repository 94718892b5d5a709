/- The law InsKinds. -/
import Derived.Test.YtpobebafdecgaaaIns
import Derived.Test.YtpobebafdecgaaaOpen
set_option maxRecDepth 100000
set_option maxHeartbeats 4000000
set_option linter.unusedVariables false
set_option linter.unusedSimpArgs false
namespace Go.Proofs.Ytpobebafdecgaaa.Ins
open Go Go.Proofs.Ytpobebafdecgaaa.Eng Go.RowKit
theorem copyK (w : World) (v : Value) (xs : List Int) (hx : Rd enK (fun _ => True) 1 w v xs) (hl : xs.length ≤ 1000000000) : Fc Try.prog 12 #[v] w (fun u w' => Sat (froz w) w' [Sl 27 1 enK u xs]) := by
  refine Fc.of Try.func12 rfl (by kernel_rfl) ?_
  have H := Sat.start w
  have hx := hx.fz
  replace H := H.sl0 (en := enK) (s := 1) 27 (fun _ => rfl)
  refine rApR 1 H 0 rfl (H.rd hx) (fun y _ => rfl) rfl rfl rfl (by (simp only [List.length_append, List.length_set, List.length_cons, List.length_nil]; omega)) (by (simp only [List.length_append, List.length_set, List.length_cons, List.length_nil]; omega)) ?_
  intro v1
  clear H
  intro w1 H
  refine Done.mk ?_
  exact H
theorem wd_set (o : Int) : wd o = 0 ∨ wd o = 1 ∨ wd o = 2 ∨ wd o = 4 ∨ wd o = 8 := by
  unfold wd
  repeat' split
  all_goals omega
theorem shp {r : Int} {b : Bool} {xs ys : List Int} (h1 : b = false → xs = [] ∧ ys = []) (h3 : 0 < r → ∃ k, b = true ∧ xs ++ ys = [127, k] ∧ xs[0]? = some 127 ∧ (r = 8 → k = 126)) :
    (r ≤ 0 ∧ b = true) ∨ (r ≤ 0 ∧ b = false ∧ xs = [] ∧ ys = []) ∨ (0 < r ∧ b = true ∧ xs.length + ys.length = 2 ∧ 0 < xs.length ∧ (∀ x, xs[0]? = some x → x = 127) ∧ (r = 8 → ∀ x, (xs ++ ys)[1]? = some x → x = 126)) := by
  rcases Int.lt_or_le 0 r with h | h
  · obtain ⟨k, hb, he, hx, hk⟩ := h3 h
    refine .inr (.inr ⟨h, hb, by rw [← List.length_append, he]; rfl, ?_, fun x hx' => (Option.some.inj (hx.symm.trans hx')).symm, fun h8 x hx' => ?_⟩)
    · cases xs
      · cases hx
      · simp
    · rw [he] at hx'; cases hx'; exact hk h8
  · cases b
    · exact .inr (.inl ⟨h, rfl, (h1 rfl).1, (h1 rfl).2⟩)
    · exact .inl ⟨h, rfl⟩
theorem insKinds (o : Int) (ho : 0 ≤ o ∧ o ≤ 255) (w : World) : Fc Try.prog 3 #[.int .u8 o] w (fun v w' => v = .bool true ∧ Below w.heap.size w w') := by
  refine Fc.of Try.func3 rfl (by kernel_rfl) ?_
  have H := Sat.start w
  have hws := wd_set o
  refine CallP.mk (Fc.imp (Go.Proofs.Ytpobebafdecgaaa.Ins.plain _ _) ?_)
  rintro _ w1 ⟨u1, ⟨t1, ⟨b1, ⟨xs1, ⟨ys1, ⟨rfl, ⟨h1, ⟨h2, ⟨h3, H'⟩⟩⟩⟩⟩⟩⟩⟩⟩
  refine H.mergeK H' ?_
  clear H H'
  intro H
  refine CallP.mk (Fc.imp (Go.Proofs.Ytpobebafdecgaaa.Ins.width _ _) ?_)
  rintro _ _ ⟨⟨r1, ⟨rfl, h4⟩⟩, rfl⟩
  refine CallP.mk (Fc.imp (Go.Proofs.Ytpobebafdecgaaa.Ins.plain _ _) ?_)
  rintro _ w2 ⟨u2, ⟨t2, ⟨b2, ⟨xs2, ⟨ys2, ⟨rfl, ⟨h5, ⟨h6, ⟨h7, H'⟩⟩⟩⟩⟩⟩⟩⟩⟩
  refine H.mergeK H' ?_
  clear H H'
  intro H
  have hb2 := h6 rfl
  rw [← h4] at h3 hws
  rcases shp h1 h3 with ⟨hr, hb⟩ | ⟨hr, hb, rfl, rfl⟩ | ⟨hr, hb, hl2, hl1, hx0, hk⟩ <;> clear h3 h7
  · have hr0 : r1 = 0 := by omega
    refine cF (not_F ((by assumption))) ?_
    refine cT (vEq_T (by assumption)) ?_
    refine br_t ((by assumption)) ?_
    refine Done.mk ?_
    exact ⟨rfl, H.finish⟩
  · have hr0 : r1 = 0 := by omega
    refine cF (not_F ((by assumption))) ?_
    refine cT (vEq_T (by assumption)) ?_
    refine br_f ((by assumption)) ?_
    refine rLenS H 3 rfl rfl ?_
    refine rLenS H 2 rfl rfl ?_
    refine eqI64 (by simp only [List.length_append, List.length_set, List.length_cons, List.length_nil]; omega) ?_
    refine Done.mk ?_
    refine ⟨?_, ?_⟩
    · exact congrArg Value.bool (vEq_T (by (simp only [List.length_append, List.length_set, List.length_cons, List.length_nil]; omega)))
    exact H.finish
  · refine cF (not_F ((by assumption))) ?_
    refine cF (vEq_F (by omega)) ?_
    refine CallP.mk (Fc.imp (Go.Proofs.Ytpobebafdecgaaa.Ins.copyK _ _ _ (H.rdo 3 rfl ?_) ?_) ?_)
    · (simp; done)
    · omega
    rintro v' w3 H'
    refine H.mergeK H' ?_
    clear H H'
    intro H
    refine rApR 1 H 0 rfl (H.rdo (ok := fun _ => True) 3 rfl (fun _ _ => trivial)) (fun y _ => rfl) rfl rfl rfl (by omega) (by omega) ?_
    intro v1
    clear H
    intro w4 H
    clear w3
    refine br_t ((by assumption)) ?_
    refine rLenS H 0 rfl rfl ?_
    refine br_t (vEq_T (by (simp only [List.length_append, List.length_set, List.length_cons, List.length_nil]; omega))) ?_
    obtain ⟨x1, hx1⟩ : ∃ x, (xs1)[0]? = some x := ⟨_, List.getElem?_eq_getElem (by omega)⟩
    obtain ⟨b3, o1, E1⟩ := H.elt 4 rfl 0 (by omega)
    refine rIxE E1 rfl rfl rfl ?_
    refine rLd (H.el 4 rfl E1 hx1) 0 rfl rfl rfl ?_
    refine br_t (vEq_T (by exact hx0 _ hx1)) ?_
    refine br (fun c1 => ?_) (fun c1 => ?_)
    · replace c1 := vEq_t (c1)
      refine Done.mk ?_
      exact ⟨rfl, H.finish⟩
    replace c1 := vEq_f (c1)
    refine br (fun c2 => ?_) (fun c2 => ?_)
    · replace c2 := vEq_t (c2)
      refine Done.mk ?_
      exact ⟨rfl, H.finish⟩
    replace c2 := vEq_f (c2)
    refine br (fun c3 => ?_) (fun c3 => ?_)
    · replace c3 := vEq_t (c3)
      refine Done.mk ?_
      exact ⟨rfl, H.finish⟩
    replace c3 := vEq_f (c3)
    refine br_t (vEq_T (by omega)) ?_
    obtain ⟨x2, hx2⟩ : ∃ x, (xs1 ++ ys1)[1]? = some x := ⟨_, List.getElem?_eq_getElem (by (simp only [List.length_append, List.length_set, List.length_cons, List.length_nil]; omega))⟩
    obtain ⟨b4, o2, E2⟩ := H.elt 0 rfl 1 (by (simp only [List.length_append, List.length_set, List.length_cons, List.length_nil]; omega))
    refine rIxE E2 rfl rfl rfl ?_
    refine rLd (H.el 0 rfl E2 hx2) 0 rfl rfl rfl ?_
    refine Done.mk ?_
    refine ⟨?_, ?_⟩
    · exact congrArg Value.bool (vEq_T (hk (by omega) _ hx2))
    exact H.finish
end Go.Proofs.Ytpobebafdecgaaa.Ins
