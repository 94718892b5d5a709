/- The pair of ends, walked: sends, comes, holds. -/
import Derived.Test.YtepceieglhfnoaaLinkR
import Derived.Test.YtepceieglhfnoaaLink6
set_option maxRecDepth 100000
set_option maxHeartbeats 4000000
set_option linter.unusedVariables false
set_option linter.unusedSimpArgs false
namespace Go.Proofs.Ytepceieglhfnoaa.Link
open Go Go.Proofs.Ytepceieglhfnoaa.Eng Go.RowKit
abbrev pcs (p a b : Nat) (va vb vx v0 v1 u0 u1 : Value) (s : PS) (l : List As) : List As :=
  Pt p [.pointer (some ⟨a, 0, none⟩), .pointer (some ⟨b, 0, none⟩), vx, v0, v1, u0, u1] 74 :: Pt a (linkC s.a va) 104 :: Sl 106 3 enO va s.a.waits :: Pt b (linkC s.b vb) 104 :: Sl 106 3 enO vb s.b.waits :: Sl 49 5 enF vx s.air :: Sl 9 1 enG v0 s.oa :: Sl 9 1 enG v1 s.ob :: Sl 9 1 enG u0 s.ga :: Sl 9 1 enG u1 s.gb :: l
theorem paired (w : World) : Fc Try.prog 26 #[] w (fun r w' => ∃ p a b, r = .tuple #[.pointer (some ⟨p, 0, none⟩), .bool true] ∧ Sat (froz w) w' (pcs p a b (.slice none 0 0) (.slice none 0 0) (.slice none 0 0) (.slice none 0 0) (.slice none 0 0) (.slice none 0 0) (.slice none 0 0) PS0 [])) := by
  refine Fc.of Try.func26 rfl (by kernel_rfl) ?_
  have H := Sat.start w
  refine CallP.mk (Fc.imp (Go.Proofs.Ytepceieglhfnoaa.Link.new _ _ _) ?_)
  rintro _ w1 (⟨p1, ⟨rfl, ⟨⟨h1, ⟨h2, ⟨h3, ⟨h4, h5⟩⟩⟩⟩, H'⟩⟩⟩ | ⟨rfl, ⟨h6, H'⟩⟩)
  · refine H.mergeK H' ?_
    clear H H'
    intro H
    refine CallP.mk (Fc.imp (Go.Proofs.Ytepceieglhfnoaa.Link.new _ _ _) ?_)
    rintro _ w2 (⟨p2, ⟨rfl, ⟨⟨h6, ⟨h7, ⟨h8, ⟨h9, h10⟩⟩⟩⟩, H'⟩⟩⟩ | ⟨rfl, ⟨h11, H'⟩⟩)
    · refine H.mergeK H' ?_
      clear H H'
      intro H
      refine rBuildArr rfl rfl rfl ?_
      refine rBuild rfl rfl rfl ?_
      refine rBoxS H ?_
      clear H
      intro p3 w3 H
      clear w2
      refine br_t (vEq_T (by omega)) ?_
      refine br_t (vEq_T (by omega)) ?_
      refine rPtrNotNil rfl ?_
      refine rPtrNotNil rfl ?_
      refine Done.mk ?_
      refine ⟨p3, p1, p2, ?_⟩
      refine ⟨?_, ?_⟩
      · rfl
      replace H := H.sl0 (en := enF) (s := 5) (49) (fun _ => rfl)
      replace H := H.sl0 (en := enG) (s := 1) (9) (fun _ => rfl)
      replace H := H.sl0 (en := enG) (s := 1) (9) (fun _ => rfl)
      replace H := H.sl0 (en := enG) (s := 1) (9) (fun _ => rfl)
      replace H := H.sl0 (en := enG) (s := 1) (9) (fun _ => rfl)
      refine H.fronts [3, 3, 3, 3, 4, 9, 7, 8, 9, 9] ?_
      clear H
      intro H
      exact H
    refine H.mergeK H' ?_
    clear H H'
    intro H
    refine rBuildArr rfl rfl rfl ?_
    refine rBuild rfl rfl rfl ?_
    refine rBoxS H ?_
    clear H
    intro p2 w3 H
    clear w2
    refine br_t (vEq_T (by (exfalso; omega))) ?_
    refine br_t (vEq_T (by (exfalso; omega))) ?_
    refine rPtrNotNil rfl ?_
    refine rPtrNotNil rfl ?_
    refine Done.mk ?_
    (exfalso; omega)
  refine H.mergeK H' ?_
  clear H H'
  intro H
  refine CallP.mk (Fc.imp (Go.Proofs.Ytepceieglhfnoaa.Link.new _ _ _) ?_)
  rintro _ w2 (⟨p1, ⟨rfl, ⟨⟨h1, ⟨h2, ⟨h3, ⟨h4, h5⟩⟩⟩⟩, H'⟩⟩⟩ | ⟨rfl, ⟨h7, H'⟩⟩)
  · refine H.mergeK H' ?_
    clear H H'
    intro H
    refine rBuildArr rfl rfl rfl ?_
    refine rBuild rfl rfl rfl ?_
    refine rBoxS H ?_
    clear H
    intro p2 w3 H
    clear w2
    refine br_t (vEq_T (by (exfalso; omega))) ?_
    refine br_t (vEq_T (by (exfalso; omega))) ?_
    refine rPtrNotNil rfl ?_
    refine Done.mk ?_
    (exfalso; omega)
  refine H.mergeK H' ?_
  clear H H'
  intro H
  refine rBuildArr rfl rfl rfl ?_
  refine rBuild rfl rfl rfl ?_
  refine rBoxS H ?_
  clear H
  intro p1 w3 H
  clear w2
  refine br_t (vEq_T (by (exfalso; omega))) ?_
  refine br_t (vEq_T (by (exfalso; omega))) ?_
  refine rPtrNotNil rfl ?_
  refine Done.mk ?_
  (exfalso; omega)
def okFr0 (_ : Fr) : Prop := True
theorem copyF (w : World) (v : Value) (xs : List _) (hx : Rd enF okFr0 5 w v xs) (hl : xs.length ≤ 1000000000) : Fc Try.prog 45 #[v] w (fun u w' => Sat (froz w) w' [Sl 49 5 enF u xs]) := by
  refine Fc.of Try.func45 rfl (by kernel_rfl) ?_
  have H := Sat.start w
  have hx := hx.fz
  replace H := H.sl0 (en := enF) (s := 5) (49) (fun _ => rfl)
  refine rApR 48 H 0 rfl (H.rd hx) (fun y _ => rfl) rfl rfl rfl (by (simp only [List.length_append, List.length_set, List.length_cons, List.length_nil]; omega)) (by (simp only [List.length_append, List.length_set, List.length_cons, List.length_nil]; omega)) ?_
  intro v1
  clear H
  intro w1 H
  refine Done.mk ?_
  exact H
theorem eq_step {α : Type} {xs ys : List α} {i : Nat} (h : ∀ q, q < i → xs[q]? = ys[q]?) (h1 : xs[i]? = ys[i]?) : ∀ q, q < i + 1 → xs[q]? = ys[q]? := fun q hq => by
  rcases Nat.lt_or_ge q i with h2 | h2
  · exact h q h2
  · rw [show q = i by omega]; exact h1
theorem eq_all {α : Type} {xs ys : List α} {i : Nat} (h1 : xs.length ≤ i) (h2 : ys.length ≤ i) (h : ∀ q, q < i → xs[q]? = ys[q]?) : xs = ys := by
  apply List.ext_getElem?
  intro q
  rcases Nat.lt_or_ge q i with h3 | h3
  · exact h q h3
  · rw [List.getElem?_eq_none (by omega), List.getElem?_eq_none (by omega)]
theorem rem_ways {a b : Int} (hb : 0 < b) (h : a < 0) : (vRem a b = 0 ∧ a % b = 0) ∨ (vRem a b < 0 ∧ a % b = vRem a b + b) := by
  unfold vRem
  rw [Int.tmod_eq_emod]
  have h1 := Int.emod_nonneg a (Int.ne_of_gt hb)
  have h2 := Int.emod_lt_of_pos a hb
  by_cases hd : b ∣ a
  · left
    have := Int.emod_eq_zero_of_dvd hd
    rw [if_pos (.inr hd)]
    omega
  · right
    rw [if_neg (by rintro (h' | h'); omega; exact hd h')]
    have : (b.natAbs : Int) = b := by omega
    rw [this]
    omega
theorem rest (n m : Int) (hn : I64 n) (hm : 0 < m ∧ m ≤ 9223372036854775807) (w : World) : Fc Try.prog 25 #[.int .i64 n, .int .i64 m] w (fun v w' => v = .int .i64 (n % m) ∧ w = w') := by
  refine Fc.of Try.func25 rfl (by kernel_rfl) ?_
  have H := Sat.start w
  have h1 := Int.emod_nonneg n (Int.ne_of_gt hm.1)
  have h2 := Int.emod_lt_of_pos n hm.1
  rcases Int.lt_or_le n 0 with hlt | hge
  · have hw := rem_ways hm.1 hlt
    refine DivP.mk (by omega) ?_
    refine EqP.keep ?_
    refine cI (fun c1 => ?_) (fun c1 => ?_)
    · replace c1 := vLt_t (c1)
      refine eqI64 (by omega) ?_
      refine Done.mk ?_
      refine ⟨?_, ?_⟩
      · refine int_eq ?_
        omega
      rfl
    replace c1 := vLt_f (c1)
    refine Done.mk ?_
    refine ⟨?_, ?_⟩
    · refine int_eq ?_
      omega
    rfl
  · refine DivP.mk (by omega) ?_
    refine eqRem (by omega) ?_
    refine cF (vLt_F (by assumption)) ?_
    refine Done.mk ?_
    exact ⟨rfl, rfl⟩
theorem stepN (n m : Int) (hn : I64 n) (hm : 0 < m ∧ m ≤ 9223372036854775807) (w : World) : Fc Try.prog 14 #[.int .i64 n, .int .i64 m] w (fun v w' => v = .int .i64 (n % m) ∧ w = w') := by
  refine Fc.of Try.func14 rfl (by kernel_rfl) ?_
  have H := Sat.start w
  refine CallP.mk (Fc.imp (Go.Proofs.Ytepceieglhfnoaa.Link.rest _ _ ?_ ?_ _) ?_)
  · assumption
  · assumption
  rintro _ _ ⟨rfl, rfl⟩
  refine Done.mk ?_
  exact ⟨rfl, rfl⟩
theorem eqS (w : World) (u v : Value) (xs ys : List (List UInt8)) (hx : Rd (fun s : List UInt8 => [.string (bs s)]) (fun _ => True) 1 w u xs) (hy : Rd (fun s : List UInt8 => [.string (bs s)]) (fun _ => True) 1 w v ys) :
    Fc Try.prog 20 #[u, v] w (fun r w' => ∃ b, r = .bool b ∧ (b = true ↔ xs = ys) ∧ Sat (froz w) w' []) := by
  refine Fc.of Try.func20 rfl (by kernel_rfl) ?_
  have H := Sat.start w
  have hx := hx.fz
  have hy := hy.fz
  have hlx := hx.len
  refine rLenF hx rfl ?_
  refine rLenF hy rfl ?_
  refine cI (fun c1 => ?_) (fun c1 => ?_)
  · replace c1 := vNe_t (c1)
    refine Done.mk ?_
    exact ⟨false, rfl, ⟨nofun, fun h => absurd (congrArg List.length h) (by omega)⟩, H⟩
  replace c1 := vNe_f (c1)
  refine rLenF hx rfl ?_
  refine LoopP.rule (α := Nat) (0) (fun x_ => [(14, .int .i64 x_)]) (fun x_ w_ => (x_ ≤ xs.length) ∧ (∀ q, q < x_ → xs[q]? = ys[q]?) ∧ Sat (froz w) w_ ([])) (fun x_ => xs.length - x_) ?_ ?_ ?_
  · repeat first | exact mt_nil | refine mt_cons rfl ?_ | refine mt_i rfl (by first | omega | (simp only; omega) | (simp; omega) | (simp; done)) ?_
  · try simp only
    refine ⟨?_, ?_⟩
    · omega
    refine ⟨?_, ?_⟩
    · (intro q hq; exact absurd hq (Nat.not_lt_zero q))
    exact H
  clear H
  rintro i f_ w_ ⟨hi, he, H⟩
  try simp only at hi he H ⊢
  refine cI (fun c2 => ?_) (fun c2 => ?_)
  · replace c2 := vLt_t (c2)
    refine bk ?_
    obtain ⟨x1, hx1⟩ : ∃ x, (xs)[(i)]? = some x := ⟨_, List.getElem?_eq_getElem (by omega)⟩
    obtain ⟨b1, o1, E1, F1, hok1⟩ := FSl.elt hx hx1
    refine rIxE E1 rfl rfl rfl ?_
    refine rLd (H.fat F1) 0 rfl rfl rfl ?_
    obtain ⟨x2, hx2⟩ : ∃ x, (ys)[(i)]? = some x := ⟨_, List.getElem?_eq_getElem (by omega)⟩
    obtain ⟨b2, o2, E2, F2, hok2⟩ := FSl.elt hy hx2
    refine rIxE E2 rfl rfl rfl ?_
    refine rLd (H.fat F2) 0 rfl rfl rfl ?_
    refine rStrNe ?_
    refine cI (fun c3 => ?_) (fun c3 => ?_)
    · replace c3 := dec_f (not_t (c3))
      refine Done.mk ?_
      refine ⟨false, ?_⟩
      refine ⟨?_, ?_⟩
      · exact congrArg Value.bool (rfl)
      refine ⟨?_, ?_⟩
      · exact ⟨nofun, fun h => absurd (by subst h; exact Option.some.inj (hx1.symm.trans hx2)) (by assumption)⟩
      exact H
    replace c3 := dec_t (not_f (c3))
    refine eqI64 (by omega) ?_
    refine Nxt.mk (i + 1) (mt_i rfl (by first | omega | (simp only; omega) | (simp; omega)) (mt_nil)) ?_ ?_
    · refine ⟨?_, ?_⟩
      · omega
      refine ⟨?_, ?_⟩
      · exact eq_step (by assumption) (by rw [hx1, hx2]; exact congrArg some (by assumption))
      exact H
    omega
  replace c2 := vLt_f (c2)
  refine Done.mk ?_
  exact ⟨true, rfl, ⟨fun _ => eq_all (by omega) (by omega) he, fun _ => rfl⟩, H⟩
end Go.Proofs.Ytepceieglhfnoaa.Link
