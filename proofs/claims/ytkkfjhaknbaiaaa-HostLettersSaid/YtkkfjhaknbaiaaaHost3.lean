/- Package host: Read of a sending. -/
import Derived.Test.YtkkfjhaknbaiaaaHost2
set_option maxRecDepth 100000
set_option maxHeartbeats 4000000
set_option linter.unusedVariables false
set_option linter.unusedSimpArgs false
namespace Go.Proofs.Ytkkfjhaknbaiaaa.Host
open Go Go.Proofs.Ytkkfjhaknbaiaaa.Eng Go.RowKit
def enI (n : Int) : List Value := [.int .i64 n]
def arr (n tag x y : Int) (k : Nat) : List Value := match k with
  | 0 => [.int .i64 0, .int .i64 0, .int .i64 0, .int .i64 0]
  | 1 => [.int .i64 (vWrap .i32 n), .int .i64 0, .int .i64 0, .int .i64 0]
  | 2 => [.int .i64 (vWrap .i32 n), .int .i64 (vWrap .i32 tag), .int .i64 0, .int .i64 0]
  | 3 => [.int .i64 (vWrap .i32 n), .int .i64 (vWrap .i32 tag), .int .i64 (vWrap .i32 x), .int .i64 0]
  | _ => [.int .i64 (vWrap .i32 n), .int .i64 (vWrap .i32 tag), .int .i64 (vWrap .i32 x), .int .i64 (vWrap .i32 y)]
theorem i32_rng (x : Int) : -2147483648 ≤ vWrap .i32 x ∧ vWrap .i32 x ≤ 2147483647 := vWrap_range .i32 x
theorem numP_i32 {a b : Int} (h : okN a b) : vWrap .i32 (numP a b) = numP a b := by
  obtain ⟨h1, h2, h3, h4⟩ := h
  unfold numP
  exact wi32 (by omega)
def vals (n tag x y : Int) : List Int := [n, tag, x, y]
theorem read {g : Glob} {w : World} {l : List As} {v : Value} (a b tag ad mn : Int) (H : Sat g w (Sl 2 1 enI v (vals (numP a b) tag ad mn) :: l)) (m : List UInt8) (h : okN a b) (hm : m.length ≤ 9223372036854775807) :
    Fc Try.prog 39 #[.string (bs [115, 101, 110, 100]), v, .string (bs m)] w (fun r w' => ∃ e k a' b' n t, r = .tuple #[.agg (wishC k a' b' n t).toArray, .int .i64 e] ∧ SR a b (vWrap .i32 tag) (vWrap .i32 ad) (vWrap .i32 mn) m e k a' b' n t ∧ Sat g w' l) := by
  refine Fc.of Try.func39 rfl (by kernel_rfl) ?_
  have hl4 : (vals (numP a b) tag ad mn).length = 4 := rfl
  have hk4 : ks4.length = 4 := rfl
  have hn := numP_i32 h
  have ht := i32_rng tag
  refine rAllocS H rfl ?_
  clear H
  intro p1 w1 H
  refine CallP.mk (Fc.imp (Go.Proofs.Ytkkfjhaknbaiaaa.Host.sig _) ?_)
  rintro _ w2 ⟨p2, ⟨q1, ⟨rfl, H'⟩⟩⟩
  refine H.mergeK H' ?_
  clear H H'
  intro H
  refine rAllocS H rfl ?_
  clear H
  intro p3 w3 H
  clear w2
  refine rStAS H 0 rfl rfl rfl rfl ?_
  clear H
  intro w2 H
  clear w3
  refine cF rfl ?_
  refine rLenS H 4 rfl rfl ?_
  refine rFieldAt rfl ?_
  refine rLd (H.at 0 rfl) 0 rfl rfl rfl ?_
  refine rLenSl rfl ?_
  refine cF (vNe_F (by omega)) ?_
  refine rAllocS H rfl ?_
  clear H
  intro p4 w3 H
  clear w2
  refine rFieldAt rfl ?_
  refine rLd (H.at 1 rfl) 0 rfl rfl rfl ?_
  refine rLenSl rfl ?_
  refine LoopP.rule (α := Nat) (0) (fun x_ => [(35, .int .i64 x_)]) (fun x_ w_ => (x_ ≤ 4) ∧ Sat g w_ ((Pt p4 (arr (numP a b) tag ad mn x_) 113 :: Sl 114 1 enK (.slice (some ⟨p2, 0, none⟩) 4 4) ks4 :: Pt p1 [.int .i64 0, .int .i64 0, .int .i64 0, .int .i64 0, .int .i64 0, .int .i64 0, .string (bs [])] 85 :: Sl 2 1 enI v (vals (numP a b) tag ad mn) :: l))) (fun x_ => 4 - x_) ?_ ?_ ?_
  · repeat first | exact mt_nil | refine mt_cons rfl ?_ | refine mt_i rfl (by first | omega | (simp only; omega) | (simp; omega) | (simp; done)) ?_
  · try simp only
    refine ⟨?_, ?_⟩
    · omega
    refine H.fronts [5, 5, 4, 3] ?_
    clear H
    intro H
    refine H.drop 5 ?_
    clear H
    intro H
    refine H.drop 4 ?_
    clear H
    intro H
    exact H
  clear H
  rintro k f_ w_ ⟨hk, H⟩
  try simp only at hk H ⊢
  rcases (show k = 0 ∨ k = 1 ∨ k = 2 ∨ k = 3 ∨ k = 4 by omega) with rfl | rfl | rfl | rfl | rfl
  · refine cT (vLt_T (by omega)) ?_
    refine bk ?_
    obtain ⟨x1, hx1⟩ : ∃ x, (ks4)[(0)]? = some x := ⟨_, List.getElem?_eq_getElem (by omega)⟩
    obtain ⟨b1, o1, E1⟩ := H.elt 1 rfl (0) (by omega)
    refine rIxE E1 rfl rfl rfl ?_
    refine rLd (H.el 1 rfl E1 hx1) 0 rfl rfl rfl ?_
    obtain ⟨x2, hx2⟩ : ∃ x, (vals (numP a b) tag ad mn)[(0)]? = some x := ⟨_, List.getElem?_eq_getElem (by omega)⟩
    obtain ⟨b2, o2, E2⟩ := H.elt 3 rfl (0) (by omega)
    refine rIxE E2 rfl rfl rfl ?_
    refine rLd (H.el 3 rfl E2 hx2) 0 rfl rfl rfl ?_
    refine CallP.mk (Fc.imp (Go.Proofs.Ytkkfjhaknbaiaaa.Host.fit _ _ ?_ _) ?_)
    · exact (Option.some.inj hx1).symm
    rintro _ w2 ⟨rfl, H'⟩
    refine H.mergeK H' ?_
    clear H H'
    intro H
    refine rIxArr 1 (0) (by omega) (by omega) rfl rfl ?_
    refine rStS H 0 rfl rfl rfl rfl ?_
    clear H
    intro w4 H
    clear w2
    refine eqI64 (by omega) ?_
    refine Nxt.mk (0 + 1) (mt_i rfl (by first | omega | (simp only; omega) | (simp; omega)) (mt_nil)) ?_ ?_
    · refine ⟨?_, ?_⟩
      · omega
      (obtain rfl := Option.some.inj hx2; exact H)
    omega
  · refine cT (vLt_T (by omega)) ?_
    refine bk ?_
    obtain ⟨x1, hx1⟩ : ∃ x, (ks4)[(1)]? = some x := ⟨_, List.getElem?_eq_getElem (by omega)⟩
    obtain ⟨b1, o1, E1⟩ := H.elt 1 rfl (1) (by omega)
    refine rIxE E1 rfl rfl rfl ?_
    refine rLd (H.el 1 rfl E1 hx1) 0 rfl rfl rfl ?_
    obtain ⟨x2, hx2⟩ : ∃ x, (vals (numP a b) tag ad mn)[(1)]? = some x := ⟨_, List.getElem?_eq_getElem (by omega)⟩
    obtain ⟨b2, o2, E2⟩ := H.elt 3 rfl (1) (by omega)
    refine rIxE E2 rfl rfl rfl ?_
    refine rLd (H.el 3 rfl E2 hx2) 0 rfl rfl rfl ?_
    refine CallP.mk (Fc.imp (Go.Proofs.Ytkkfjhaknbaiaaa.Host.fit _ _ ?_ _) ?_)
    · exact (Option.some.inj hx1).symm
    rintro _ w2 ⟨rfl, H'⟩
    refine H.mergeK H' ?_
    clear H H'
    intro H
    refine rIxArr 1 (1) (by omega) (by omega) rfl rfl ?_
    refine rStS H 0 rfl rfl rfl rfl ?_
    clear H
    intro w4 H
    clear w2
    refine eqI64 (by omega) ?_
    refine Nxt.mk (1 + 1) (mt_i rfl (by first | omega | (simp only; omega) | (simp; omega)) (mt_nil)) ?_ ?_
    · refine ⟨?_, ?_⟩
      · omega
      (obtain rfl := Option.some.inj hx2; exact H)
    omega
  · refine cT (vLt_T (by omega)) ?_
    refine bk ?_
    obtain ⟨x1, hx1⟩ : ∃ x, (ks4)[(2)]? = some x := ⟨_, List.getElem?_eq_getElem (by omega)⟩
    obtain ⟨b1, o1, E1⟩ := H.elt 1 rfl (2) (by omega)
    refine rIxE E1 rfl rfl rfl ?_
    refine rLd (H.el 1 rfl E1 hx1) 0 rfl rfl rfl ?_
    obtain ⟨x2, hx2⟩ : ∃ x, (vals (numP a b) tag ad mn)[(2)]? = some x := ⟨_, List.getElem?_eq_getElem (by omega)⟩
    obtain ⟨b2, o2, E2⟩ := H.elt 3 rfl (2) (by omega)
    refine rIxE E2 rfl rfl rfl ?_
    refine rLd (H.el 3 rfl E2 hx2) 0 rfl rfl rfl ?_
    refine CallP.mk (Fc.imp (Go.Proofs.Ytkkfjhaknbaiaaa.Host.fit _ _ ?_ _) ?_)
    · exact (Option.some.inj hx1).symm
    rintro _ w2 ⟨rfl, H'⟩
    refine H.mergeK H' ?_
    clear H H'
    intro H
    refine rIxArr 1 (2) (by omega) (by omega) rfl rfl ?_
    refine rStS H 0 rfl rfl rfl rfl ?_
    clear H
    intro w4 H
    clear w2
    refine eqI64 (by omega) ?_
    refine Nxt.mk (2 + 1) (mt_i rfl (by first | omega | (simp only; omega) | (simp; omega)) (mt_nil)) ?_ ?_
    · refine ⟨?_, ?_⟩
      · omega
      (obtain rfl := Option.some.inj hx2; exact H)
    omega
  · refine cT (vLt_T (by omega)) ?_
    refine bk ?_
    obtain ⟨x1, hx1⟩ : ∃ x, (ks4)[(3)]? = some x := ⟨_, List.getElem?_eq_getElem (by omega)⟩
    obtain ⟨b1, o1, E1⟩ := H.elt 1 rfl (3) (by omega)
    refine rIxE E1 rfl rfl rfl ?_
    refine rLd (H.el 1 rfl E1 hx1) 0 rfl rfl rfl ?_
    obtain ⟨x2, hx2⟩ : ∃ x, (vals (numP a b) tag ad mn)[(3)]? = some x := ⟨_, List.getElem?_eq_getElem (by omega)⟩
    obtain ⟨b2, o2, E2⟩ := H.elt 3 rfl (3) (by omega)
    refine rIxE E2 rfl rfl rfl ?_
    refine rLd (H.el 3 rfl E2 hx2) 0 rfl rfl rfl ?_
    refine CallP.mk (Fc.imp (Go.Proofs.Ytkkfjhaknbaiaaa.Host.fit _ _ ?_ _) ?_)
    · exact (Option.some.inj hx1).symm
    rintro _ w2 ⟨rfl, H'⟩
    refine H.mergeK H' ?_
    clear H H'
    intro H
    refine rIxArr 1 (3) (by omega) (by omega) rfl rfl ?_
    refine rStS H 0 rfl rfl rfl rfl ?_
    clear H
    intro w4 H
    clear w2
    refine eqI64 (by omega) ?_
    refine Nxt.mk (3 + 1) (mt_i rfl (by first | omega | (simp only; omega) | (simp; omega)) (mt_nil)) ?_ ?_
    · refine ⟨?_, ?_⟩
      · omega
      (obtain rfl := Option.some.inj hx2; exact H)
    omega
  · rw [show arr (numP a b) tag ad mn 4 = [.int .i64 (vWrap .i32 (numP a b)), .int .i64 (vWrap .i32 tag), .int .i64 (vWrap .i32 ad), .int .i64 (vWrap .i32 mn)] from rfl] at H
    refine cF (vLt_F (by omega)) ?_
    refine CallP.mk (Fc.imp (Go.Proofs.Ytkkfjhaknbaiaaa.Host.kindOf _) ?_)
    rintro _ w2 ⟨rfl, H'⟩
    refine H.mergeK H' ?_
    clear H H'
    intro H
    refine rBuild rfl rfl rfl ?_
    refine rAllocS H rfl ?_
    clear H
    intro p5 w4 H
    clear w2
    refine rStAS H 0 rfl rfl rfl rfl ?_
    clear H
    intro w2 H
    clear w4
    refine rFieldAt rfl ?_
    refine rLd (H.at 0 rfl) 0 rfl rfl rfl ?_
    refine bk ?_
    refine cT (vEq_T (by omega)) ?_
    refine rLdA (H.at 0 rfl) 0 rfl rfl rfl ?_
    refine rLdA (H.at 1 rfl) 0 rfl rfl rfl ?_
    refine CallP.mk (Fc.imp (send a b (vWrap .i32 (numP a b)) (vWrap .i32 tag) (vWrap .i32 ad) (vWrap .i32 mn) m h hn (by omega) hm _) ?_)
    rintro r w5 ⟨e, k, a', b', n, t, rfl, hS, HS⟩
    replace H := H.merge HS
    simp only [List.nil_append] at H
    refine rStAS H 3 rfl rfl rfl rfl ?_
    clear H
    intro w4 H
    refine rdAN (H.at 3 rfl) 0 rfl rfl rfl ?_
    refine Done.mk ?_
    refine ⟨e, k, a', b', n, t, ?_⟩
    refine ⟨?_, ?_⟩
    · rfl
    refine ⟨?_, ?_⟩
    · exact hS
    refine H.drop 4 ?_
    clear H
    intro H
    refine H.drop 3 ?_
    clear H
    intro H
    refine H.drop 2 ?_
    clear H
    intro H
    refine H.drop 1 ?_
    clear H
    intro H
    refine H.drop 0 ?_
    clear H
    intro H
    exact H
end Go.Proofs.Ytkkfjhaknbaiaaa.Host
