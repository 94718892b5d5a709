/- Package timer: the line's Push and Pop. -/
import Derived.Test.YtneemelcfmlpdaaTimer
set_option maxRecDepth 100000
set_option maxHeartbeats 4000000
set_option linter.unusedVariables false
set_option linter.unusedSimpArgs false
namespace Go.Proofs.Ytneemelcfmlpdaa.Timer
open Go Go.Proofs.Ytneemelcfmlpdaa.Eng Go.RowKit
section
variable {g : Glob} {w : World} {l : List As} {c : Nat} {v : Value} {now turn : Int} {xs : List Tm}
theorem push (H : Sat g w (Pt c [.int .i64 now, .int .i64 turn, v] 48 :: Sl 52 3 enT v xs :: l)) (x : Tm) (hl : xs.length ≤ 100000) :
    Fc Try.prog 43 #[.pointer (some ⟨c, 2, none⟩), .iface 52 (.agg #[.int .i64 x.id, .int .i64 x.due, .int .i64 x.turn])] w (fun r w' => ∃ v', Sat g w' (Pt c [.int .i64 now, .int .i64 turn, v'] 48 :: Sl 52 3 enT v' (xs ++ [x]) :: l)) := by
  refine Fc.of Try.func43 rfl (by kernel_rfl) ?_
  refine rAssertT rfl rfl ?_
  refine rAllocS H rfl ?_
  clear H
  intro p1 w1 H
  refine rStAS H 0 rfl rfl rfl rfl ?_
  clear H
  intro w2 H
  clear w1
  refine cT rfl ?_
  refine drawzS H [] [(0, .pure), (1, .pure), (2, .pure), (3, .held), (4, .held), (5, .forced), (6, .free), (7, .pure), (8, .free)] mixed (by kernel_rfl) (by kernel_rfl) ?_
  clear H
  intro w1 H
  clear w2
  refine tk (fun wx HS => rLd (HS.at 1 rfl) 2 rfl rfl rfl ⟨rfl, rfl⟩) ?_
  refine tk (fun wx HS => rLdA (HS.at 0 rfl) 0 rfl rfl rfl ⟨rfl, rfl⟩) ?_
  refine rBuildSliceS H rfl rfl rfl rfl ?_
  clear H
  intro p2 w2 H
  clear w1
  refine KeepP.mk (H.drop 0 (fun H => H)) ?_
  refine rApS (ys := [⟨_, _, _⟩]) 24 H 3 rfl (H.at 0 rfl) rfl (fun y _ => rfl) rfl rfl rfl (by omega) (by omega) ?_
  intro v1
  clear H
  intro w1 H
  clear w2
  refine rStS H 2 rfl rfl rfl (H.one 3 rfl) ?_
  clear H
  intro w2 H
  clear w1
  refine Done.mk ?_
  refine ⟨v1, ?_⟩
  refine H.fronts [3, 3] ?_
  clear H
  intro H
  refine H.drop 3 ?_
  clear H
  intro H
  refine H.drop 2 ?_
  clear H
  intro H
  exact H
theorem pop (H : Sat g w (Pt c [.int .i64 now, .int .i64 turn, v] 48 :: Sl 52 3 enT v xs :: l)) (hn : 0 < xs.length) (hl : xs.length ≤ 100000) :
    Fc Try.prog 42 #[.pointer (some ⟨c, 2, none⟩)] w (fun r w' => ∃ v' x, r = .iface 52 (.agg #[.int .i64 x.id, .int .i64 x.due, .int .i64 x.turn]) ∧ xs[xs.length - 1]? = some x ∧ Sat g w' (Pt c [.int .i64 now, .int .i64 turn, v'] 48 :: Sl 52 3 enT v' (xs.take (xs.length - 1)) :: l)) := by
  refine Fc.of Try.func42 rfl (by kernel_rfl) ?_
  refine rLd (H.at 0 rfl) 2 rfl rfl rfl ?_
  refine rLenS H 1 rfl rfl ?_
  refine eqI64 (by omega) ?_
  refine rLd (H.at 0 rfl) 2 rfl rfl rfl ?_
  obtain ⟨x1, hx1⟩ : ∃ x, (xs)[((xs.length) - 1)]? = some x := ⟨_, List.getElem?_eq_getElem (by omega)⟩
  obtain ⟨b1, o1, E1⟩ := H.elt 1 rfl ((xs.length) - 1) (by omega)
  refine rIxE E1 (by omega) rfl rfl ?_
  refine rLdA (H.el 1 rfl E1 hx1) 0 rfl rfl rfl ?_
  refine rAllocS H rfl ?_
  clear H
  intro p1 w1 H
  refine rStAS H 0 rfl rfl rfl rfl ?_
  clear H
  intro w2 H
  clear w1
  refine rLd (H.at 1 rfl) 2 rfl rfl rfl ?_
  refine rSlS H 2 rfl 0 ((xs.length) - 1) rfl rfl (by omega) (by omega) (.inl ⟨rfl, rfl⟩) (.inr ⟨_, by first | rfl | (congr 2; omega)⟩) ?_
  intro v1
  clear H
  intro H
  refine rStS H 1 rfl rfl rfl (H.one 2 rfl) ?_
  clear H
  intro w1 H
  clear w2
  refine rLdA (H.at 0 rfl) 0 rfl rfl rfl ?_
  refine rIface rfl rfl ?_
  refine Done.mk ?_
  refine ⟨v1, x1, ?_⟩
  refine ⟨?_, ?_⟩
  · rfl
  refine ⟨?_, ?_⟩
  · assumption
  refine H.fronts [2, 2] ?_
  clear H
  intro H
  refine H.drop 2 ?_
  clear H
  intro H
  exact H
end
end Go.Proofs.Ytneemelcfmlpdaa.Timer
