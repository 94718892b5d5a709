/- Package timer: the line as a heap. -/
import Derived.Test.YtneemelcfmlpdaaMeth
import Derived.Test.YtneemelcfmlpdaaVw
import Derived.Test.YtneemelcfmlpdaaJoin
set_option maxRecDepth 100000
set_option maxHeartbeats 4000000
set_option linter.unusedVariables false
set_option linter.unusedSimpArgs false
namespace Go.Proofs.Ytneemelcfmlpdaa.Timer
open Go Go.Proofs.Ytneemelcfmlpdaa.Eng Go.RowKit
structure Tm where
  id : Int
  due : Int
  turn : Int
def enT (x : Tm) : List Value := [.int .i64 x.id, .int .i64 x.due, .int .i64 x.turn]
abbrev aggT (x : Tm) : Value := .agg #[.int .i64 x.id, .int .i64 x.due, .int .i64 x.turn]
def lessT (a b : Tm) : Bool := if a.due = b.due then decide (a.turn < b.turn) else decide (a.due < b.due)
def swapT (xs : List Tm) (i j : Nat) : List Tm := match xs[i]?, xs[j]? with
  | some a, some b => (xs.set i b).set j a
  | _, _ => xs
theorem swapT_of {xs : List Tm} {i j : Nat} {a b : Tm} (h1 : xs[i]? = some a) (h2 : xs[j]? = some b) : swapT xs i j = (xs.set i b).set j a := by
  unfold swapT; rw [h1, h2]
theorem swapT_len (xs : List Tm) (i j : Nat) : (swapT xs i j).length = xs.length := by
  unfold swapT; split <;> simp
theorem len (w : World) (v : Value) (xs : List Tm) (hx : Rd enT (fun _ => True) 3 w v xs) : Fc Try.prog 39 #[v] w (fun r w' => r = .int .i64 xs.length ∧ w = w') := by
  refine Fc.of Try.func39 rfl (by kernel_rfl) ?_
  have H := Sat.start w
  have hx := hx.fz
  refine rLenF hx rfl ?_
  refine Done.mk ?_
  exact ⟨rfl, rfl⟩
theorem less (w : World) (v : Value) (xs : List Tm) (hx : Rd enT (fun _ => True) 3 w v xs) (I J : Int) (i j : Nat) (hI : I = (i : Int)) (hJ : J = (j : Int)) (a b : Tm) (ha : xs[i]? = some a) (hb : xs[j]? = some b) :
    Fc Try.prog 40 #[v, .int .i64 I, .int .i64 J] w (fun r w' => r = .bool (lessT a b) ∧ Sat (froz w) w' []) := by
  subst hI
  subst hJ
  refine Fc.of Try.func40 rfl (by kernel_rfl) ?_
  have H := Sat.start w
  have hx := hx.fz
  have hl := hx.len
  have hi := (List.getElem?_eq_some_iff.1 ha).1
  have hj := (List.getElem?_eq_some_iff.1 hb).1
  by_cases hd : a.due = b.due
  · have e : lessT a b = decide (a.turn < b.turn) := if_pos hd
    refine drawzS H [] [(0, .pure), (1, .pure), (2, .pure), (3, .pure), (4, .held), (5, .pure), (6, .pure), (7, .pure), (8, .pure), (9, .held), (10, .pure)] mixed (by kernel_rfl) (by kernel_rfl) ?_
    clear H
    intro w1 H
    obtain ⟨b1, o1, E1, F1, hok1⟩ := FSl.elt hx ha
    refine tk (fun wx HS => rIxE E1 rfl rfl rfl ⟨rfl, rfl⟩) ?_
    refine tk (fun wx HS => rFieldAt rfl ⟨rfl, rfl⟩) ?_
    refine tk (fun wx HS => rLd (HS.fat F1) 1 rfl rfl rfl ⟨rfl, rfl⟩) ?_
    obtain ⟨b2, o2, E2, F2, hok2⟩ := FSl.elt hx hb
    refine tk (fun wx HS => rIxE E2 rfl rfl rfl ⟨rfl, rfl⟩) ?_
    refine tk (fun wx HS => rFieldAt rfl ⟨rfl, rfl⟩) ?_
    refine tk (fun wx HS => rLd (HS.fat F2) 1 rfl rfl rfl ⟨rfl, rfl⟩) ?_
    refine cF (vNe_F (by assumption)) ?_
    refine drawzS H [] [(0, .pure), (1, .pure), (2, .pure), (3, .pure), (4, .held), (5, .pure), (6, .pure), (7, .pure), (8, .pure), (9, .held), (10, .pure), (11, .pure)] mixed (by kernel_rfl) (by kernel_rfl) ?_
    clear H
    intro w2 H
    clear w1
    refine tk (fun wx HS => rIxE E1 rfl rfl rfl ⟨rfl, rfl⟩) ?_
    refine tk (fun wx HS => rFieldAt rfl ⟨rfl, rfl⟩) ?_
    refine tk (fun wx HS => rLd (HS.fat F1) 2 rfl rfl rfl ⟨rfl, rfl⟩) ?_
    refine tk (fun wx HS => rIxE E2 rfl rfl rfl ⟨rfl, rfl⟩) ?_
    refine tk (fun wx HS => rFieldAt rfl ⟨rfl, rfl⟩) ?_
    refine tk (fun wx HS => rLd (HS.fat F2) 2 rfl rfl rfl ⟨rfl, rfl⟩) ?_
    refine Done.mk ?_
    refine ⟨?_, ?_⟩
    · (rw [e, vLt_iff]; done)
    exact H
  · have e : lessT a b = decide (a.due < b.due) := if_neg hd
    refine drawzS H [] [(0, .pure), (1, .pure), (2, .pure), (3, .pure), (4, .held), (5, .pure), (6, .pure), (7, .pure), (8, .pure), (9, .held), (10, .pure)] mixed (by kernel_rfl) (by kernel_rfl) ?_
    clear H
    intro w1 H
    obtain ⟨b1, o1, E1, F1, hok1⟩ := FSl.elt hx ha
    refine tk (fun wx HS => rIxE E1 rfl rfl rfl ⟨rfl, rfl⟩) ?_
    refine tk (fun wx HS => rFieldAt rfl ⟨rfl, rfl⟩) ?_
    refine tk (fun wx HS => rLd (HS.fat F1) 1 rfl rfl rfl ⟨rfl, rfl⟩) ?_
    obtain ⟨b2, o2, E2, F2, hok2⟩ := FSl.elt hx hb
    refine tk (fun wx HS => rIxE E2 rfl rfl rfl ⟨rfl, rfl⟩) ?_
    refine tk (fun wx HS => rFieldAt rfl ⟨rfl, rfl⟩) ?_
    refine tk (fun wx HS => rLd (HS.fat F2) 1 rfl rfl rfl ⟨rfl, rfl⟩) ?_
    refine cT (vNe_T (by assumption)) ?_
    refine drawzS H [] [(0, .pure), (1, .pure), (2, .pure), (3, .pure), (4, .held), (5, .pure), (6, .pure), (7, .pure), (8, .pure), (9, .held), (10, .pure), (11, .pure)] mixed (by kernel_rfl) (by kernel_rfl) ?_
    clear H
    intro w2 H
    clear w1
    refine tk (fun wx HS => rIxE E1 rfl rfl rfl ⟨rfl, rfl⟩) ?_
    refine tk (fun wx HS => rFieldAt rfl ⟨rfl, rfl⟩) ?_
    refine tk (fun wx HS => rLd (HS.fat F1) 1 rfl rfl rfl ⟨rfl, rfl⟩) ?_
    refine tk (fun wx HS => rIxE E2 rfl rfl rfl ⟨rfl, rfl⟩) ?_
    refine tk (fun wx HS => rFieldAt rfl ⟨rfl, rfl⟩) ?_
    refine tk (fun wx HS => rLd (HS.fat F2) 1 rfl rfl rfl ⟨rfl, rfl⟩) ?_
    refine Done.mk ?_
    refine ⟨?_, ?_⟩
    · (rw [e, vLt_iff]; done)
    exact H
section
variable {g : Glob} {w : World} {l : List As} {c : Nat} {v : Value} {now turn : Int} {xs : List Tm}
theorem swap (H : Sat g w (Sl 52 3 enT v xs :: l)) (I J : Int) (i j : Nat) (hI : I = (i : Int)) (hJ : J = (j : Int)) (hi : i < xs.length) (hj : j < xs.length) (hl : xs.length ≤ 100000) :
    Fc Try.prog 41 #[v, .int .i64 I, .int .i64 J] w (fun r w' => ∃ ys, ys = swapT xs i j ∧ ys.length = xs.length ∧ Sat g w' (Sl 52 3 enT v ys :: l)) := by
  subst hI
  subst hJ
  refine Fc.of Try.func41 rfl (by kernel_rfl) ?_
  obtain ⟨a, ha⟩ : ∃ a, xs[i]? = some a := ⟨_, List.getElem?_eq_getElem hi⟩
  obtain ⟨b, hb⟩ : ∃ b, xs[j]? = some b := ⟨_, List.getElem?_eq_getElem hj⟩
  have e := swapT_of ha hb
  have el := swapT_len xs i j
  refine drawzS H [] [(0, .pure), (1, .pure), (2, .pure), (3, .pure), (4, .pure), (5, .pure), (6, .pure), (7, .held), (8, .pure), (9, .pure), (10, .pure), (11, .held), (12, .pure), (13, .free), (14, .pure), (15, .free)] mixed (by kernel_rfl) (by kernel_rfl) ?_
  clear H
  intro w1 H
  obtain ⟨b1, o1, E1⟩ := H.elt 0 rfl (j) (by omega)
  refine tk (fun wx HS => rIxE E1 rfl rfl rfl ⟨rfl, rfl⟩) ?_
  refine tk (fun wx HS => rLdA (HS.el 0 rfl E1 hb) 0 rfl rfl rfl ⟨rfl, rfl⟩) ?_
  obtain ⟨b2, o2, E2⟩ := H.elt 0 rfl (i) (by omega)
  refine tk (fun wx HS => rIxE E2 rfl rfl rfl ⟨rfl, rfl⟩) ?_
  refine tk (fun wx HS => rLdA (HS.el 0 rfl E2 ha) 0 rfl rfl rfl ⟨rfl, rfl⟩) ?_
  refine tk (fun wx HS => rIxE E2 rfl rfl rfl ⟨rfl, rfl⟩) ?_
  refine rStEA H 0 rfl E2 ha 0 ⟨(b.id), (b.due), (b.turn)⟩ rfl rfl rfl rfl ?_
  clear H
  intro w2 H
  clear w1
  refine tk (fun wx HS => rIxE E1 rfl rfl rfl ⟨rfl, rfl⟩) ?_
  obtain ⟨x1, hx1⟩ : ∃ x, (xs.set i { id := b.id, due := b.due, turn := b.turn })[j]? = some x := ⟨_, List.getElem?_eq_getElem (by (simp only [List.length_append, List.length_set, List.length_cons, List.length_nil]; omega))⟩
  refine rStEA H 0 rfl E1 hx1 0 ⟨(a.id), (a.due), (a.turn)⟩ rfl rfl rfl rfl ?_
  clear H
  intro w1 H
  clear w2
  refine Done.mk ?_
  refine ⟨swapT xs i j, ?_⟩
  refine ⟨?_, ?_⟩
  · rfl
  refine ⟨?_, ?_⟩
  · assumption
  refine H.cg (cgC (cgSl ?_) (rfl))
  exact e.symm
end
end Go.Proofs.Ytneemelcfmlpdaa.Timer
